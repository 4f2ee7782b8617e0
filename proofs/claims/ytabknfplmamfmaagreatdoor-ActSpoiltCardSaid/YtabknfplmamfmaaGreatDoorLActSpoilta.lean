import Derived.Shelf.Strings.Builder1
import Derived.Shelf.Strings.Builder2
import Derived.Shelf.Small.Strs
import Derived.Shelf.Strings.BuilderF
import Derived.Shelf.Strings.BuilderK
import Derived.Shelf.Strings.Builder2Cap
import Derived.Shelf.Strconv.Itoa0
import Derived.Shelf.Strconv.Itoa1
import Derived.Shelf.LaysM
import Derived.Shelf.Strconv.Itoa2
import Derived.Shelf.Strconv.Itoa3
import Derived.Shelf.Strconv.Itoa4
import Derived.Shelf.Strconv.ParseIntEmpty
import Derived.Shelf.Strconv.Clone
import Derived.Shelf.Strconv.SyntaxError
import Derived.Shelf.LaysC
import Derived.Shelf.Strconv.ToError
import Derived.Shelf.Strconv.Lower
import Derived.Shelf.Strconv.ParseUint10
import Derived.Shelf.Strconv.ParseUint10Empty
import Derived.Shelf.Strconv.ParseUint10Any
import Derived.Shelf.Strconv.ParseInt10
import Derived.Shelf.Strconv.RangeError
import Derived.Shelf.Strconv.ToErrorRange
import Derived.Shelf.Strconv.ParseUintEmpty
import Derived.Shelf.Strconv.ParseUint10b64
import Derived.Shelf.Strconv.ParseUint10b32
import Derived.Shelf.Strconv.ParseUint10b16
import Derived.Shelf.Strconv.ParseUint10b8
import Derived.Shelf.Strconv.ParseUint10At
import Derived.Shelf.Strconv.ParseInt10At64
import Derived.Shelf.Strconv.ParseInt10At32
import Derived.Shelf.Strconv.ParseInt10At16
import Derived.Shelf.Strconv.ParseInt10At8
import Derived.Shelf.Strconv.ParseInt10All
import Derived.Shelf.Strconv.ParseIntPublic10
import Derived.Shelf.Strings.Search1
import Derived.Shelf.Strings.Search2
import Derived.Shelf.Strings.Search3
import Derived.Shelf.Strings.Shaped
import Derived.Shelf.Strings.Prefix
import Derived.Shelf.Bits.Mul64
import Derived.Shelf.Strings.Repeat
import Derived.Lib.ItoaMem
import Derived.Stop.LaidErr
import Derived.Shelf.Vars
import Derived.MakeChecks
import Derived.LaidHandle
import Derived.ChangeSame
import Derived.ChangeVars
import Derived.JoinedOf
import Derived.RowKit
import Derived.HandedShaped
import Derived.LaidMore
import Derived.LaidLaws
import Derived.Lay
import Derived.Test.YtabknfplmamfmaaGreatDoorProg
import Derived.Test.YtabknfplmamfmaaGreatDoorRows
import Derived.Test.YtabknfplmamfmaaGreatDoorSc
set_option linter.unusedVariables false
set_option linter.unusedSimpArgs false
/-
 DERIVED:THE SHELF's CONTRACTS AT THIS DUMP,IN PLAIN WORDS (tools/lay-plain.mjs out of 'XAcL.lean',which tools/lay-shelf.mjs wrote):THE SAME DECLARATIONS UNDER THE SAME NAMES: 'import', 'namespace', 'open', 'def', 'theorem' AND NOTHING ELSE:no command of the shelf's:FOR A HAND-IN. Each laying:the table of numbers ('.._ren') and one theorem,a field a fact of the dump's own or the kernel's comparison; each contract:ONE APPLICATION.
-/
namespace Go.Proofs
open Go.Shelf
def Tryz.U2:Go.Shelf.Ren:=⟨fun | 137=>69 | 217=>98 | 266=>118 | n=>n,fun | 9=>9 | 5=>5 | 3=>3 | n=>n,fun | n=>n⟩
theorem Tryz.U1:Go.Proofs.Lays.n137 Tryz.prog Tryz.U2:= {
 mixed:=by kernel_rfl
 f137:=Tryz.func69.trans (congrArg some (by kernel_rfl))
 f217:=Tryz.func98.trans (congrArg some (by kernel_rfl))
 f266:=Tryz.func118.trans (congrArg some (by kernel_rfl))
 t3:=Tryz.underlying3
 a3:=Tryz.isAgg3
 z3:=Tryz.sizeOf3
 v3:=Tryz.zeroValue3
 t5:=Tryz.underlying5
 a5:=Tryz.isAgg5
 z5:=Tryz.sizeOf5
 v5:=Tryz.zeroValue5
 t9:=Tryz.underlying9
 a9:=Tryz.isAgg9
 z9:=Tryz.sizeOf9
 v9:=Tryz.zeroValue9 }
open Go.RowKit in
theorem Tryz.strings_IndexByte (s:ByteArray) (c:Int) (w:World):
 Calls Tryz.prog 69 #[.string s, .int .u8 c] w fun e w'=>e= .returned (.int .i64 (Lib.indexByte s.data.toList c.toNat.toUInt8))∧w'=w:=Any.strings_IndexByte Tryz.U1 s c w
def Tryz.U4:Go.Shelf.Ren:=⟨fun | 144=>100 | 143=>121 | 219=>142 | 217=>98 | 225=>155 | 224=>156 | 267=>157 | 266=>118 | 314=>168 | n=>n,fun | 9=>9 | 4=>4 | 3=>3 | 5=>5 | 46=>139 | 146=>155 | 51=>154 | n=>n,fun | 1=>0 | n=>n⟩
theorem Tryz.U3:Go.Proofs.Lays.n144 Tryz.prog Tryz.U4:= {
 mixed:=by kernel_rfl
 f143:=Tryz.func121.trans (congrArg some (by kernel_rfl))
 f144:=Tryz.func100.trans (congrArg some (by kernel_rfl))
 f217:=Tryz.func98.trans (congrArg some (by kernel_rfl))
 f219:=Tryz.func142.trans (congrArg some (by kernel_rfl))
 f224:=Tryz.func156.trans (congrArg some (by kernel_rfl))
 f225:=Tryz.func155.trans (congrArg some (by kernel_rfl))
 f266:=Tryz.func118.trans (congrArg some (by kernel_rfl))
 f267:=Tryz.func157.trans (congrArg some (by kernel_rfl))
 f314:=Tryz.func168.trans (congrArg some (by kernel_rfl))
 t3:=Tryz.underlying3
 a3:=Tryz.isAgg3
 z3:=Tryz.sizeOf3
 v3:=Tryz.zeroValue3
 t4:=Tryz.underlying4
 a4:=Tryz.isAgg4
 z4:=Tryz.sizeOf4
 v4:=Tryz.zeroValue4
 t5:=Tryz.underlying5
 a5:=Tryz.isAgg5
 z5:=Tryz.sizeOf5
 v5:=Tryz.zeroValue5
 t9:=Tryz.underlying9
 a9:=Tryz.isAgg9
 z9:=Tryz.sizeOf9
 v9:=Tryz.zeroValue9
 t46:=Tryz.underlying139
 a46:=Tryz.isAgg139
 z46:=Tryz.sizeOf139
 v46:=Tryz.zeroValue139
 t51:=Tryz.underlying154
 a51:=Tryz.isAgg154
 z51:=Tryz.sizeOf154
 v51:=Tryz.zeroValue154
 t146:=Tryz.underlying155
 a146:=Tryz.isAgg155
 z146:=Tryz.sizeOf155
 v146:=Tryz.zeroValue155
 g1:=by kernel_rfl }
open Go.RowKit Go.Lib in
theorem Tryz.strings_Contains (s sub:ByteArray) (m:Int) (w:World) (hs:s.size<4294967281) (hm:w.cell? ⟨0,0,none⟩=some (.int .i64 m)):
 Calls Tryz.prog 100 #[.string s, .string sub] w fun e w'=>e= .returned (.bool (Lib.contains s.data.toList sub.data.toList))∧w'=w:=Any.strings_Contains Tryz.U3 s sub m w hs hm
def Tryz.U7:Go.Shelf.Ren:=⟨fun | 174=>99 | 247=>119 | 245=>120 | 287=>137 | 279=>138 | 280=>139 | 281=>140 | 282=>141 | 321=>151 | 322=>152 | 316=>153 | 171=>110 | 205=>154 | 243=>131 | 246=>146 | 283=>158 | 284=>159 | 285=>160 | 286=>161 | 129=>170 | 317=>169 | 318=>171 | 319=>172 | 320=>173 | 337=>176 | 338=>177 | n=>n,fun | 9=>9 | 3=>3 | 2=>2 | 75=>117 | 85=>134 | 4=>4 | 167=>169 | 5=>5 | 53=>157 | 175=>170 | 46=>139 | 168=>172 | 37=>79 | 0=>0 | 210=>187 | 21=>21 | 127=>122 | 145=>199 | 143=>197 | 171=>190 | 173=>193 | 212=>202 | 51=>154 | 20=>20 | 213=>203 | 232=>206 | 233=>207 | 80=>83 | n=>n,fun | 15=>1 | 16=>2 | 17=>3 | 18=>4 | 19=>5 | n=>n⟩
theorem Tryz.FT:Go.Proofs.LaysC.n174 Tryz.prog Tryz.U7:= {
 mixed:=by kernel_rfl
 f129:=Tryz.func170.trans (congrArg some (by kernel_rfl))
 f171:=Tryz.func110.trans (congrArg some (by kernel_rfl))
 f174:=Tryz.func99.trans (congrArg some (by kernel_rfl))
 f205:=Tryz.func154.trans (congrArg some (by kernel_rfl))
 f243:=Tryz.func131.trans (congrArg some (by kernel_rfl))
 f245:=Tryz.func120.trans (congrArg some (by kernel_rfl))
 f246:=Tryz.func146.trans (congrArg some (by kernel_rfl))
 f247:=Tryz.func119.trans (congrArg some (by kernel_rfl))
 f279:=Tryz.func138.trans (congrArg some (by kernel_rfl))
 f280:=Tryz.func139.trans (congrArg some (by kernel_rfl))
 f281:=Tryz.func140.trans (congrArg some (by kernel_rfl))
 f282:=Tryz.func141.trans (congrArg some (by kernel_rfl))
 f283:=Tryz.func158.trans (congrArg some (by kernel_rfl))
 f284:=Tryz.func159.trans (congrArg some (by kernel_rfl))
 f285:=Tryz.func160.trans (congrArg some (by kernel_rfl))
 f286:=Tryz.func161.trans (congrArg some (by kernel_rfl))
 f287:=Tryz.func137.trans (congrArg some (by kernel_rfl))
 f316:=Tryz.func153.trans (congrArg some (by kernel_rfl))
 f317:=Tryz.func169.trans (congrArg some (by kernel_rfl))
 f318:=Tryz.func171.trans (congrArg some (by kernel_rfl))
 f319:=Tryz.func172.trans (congrArg some (by kernel_rfl))
 f320:=Tryz.func173.trans (congrArg some (by kernel_rfl))
 f321:=Tryz.func151.trans (congrArg some (by kernel_rfl))
 f322:=Tryz.func152.trans (congrArg some (by kernel_rfl))
 f337:=Tryz.func176.trans (congrArg some (by kernel_rfl))
 f338:=Tryz.func177.trans (congrArg some (by kernel_rfl))
 t0:=Tryz.underlying0
 a0:=Tryz.isAgg0
 z0:=Tryz.sizeOf0
 v0:=Tryz.zeroValue0
 t2:=Tryz.underlying2
 a2:=Tryz.isAgg2
 z2:=Tryz.sizeOf2
 v2:=Tryz.zeroValue2
 t3:=Tryz.underlying3
 a3:=Tryz.isAgg3
 z3:=Tryz.sizeOf3
 v3:=Tryz.zeroValue3
 t4:=Tryz.underlying4
 a4:=Tryz.isAgg4
 z4:=Tryz.sizeOf4
 v4:=Tryz.zeroValue4
 t5:=Tryz.underlying5
 a5:=Tryz.isAgg5
 z5:=Tryz.sizeOf5
 v5:=Tryz.zeroValue5
 t9:=Tryz.underlying9
 a9:=Tryz.isAgg9
 z9:=Tryz.sizeOf9
 v9:=Tryz.zeroValue9
 t20:=Tryz.underlying20
 a20:=Tryz.isAgg20
 z20:=Tryz.sizeOf20
 v20:=Tryz.zeroValue20
 t21:=Tryz.underlying21
 a21:=Tryz.isAgg21
 z21:=Tryz.sizeOf21
 v21:=Tryz.zeroValue21
 t37:=Tryz.underlying79
 a37:=Tryz.isAgg79
 z37:=Tryz.sizeOf79
 v37:=Tryz.zeroValue79
 t46:=Tryz.underlying139
 a46:=Tryz.isAgg139
 z46:=Tryz.sizeOf139
 v46:=Tryz.zeroValue139
 t51:=Tryz.underlying154
 a51:=Tryz.isAgg154
 z51:=Tryz.sizeOf154
 v51:=Tryz.zeroValue154
 t53:=Tryz.underlying157
 a53:=Tryz.isAgg157
 z53:=Tryz.sizeOf157
 v53:=Tryz.zeroValue157
 t75:=Tryz.underlying117
 a75:=Tryz.isAgg117
 z75:=Tryz.sizeOf117
 v75:=Tryz.zeroValue117
 t85:=Tryz.underlying134
 a85:=Tryz.isAgg134
 z85:=Tryz.sizeOf134
 v85:=Tryz.zeroValue134
 t127:=Tryz.underlying122
 a127:=Tryz.isAgg122
 z127:=Tryz.sizeOf122
 v127:=Tryz.zeroValue122
 t143:=Tryz.underlying197
 a143:=Tryz.isAgg197
 z143:=Tryz.sizeOf197
 v143:=Tryz.zeroValue197
 t145:=Tryz.underlying199
 a145:=Tryz.isAgg199
 z145:=Tryz.sizeOf199
 v145:=Tryz.zeroValue199
 t167:=Tryz.underlying169
 a167:=Tryz.isAgg169
 z167:=Tryz.sizeOf169
 v167:=Tryz.zeroValue169
 t168:=Tryz.underlying172
 a168:=Tryz.isAgg172
 z168:=Tryz.sizeOf172
 v168:=Tryz.zeroValue172
 t171:=Tryz.underlying190
 a171:=Tryz.isAgg190
 z171:=Tryz.sizeOf190
 v171:=Tryz.zeroValue190
 t173:=Tryz.underlying193
 a173:=Tryz.isAgg193
 z173:=Tryz.sizeOf193
 v173:=Tryz.zeroValue193
 t175:=Tryz.underlying170
 a175:=Tryz.isAgg170
 z175:=Tryz.sizeOf170
 v175:=Tryz.zeroValue170
 t210:=Tryz.underlying187
 a210:=Tryz.isAgg187
 z210:=Tryz.sizeOf187
 v210:=Tryz.zeroValue187
 t212:=Tryz.underlying202
 a212:=Tryz.isAgg202
 z212:=Tryz.sizeOf202
 v212:=Tryz.zeroValue202
 t213:=Tryz.underlying203
 a213:=Tryz.isAgg203
 z213:=Tryz.sizeOf203
 t232:=Tryz.underlying206
 a232:=Tryz.isAgg206
 z232:=Tryz.sizeOf206
 v232:=Tryz.zeroValue206
 t233:=Tryz.underlying207
 a233:=Tryz.isAgg207
 z233:=Tryz.sizeOf207
 v233:=Tryz.zeroValue207
 g15:=by kernel_rfl
 g16:=by kernel_rfl
 g17:=by kernel_rfl
 g18:=by kernel_rfl
 g19:=by kernel_rfl
 t80:=Tryz.underlying83
 a80:=Tryz.isAgg83
 z80:=Tryz.sizeOf83
 v80:=Tryz.zeroValue83
 i0:=by kernel_rfl
 i2:=by kernel_rfl
 i3:=by kernel_rfl
 i4:=by kernel_rfl
 i5:=by kernel_rfl
 i9:=by kernel_rfl
 i20:=by kernel_rfl
 i21:=by kernel_rfl
 i37:=by kernel_rfl
 i46:=by kernel_rfl
 i51:=by kernel_rfl
 i53:=by kernel_rfl
 i75:=by kernel_rfl
 i80:=by kernel_rfl
 i85:=by kernel_rfl
 i127:=by kernel_rfl
 i143:=by kernel_rfl
 i145:=by kernel_rfl
 i167:=by kernel_rfl
 i168:=by kernel_rfl
 i171:=by kernel_rfl
 i173:=by kernel_rfl
 i175:=by kernel_rfl
 i210:=by kernel_rfl
 i212:=by kernel_rfl
 i232:=by kernel_rfl
 i233:=by kernel_rfl
 m15:=by kernel_rfl
 m16:=by kernel_rfl
 m17:=by kernel_rfl
 m18:=by kernel_rfl
 m19:=by kernel_rfl
 c0:=by kernel_rfl
 c2:=by kernel_rfl
 c3:=by kernel_rfl
 c4:=by kernel_rfl
 c5:=by kernel_rfl
 c9:=by kernel_rfl
 c20:=by kernel_rfl
 c21:=by kernel_rfl
 c37:=by kernel_rfl
 c46:=by kernel_rfl
 c51:=by kernel_rfl
 c53:=by kernel_rfl
 c75:=by kernel_rfl
 c80:=by kernel_rfl
 c85:=by kernel_rfl
 c127:=by kernel_rfl
 c143:=by kernel_rfl
 c145:=by kernel_rfl
 c167:=by kernel_rfl
 c168:=by kernel_rfl
 c171:=by kernel_rfl
 c173:=by kernel_rfl
 c175:=by kernel_rfl
 c210:=by kernel_rfl
 c212:=by kernel_rfl
 c213:=by kernel_rfl
 c232:=by kernel_rfl
 c233:=by kernel_rfl }
open Go.RowKit in
theorem Tryz.strconv_ParseInt_10_at64_ok (s:ByteArray) (hmax:s.size≤9223372036854775806) (v:Int) (h:Lib.parseIntB 64 s.data.toList= .ok v) (w:World):
 Calls Tryz.prog 99 #[.string s, .int .i64 10, .int .i64 64] w fun e w'=>e= .returned (.tuple #[.int .i64 v, .nilIface])∧(w'=w∨ ∃ t,w'=Lib.bytesWorld w 5 t):=Any.strconv_ParseInt_10_at64_ok Tryz.FT s hmax v h w
open Go.RowKit in
theorem Tryz.strconv_ParseInt_10_at64_range (s:ByteArray) (hlim:s.size≤281474976710656) (h:Lib.parseIntB 64 s.data.toList= .range) (ev:Value) (w:World) (hv:w.cell? ⟨2,0,none⟩=some ev) (hev:ev= .nilIface∨ ∃ te pe,ev= .iface te pe):
 Calls Tryz.prog 99 #[.string s, .int .i64 10, .int .i64 64] w fun e w'=> ∃ N,e= .returned (.tuple #[.int .i64 (Lib.intSat 64 s.data.toList), .iface 172 (.pointer (some ⟨N,0,none⟩))])∧w.heap.size≤N∧w'.heap[N]? =some (.cells #[.string ⟨#[80,97,114,115,101,73,110,116]⟩, .string s,ev] 187 (0,0))∧Below w.heap.size w w':=Any.strconv_ParseInt_10_at64_range Tryz.FT s hlim h ev w hv hev
def Tryz.Va:Go.Shelf.Ren:=⟨fun | 173=>145 | 246=>146 | 283=>158 | 284=>159 | 285=>160 | 286=>161 | 129=>170 | 317=>169 | 318=>171 | 319=>172 | 320=>173 | 337=>176 | 338=>177 | n=>n,fun | 2=>2 | 3=>3 | 9=>9 | 4=>4 | 171=>190 | 0=>0 | 53=>157 | 37=>79 | 5=>5 | 173=>193 | 212=>202 | 51=>154 | 20=>20 | 213=>203 | 46=>139 | 232=>206 | 233=>207 | n=>n,fun | 17=>3 | 18=>4 | 19=>5 | n=>n⟩
theorem Tryz.U_:Go.Proofs.LaysM.n173 Tryz.prog Tryz.Va:= {
 mixed:=by kernel_rfl
 f129:=Tryz.func170.trans (congrArg some (by kernel_rfl))
 f173:=Tryz.func145.trans (congrArg some (by kernel_rfl))
 f246:=Tryz.func146.trans (congrArg some (by kernel_rfl))
 f283:=Tryz.func158.trans (congrArg some (by kernel_rfl))
 f284:=Tryz.func159.trans (congrArg some (by kernel_rfl))
 f285:=Tryz.func160.trans (congrArg some (by kernel_rfl))
 f286:=Tryz.func161.trans (congrArg some (by kernel_rfl))
 f317:=Tryz.func169.trans (congrArg some (by kernel_rfl))
 f318:=Tryz.func171.trans (congrArg some (by kernel_rfl))
 f319:=Tryz.func172.trans (congrArg some (by kernel_rfl))
 f320:=Tryz.func173.trans (congrArg some (by kernel_rfl))
 f337:=Tryz.func176.trans (congrArg some (by kernel_rfl))
 f338:=Tryz.func177.trans (congrArg some (by kernel_rfl))
 t0:=Tryz.underlying0
 a0:=Tryz.isAgg0
 z0:=Tryz.sizeOf0
 v0:=Tryz.zeroValue0
 t2:=Tryz.underlying2
 a2:=Tryz.isAgg2
 z2:=Tryz.sizeOf2
 v2:=Tryz.zeroValue2
 t3:=Tryz.underlying3
 a3:=Tryz.isAgg3
 z3:=Tryz.sizeOf3
 v3:=Tryz.zeroValue3
 t4:=Tryz.underlying4
 a4:=Tryz.isAgg4
 z4:=Tryz.sizeOf4
 v4:=Tryz.zeroValue4
 t5:=Tryz.underlying5
 a5:=Tryz.isAgg5
 z5:=Tryz.sizeOf5
 v5:=Tryz.zeroValue5
 t9:=Tryz.underlying9
 a9:=Tryz.isAgg9
 z9:=Tryz.sizeOf9
 v9:=Tryz.zeroValue9
 t20:=Tryz.underlying20
 a20:=Tryz.isAgg20
 z20:=Tryz.sizeOf20
 v20:=Tryz.zeroValue20
 t37:=Tryz.underlying79
 a37:=Tryz.isAgg79
 z37:=Tryz.sizeOf79
 v37:=Tryz.zeroValue79
 t46:=Tryz.underlying139
 a46:=Tryz.isAgg139
 z46:=Tryz.sizeOf139
 v46:=Tryz.zeroValue139
 t51:=Tryz.underlying154
 a51:=Tryz.isAgg154
 z51:=Tryz.sizeOf154
 v51:=Tryz.zeroValue154
 t53:=Tryz.underlying157
 a53:=Tryz.isAgg157
 z53:=Tryz.sizeOf157
 v53:=Tryz.zeroValue157
 t171:=Tryz.underlying190
 a171:=Tryz.isAgg190
 z171:=Tryz.sizeOf190
 v171:=Tryz.zeroValue190
 t173:=Tryz.underlying193
 a173:=Tryz.isAgg193
 z173:=Tryz.sizeOf193
 v173:=Tryz.zeroValue193
 t212:=Tryz.underlying202
 a212:=Tryz.isAgg202
 z212:=Tryz.sizeOf202
 v212:=Tryz.zeroValue202
 t213:=Tryz.underlying203
 a213:=Tryz.isAgg203
 z213:=Tryz.sizeOf203
 t232:=Tryz.underlying206
 a232:=Tryz.isAgg206
 z232:=Tryz.sizeOf206
 v232:=Tryz.zeroValue206
 t233:=Tryz.underlying207
 a233:=Tryz.isAgg207
 z233:=Tryz.sizeOf207
 v233:=Tryz.zeroValue207
 g17:=by kernel_rfl
 g18:=by kernel_rfl
 g19:=by kernel_rfl
 i0:=by kernel_rfl
 i2:=by kernel_rfl
 i3:=by kernel_rfl
 i4:=by kernel_rfl
 i5:=by kernel_rfl
 i9:=by kernel_rfl
 i20:=by kernel_rfl
 i37:=by kernel_rfl
 i46:=by kernel_rfl
 i51:=by kernel_rfl
 i53:=by kernel_rfl
 i171:=by kernel_rfl
 i173:=by kernel_rfl
 i212:=by kernel_rfl
 i232:=by kernel_rfl
 i233:=by kernel_rfl
 m17:=by kernel_rfl
 m18:=by kernel_rfl
 m19:=by kernel_rfl }
open Go.RowKit Go.Sort Go.Lib in
theorem Tryz.strconv_FormatInt_10 (n:Int) (h0: -9223372036854775808≤n) (h1:n≤9223372036854775807) (w:World) (htab:Lib.TabIs Tryz.prog w "internal/strconv.uint64pow10" .u64 Lib.pow10Tab):
 Calls Tryz.prog 145 #[.int .i64 n, .int .i64 10] w fun e w'=>e= .returned (.string ⟨(Lib.itoa n).toArray⟩)∧ ∃ k os,w'=grow (w.drewN k) os:=Any.strconv_FormatInt_10 Tryz.U_ n h0 h1 w htab
def Tryz.FR:Go.Shelf.Ren:=⟨fun | 169=>42 | n=>n,fun | 70=>78 | 9=>9 | 0=>0 | 72=>81 | 37=>79 | 127=>122 | 3=>3 | 5=>5 | n=>n,fun | n=>n⟩
theorem Tryz.U6:Go.Proofs.Lays.n169 Tryz.prog Tryz.FR:= {
 mixed:=by kernel_rfl
 f169:=Tryz.func42.trans (congrArg some (by kernel_rfl))
 t0:=Tryz.underlying0
 a0:=Tryz.isAgg0
 z0:=Tryz.sizeOf0
 v0:=Tryz.zeroValue0
 t3:=Tryz.underlying3
 a3:=Tryz.isAgg3
 z3:=Tryz.sizeOf3
 v3:=Tryz.zeroValue3
 t9:=Tryz.underlying9
 a9:=Tryz.isAgg9
 z9:=Tryz.sizeOf9
 v9:=Tryz.zeroValue9
 t37:=Tryz.underlying79
 a37:=Tryz.isAgg79
 z37:=Tryz.sizeOf79
 v37:=Tryz.zeroValue79
 t70:=Tryz.underlying78
 a70:=Tryz.isAgg78
 z70:=Tryz.sizeOf78
 v70:=Tryz.zeroValue78
 t72:=Tryz.underlying81
 a72:=Tryz.isAgg81
 z72:=Tryz.sizeOf81
 v72:=Tryz.zeroValue81
 t127:=Tryz.underlying122
 a127:=Tryz.isAgg122
 z127:=Tryz.sizeOf122
 v127:=Tryz.zeroValue122 }
theorem Tryz.Pd:Builder.Extra Tryz.prog Tryz.FR:= {
 sizeBuilder:=by kernel_rfl
 liesBuilder:=by kernel_rfl
 t5:=Tryz.underlying5
 a5:=Tryz.isAgg5
 z5:=Tryz.sizeOf5
 v5:=Tryz.zeroValue5
 infoByte:=by kernel_rfl
 cellsByte:=by kernel_rfl
 sizeByte:=by kernel_rfl
 neB5:=by decide }
open Go.RowKit in
def Tryz.LN:Go.Shelf.Ren:=⟨fun | 105=>79 | 212=>105 | 99=>106 | 165=>107 | 166=>78 | 170=>108 | 169=>42 | 263=>126 | 264=>127 | 206=>128 | 240=>104 | 241=>129 | 276=>125 | 277=>144 | n=>n,fun | 9=>9 | 3=>3 | 4=>4 | 20=>20 | 0=>0 | 46=>139 | 109=>140 | 5=>5 | 72=>81 | 76=>118 | 51=>154 | 146=>155 | 53=>157 | 148=>158 | 70=>78 | 37=>79 | 75=>117 | 127=>122 | 164=>152 | 80=>83 | n=>n,fun | n=>n⟩
theorem Tryz.U0:Go.Proofs.Lays.n105 Tryz.prog Tryz.LN:= {
 mixed:=by kernel_rfl
 f99:=Tryz.func106.trans (congrArg some (by kernel_rfl))
 f105:=Tryz.func79.trans (congrArg some (by kernel_rfl))
 f165:=Tryz.func107.trans (congrArg some (by kernel_rfl))
 f166:=Tryz.func78.trans (congrArg some (by kernel_rfl))
 f169:=Tryz.func42.trans (congrArg some (by kernel_rfl))
 f170:=Tryz.func108.trans (congrArg some (by kernel_rfl))
 f206:=Tryz.func128.trans (congrArg some (by kernel_rfl))
 f212:=Tryz.func105.trans (congrArg some (by kernel_rfl))
 f240:=Tryz.func104.trans (congrArg some (by kernel_rfl))
 f241:=Tryz.func129.trans (congrArg some (by kernel_rfl))
 f263:=Tryz.func126.trans (congrArg some (by kernel_rfl))
 f264:=Tryz.func127.trans (congrArg some (by kernel_rfl))
 f276:=Tryz.func125.trans (congrArg some (by kernel_rfl))
 f277:=Tryz.func144.trans (congrArg some (by kernel_rfl))
 t0:=Tryz.underlying0
 a0:=Tryz.isAgg0
 z0:=Tryz.sizeOf0
 v0:=Tryz.zeroValue0
 t3:=Tryz.underlying3
 a3:=Tryz.isAgg3
 z3:=Tryz.sizeOf3
 v3:=Tryz.zeroValue3
 t4:=Tryz.underlying4
 a4:=Tryz.isAgg4
 z4:=Tryz.sizeOf4
 v4:=Tryz.zeroValue4
 t5:=Tryz.underlying5
 a5:=Tryz.isAgg5
 z5:=Tryz.sizeOf5
 v5:=Tryz.zeroValue5
 t9:=Tryz.underlying9
 a9:=Tryz.isAgg9
 z9:=Tryz.sizeOf9
 v9:=Tryz.zeroValue9
 t20:=Tryz.underlying20
 a20:=Tryz.isAgg20
 z20:=Tryz.sizeOf20
 v20:=Tryz.zeroValue20
 t37:=Tryz.underlying79
 a37:=Tryz.isAgg79
 z37:=Tryz.sizeOf79
 v37:=Tryz.zeroValue79
 t46:=Tryz.underlying139
 a46:=Tryz.isAgg139
 z46:=Tryz.sizeOf139
 v46:=Tryz.zeroValue139
 t51:=Tryz.underlying154
 a51:=Tryz.isAgg154
 z51:=Tryz.sizeOf154
 v51:=Tryz.zeroValue154
 t53:=Tryz.underlying157
 a53:=Tryz.isAgg157
 z53:=Tryz.sizeOf157
 v53:=Tryz.zeroValue157
 t70:=Tryz.underlying78
 a70:=Tryz.isAgg78
 z70:=Tryz.sizeOf78
 v70:=Tryz.zeroValue78
 t72:=Tryz.underlying81
 a72:=Tryz.isAgg81
 z72:=Tryz.sizeOf81
 v72:=Tryz.zeroValue81
 t75:=Tryz.underlying117
 a75:=Tryz.isAgg117
 z75:=Tryz.sizeOf117
 v75:=Tryz.zeroValue117
 t76:=Tryz.underlying118
 a76:=Tryz.isAgg118
 z76:=Tryz.sizeOf118
 v76:=Tryz.zeroValue118
 t109:=Tryz.underlying140
 a109:=Tryz.isAgg140
 z109:=Tryz.sizeOf140
 v109:=Tryz.zeroValue140
 t127:=Tryz.underlying122
 a127:=Tryz.isAgg122
 z127:=Tryz.sizeOf122
 v127:=Tryz.zeroValue122
 t146:=Tryz.underlying155
 a146:=Tryz.isAgg155
 z146:=Tryz.sizeOf155
 v146:=Tryz.zeroValue155
 t148:=Tryz.underlying158
 a148:=Tryz.isAgg158
 z148:=Tryz.sizeOf158
 v148:=Tryz.zeroValue158
 t164:=Tryz.underlying152
 a164:=Tryz.isAgg152
 z164:=Tryz.sizeOf152
 v164:=Tryz.zeroValue152 }
theorem Tryz.Pb:Builder.Extra Tryz.prog Tryz.LN:= {
 sizeBuilder:=by kernel_rfl
 liesBuilder:=by kernel_rfl
 t5:=Tryz.underlying5
 a5:=Tryz.isAgg5
 z5:=Tryz.sizeOf5
 v5:=Tryz.zeroValue5
 infoByte:=by kernel_rfl
 cellsByte:=by kernel_rfl
 sizeByte:=by kernel_rfl
 neB5:=by decide }
open Go.RowKit Go.Lib in
theorem Tryz.strings_Repeat (s:ByteArray) (c:Nat) (w:World) (hc:c≤9223372036854775807) (hlen:s.size*c≤140737488355328):
 Calls Tryz.prog 79 #[.string s, .int .i64 c] w fun e w'=>e= .returned (.string ⟨(Lib.repeatL s.data.toList c).toArray⟩)∧Below w.heap.size w w':=Any.strings_Repeat Tryz.U0 Tryz.Pb s c w hc hlen
def Tryz.U9:Go.Shelf.Ren:=⟨fun | 171=>110 | 243=>131 | 246=>146 | 283=>158 | 284=>159 | 285=>160 | 286=>161 | 129=>170 | 317=>169 | 318=>171 | 319=>172 | 320=>173 | 337=>176 | 338=>177 | n=>n,fun | 3=>3 | 9=>9 | 2=>2 | 4=>4 | 171=>190 | 0=>0 | 53=>157 | 37=>79 | 5=>5 | 173=>193 | 212=>202 | 51=>154 | 20=>20 | 213=>203 | 46=>139 | 232=>206 | 233=>207 | n=>n,fun | 17=>3 | 18=>4 | 19=>5 | n=>n⟩
theorem Tryz.U8:Go.Proofs.LaysM.n171 Tryz.prog Tryz.U9:= {
 mixed:=by kernel_rfl
 f129:=Tryz.func170.trans (congrArg some (by kernel_rfl))
 f171:=Tryz.func110.trans (congrArg some (by kernel_rfl))
 f243:=Tryz.func131.trans (congrArg some (by kernel_rfl))
 f246:=Tryz.func146.trans (congrArg some (by kernel_rfl))
 f283:=Tryz.func158.trans (congrArg some (by kernel_rfl))
 f284:=Tryz.func159.trans (congrArg some (by kernel_rfl))
 f285:=Tryz.func160.trans (congrArg some (by kernel_rfl))
 f286:=Tryz.func161.trans (congrArg some (by kernel_rfl))
 f317:=Tryz.func169.trans (congrArg some (by kernel_rfl))
 f318:=Tryz.func171.trans (congrArg some (by kernel_rfl))
 f319:=Tryz.func172.trans (congrArg some (by kernel_rfl))
 f320:=Tryz.func173.trans (congrArg some (by kernel_rfl))
 f337:=Tryz.func176.trans (congrArg some (by kernel_rfl))
 f338:=Tryz.func177.trans (congrArg some (by kernel_rfl))
 t0:=Tryz.underlying0
 a0:=Tryz.isAgg0
 z0:=Tryz.sizeOf0
 v0:=Tryz.zeroValue0
 t2:=Tryz.underlying2
 a2:=Tryz.isAgg2
 z2:=Tryz.sizeOf2
 v2:=Tryz.zeroValue2
 t3:=Tryz.underlying3
 a3:=Tryz.isAgg3
 z3:=Tryz.sizeOf3
 v3:=Tryz.zeroValue3
 t4:=Tryz.underlying4
 a4:=Tryz.isAgg4
 z4:=Tryz.sizeOf4
 v4:=Tryz.zeroValue4
 t5:=Tryz.underlying5
 a5:=Tryz.isAgg5
 z5:=Tryz.sizeOf5
 v5:=Tryz.zeroValue5
 t9:=Tryz.underlying9
 a9:=Tryz.isAgg9
 z9:=Tryz.sizeOf9
 v9:=Tryz.zeroValue9
 t20:=Tryz.underlying20
 a20:=Tryz.isAgg20
 z20:=Tryz.sizeOf20
 v20:=Tryz.zeroValue20
 t37:=Tryz.underlying79
 a37:=Tryz.isAgg79
 z37:=Tryz.sizeOf79
 v37:=Tryz.zeroValue79
 t46:=Tryz.underlying139
 a46:=Tryz.isAgg139
 z46:=Tryz.sizeOf139
 v46:=Tryz.zeroValue139
 t51:=Tryz.underlying154
 a51:=Tryz.isAgg154
 z51:=Tryz.sizeOf154
 v51:=Tryz.zeroValue154
 t53:=Tryz.underlying157
 a53:=Tryz.isAgg157
 z53:=Tryz.sizeOf157
 v53:=Tryz.zeroValue157
 t171:=Tryz.underlying190
 a171:=Tryz.isAgg190
 z171:=Tryz.sizeOf190
 v171:=Tryz.zeroValue190
 t173:=Tryz.underlying193
 a173:=Tryz.isAgg193
 z173:=Tryz.sizeOf193
 v173:=Tryz.zeroValue193
 t212:=Tryz.underlying202
 a212:=Tryz.isAgg202
 z212:=Tryz.sizeOf202
 v212:=Tryz.zeroValue202
 t213:=Tryz.underlying203
 a213:=Tryz.isAgg203
 z213:=Tryz.sizeOf203
 t232:=Tryz.underlying206
 a232:=Tryz.isAgg206
 z232:=Tryz.sizeOf206
 v232:=Tryz.zeroValue206
 t233:=Tryz.underlying207
 a233:=Tryz.isAgg207
 z233:=Tryz.sizeOf207
 v233:=Tryz.zeroValue207
 g17:=by kernel_rfl
 g18:=by kernel_rfl
 g19:=by kernel_rfl
 i0:=by kernel_rfl
 i2:=by kernel_rfl
 i3:=by kernel_rfl
 i4:=by kernel_rfl
 i5:=by kernel_rfl
 i9:=by kernel_rfl
 i20:=by kernel_rfl
 i37:=by kernel_rfl
 i46:=by kernel_rfl
 i51:=by kernel_rfl
 i53:=by kernel_rfl
 i171:=by kernel_rfl
 i173:=by kernel_rfl
 i212:=by kernel_rfl
 i232:=by kernel_rfl
 i233:=by kernel_rfl
 m17:=by kernel_rfl
 m18:=by kernel_rfl
 m19:=by kernel_rfl }
open Go.RowKit Go.Sort Go.Lib in
theorem Tryz.strconv_Itoa (n:Int) (h0: -9223372036854775808≤n) (h1:n≤9223372036854775807) (w:World) (htab:Lib.TabIs Tryz.prog w "internal/strconv.uint64pow10" .u64 Lib.pow10Tab):
 Calls Tryz.prog 110 #[.int .i64 n] w fun e w'=>e= .returned (.string ⟨(Lib.itoa n).toArray⟩)∧ ∃ k os,w'=grow (w.drewN k) os:=Any.strconv_Itoa Tryz.U8 n h0 h1 w htab
end Go.Proofs
namespace Go.Proofs
open Go.Shelf
def Tryz.FQ:Go.Shelf.Ren:=⟨fun | 166=>78 | 240=>104 | 276=>125 | n=>n,fun | 0=>0 | 3=>3 | 4=>4 | 5=>5 | 9=>9 | 20=>20 | 31=>42 | 37=>79 | 70=>78 | 72=>81 | 75=>117 | 76=>118 | 80=>83 | 127=>122 | 164=>152 | n=>n,fun | n=>n⟩
theorem Tryz.U5:Go.Proofs.Lays.n166 Tryz.prog Tryz.FQ:= {
 mixed:=by kernel_rfl
 f166:=Tryz.func78.trans (congrArg some (by kernel_rfl))
 f240:=Tryz.func104.trans (congrArg some (by kernel_rfl))
 f276:=Tryz.func125.trans (congrArg some (by kernel_rfl))
 t0:=Tryz.underlying0
 a0:=Tryz.isAgg0
 z0:=Tryz.sizeOf0
 v0:=Tryz.zeroValue0
 t3:=Tryz.underlying3
 a3:=Tryz.isAgg3
 z3:=Tryz.sizeOf3
 v3:=Tryz.zeroValue3
 t4:=Tryz.underlying4
 a4:=Tryz.isAgg4
 z4:=Tryz.sizeOf4
 v4:=Tryz.zeroValue4
 t9:=Tryz.underlying9
 a9:=Tryz.isAgg9
 z9:=Tryz.sizeOf9
 v9:=Tryz.zeroValue9
 t20:=Tryz.underlying20
 a20:=Tryz.isAgg20
 z20:=Tryz.sizeOf20
 v20:=Tryz.zeroValue20
 t37:=Tryz.underlying79
 a37:=Tryz.isAgg79
 z37:=Tryz.sizeOf79
 v37:=Tryz.zeroValue79
 t70:=Tryz.underlying78
 a70:=Tryz.isAgg78
 z70:=Tryz.sizeOf78
 v70:=Tryz.zeroValue78
 t72:=Tryz.underlying81
 a72:=Tryz.isAgg81
 z72:=Tryz.sizeOf81
 v72:=Tryz.zeroValue81
 t75:=Tryz.underlying117
 a75:=Tryz.isAgg117
 z75:=Tryz.sizeOf117
 v75:=Tryz.zeroValue117
 t164:=Tryz.underlying152
 a164:=Tryz.isAgg152
 z164:=Tryz.sizeOf152
 v164:=Tryz.zeroValue152 }
theorem Tryz.Pc:Builder.Extra Tryz.prog Tryz.FQ:= {
 sizeBuilder:=by kernel_rfl
 liesBuilder:=by kernel_rfl
 t5:=Tryz.underlying5
 a5:=Tryz.isAgg5
 z5:=Tryz.sizeOf5
 v5:=Tryz.zeroValue5
 infoByte:=by kernel_rfl
 cellsByte:=by kernel_rfl
 sizeByte:=by kernel_rfl
 neB5:=by decide }
def Tryz.AW:Go.Shelf.Ren:=⟨fun | 167=>81 | 240=>104 | 276=>125 | n=>n,fun | 0=>0 | 3=>3 | 4=>4 | 5=>5 | 9=>9 | 20=>20 | 31=>42 | 37=>79 | 70=>78 | 72=>81 | 75=>117 | 76=>118 | 80=>83 | 127=>122 | 164=>152 | n=>n,fun | n=>n⟩
theorem Tryz.LQ:Go.Proofs.Lays.n167 Tryz.prog Tryz.AW:= {
 mixed:=by kernel_rfl
 f167:=Tryz.func81.trans (congrArg some (by kernel_rfl))
 f240:=Tryz.func104.trans (congrArg some (by kernel_rfl))
 f276:=Tryz.func125.trans (congrArg some (by kernel_rfl))
 t0:=Tryz.underlying0
 a0:=Tryz.isAgg0
 z0:=Tryz.sizeOf0
 v0:=Tryz.zeroValue0
 t4:=Tryz.underlying4
 a4:=Tryz.isAgg4
 z4:=Tryz.sizeOf4
 v4:=Tryz.zeroValue4
 t5:=Tryz.underlying5
 a5:=Tryz.isAgg5
 z5:=Tryz.sizeOf5
 v5:=Tryz.zeroValue5
 t9:=Tryz.underlying9
 a9:=Tryz.isAgg9
 z9:=Tryz.sizeOf9
 v9:=Tryz.zeroValue9
 t20:=Tryz.underlying20
 a20:=Tryz.isAgg20
 z20:=Tryz.sizeOf20
 v20:=Tryz.zeroValue20
 t37:=Tryz.underlying79
 a37:=Tryz.isAgg79
 z37:=Tryz.sizeOf79
 v37:=Tryz.zeroValue79
 t70:=Tryz.underlying78
 a70:=Tryz.isAgg78
 z70:=Tryz.sizeOf78
 v70:=Tryz.zeroValue78
 t72:=Tryz.underlying81
 a72:=Tryz.isAgg81
 z72:=Tryz.sizeOf81
 v72:=Tryz.zeroValue81
 t75:=Tryz.underlying117
 a75:=Tryz.isAgg117
 z75:=Tryz.sizeOf117
 v75:=Tryz.zeroValue117
 t164:=Tryz.underlying152
 a164:=Tryz.isAgg152
 z164:=Tryz.sizeOf152
 v164:=Tryz.zeroValue152 }
theorem Tryz.IC:Builder.Extra Tryz.prog Tryz.AW:= {
 sizeBuilder:=by kernel_rfl
 liesBuilder:=by kernel_rfl
 t5:=Tryz.underlying5
 a5:=Tryz.isAgg5
 z5:=Tryz.sizeOf5
 v5:=Tryz.zeroValue5
 infoByte:=by kernel_rfl
 cellsByte:=by kernel_rfl
 sizeByte:=by kernel_rfl
 neB5:=by decide }
end Go.Proofs
set_option maxRecDepth 100000
namespace Go.Sy.Ex
open Go.Sy Go.Proofs
noncomputable section
structure ai where
 Kind:Int
 N:Int
 Name:List UInt8
 Kids:List ai
 At:Int
def ai.z:ai:=⟨0,0,[],[],0⟩
structure ah where
 Kind:Int
 Name:List UInt8
 Event:List UInt8
 X:List ai
 N:Int
 bE:List ah
 bw:List ah
 At:Int
def ah.z:ah:=⟨0,[],[],[],0,[],[],0⟩
structure ak where
 Kind:Int
 At:Int
 End:Int
 Text:List UInt8
 N:Int
 deriving DecidableEq
def ak.z:ak:=⟨0,0,0,[],0⟩
structure aL where
 Code:Int
 At:Int
 deriving DecidableEq
def aL.z:aL:=⟨0,0⟩
structure bg where
 L:List ak
 At:Int
 bk:aL
 deriving DecidableEq
def bg.z:bg:=⟨[],0,aL.z⟩
structure aG where
 Row:bg
 aR:Int
 deriving DecidableEq
def aG.z:aG:=⟨bg.z,0⟩
structure aK where
 Row:bg
 aR:Int
 deriving DecidableEq
def aK.z:aK:=⟨bg.z,0⟩
structure a_ where
 L:List Int
 At:Int
 deriving DecidableEq
def a_.z:a_:=⟨[],0⟩
structure aV where
 Vars:List (List UInt8)
 gO:List (List UInt8)
 gE:List (List UInt8)
 eV:List (List UInt8)
 deriving DecidableEq
def aV.z:aV:=⟨[],[],[],[]⟩
structure aU where
 l:List ak
 an:Int
 aR:Int
 bad:aL
 deriving DecidableEq
def aU.z:aU:=⟨[],0,0,aL.z⟩
def C:Nat→Type
 | 0=>ah
 | 1=>ai
 | 2=>ak
 | 3=>aL
 | 4=>bg
 | 5=>aG
 | 6=>aK
 | 7=>Unit
 | 8=>List UInt8×List UInt8×List UInt8×List UInt8×List UInt8×List UInt8×List UInt8×List UInt8×List UInt8×List UInt8×List UInt8×List UInt8×List UInt8
 | 9=>List UInt8×List UInt8×List UInt8×List UInt8×List UInt8×List UInt8×List UInt8×List UInt8×List UInt8×List UInt8×List UInt8×List UInt8×List UInt8×List UInt8×List UInt8×List UInt8×List UInt8×List UInt8×List UInt8×List UInt8×List UInt8×List UInt8×List UInt8×List UInt8×List UInt8×List UInt8×List UInt8×List UInt8×List UInt8×List UInt8×List UInt8×List UInt8×List UInt8×List UInt8×List UInt8
 | 10=>List UInt8×List UInt8×List UInt8×List UInt8×List UInt8×List UInt8×List UInt8×List UInt8×List UInt8×List UInt8×List UInt8×List UInt8×List UInt8×List UInt8×List UInt8×List UInt8×List UInt8×List UInt8×List UInt8×List UInt8
 | 11=>a_
 | 12=>aV
 | 13=>Int×Int×Int×Int×Int×Int
 | 14=>List UInt8×List UInt8×List UInt8×List UInt8×List UInt8×List UInt8×List UInt8×List UInt8
 | 15=>List UInt8×List UInt8×List UInt8×List UInt8×List UInt8×List UInt8×List UInt8
 | 16=>aU
 | _+17=>Unit
def F:Nat→List Ty
 | 0=> [.int .i64, .str, .str, .sl (.st 1), .int .i64, .sl (.st 0), .sl (.st 0), .int .i64]
 | 1=> [.int .i64, .int .i64, .str, .sl (.st 1), .int .i64]
 | 2=> [.int .i64, .int .i64, .int .i64, .str, .int .i64]
 | 3=> [.int .i64, .int .i64]
 | 4=> [.sl (.st 2), .int .i64, .int .i64, .int .i64]
 | 5=> [.sl (.st 2), .int .i64, .int .i64, .int .i64, .int .i64]
 | 6=> [.sl (.st 2), .int .i64, .int .i64, .int .i64, .int .i64]
 | 7=> []
 | 8=> [.str, .str, .str, .str, .str, .str, .str, .str, .str, .str, .str, .str, .str]
 | 9=> [.str, .str, .str, .str, .str, .str, .str, .str, .str, .str, .str, .str, .str, .str, .str, .str, .str, .str, .str, .str, .str, .str, .str, .str, .str, .str, .str, .str, .str, .str, .str, .str, .str, .str, .str]
 | 10=> [.str, .str, .str, .str, .str, .str, .str, .str, .str, .str, .str, .str, .str, .str, .str, .str, .str, .str, .str, .str]
 | 11=> [.sl (.int .i64), .int .i64]
 | 12=> [.sl .str, .sl .str, .sl .str, .sl .str]
 | 13=> [.int .i64, .int .i64, .int .i64, .int .i64, .int .i64, .int .i64]
 | 14=> [.str, .str, .str, .str, .str, .str, .str, .str]
 | 15=> [.str, .str, .str, .str, .str, .str, .str]
 | 16=> [.sl (.st 2), .int .i64, .int .i64, .int .i64, .int .i64]
 | _+17=> []
def ex:(t:Nat)→C t→av C (F t)
 | 0,(x:ah)=>(x.Kind,x.Name,x.Event,x.X,x.N,x.bE,x.bw,x.At)
 | 1,(x:ai)=>(x.Kind,x.N,x.Name,x.Kids,x.At)
 | 2,(x:ak)=>(x.Kind,x.At,x.End,x.Text,x.N)
 | 3,(x:aL)=>(x.Code,x.At)
 | 4,(x:bg)=>(x.L,x.At,x.bk.Code,x.bk.At)
 | 5,(x:aG)=>(x.Row.L,x.Row.At,x.Row.bk.Code,x.Row.bk.At,x.aR)
 | 6,(x:aK)=>(x.Row.L,x.Row.At,x.Row.bk.Code,x.Row.bk.At,x.aR)
 | 7,_=>()
 | 8,(x:List UInt8×List UInt8×List UInt8×List UInt8×List UInt8×List UInt8×List UInt8×List UInt8×List UInt8×List UInt8×List UInt8×List UInt8×List UInt8)=>(x.1,x.2.1,x.2.2.1,x.2.2.2.1,x.2.2.2.2.1,x.2.2.2.2.2.1,x.2.2.2.2.2.2.1,x.2.2.2.2.2.2.2.1,x.2.2.2.2.2.2.2.2.1,x.2.2.2.2.2.2.2.2.2.1,x.2.2.2.2.2.2.2.2.2.2.1,x.2.2.2.2.2.2.2.2.2.2.2.1,x.2.2.2.2.2.2.2.2.2.2.2.2)
 | 9,(x:List UInt8×List UInt8×List UInt8×List UInt8×List UInt8×List UInt8×List UInt8×List UInt8×List UInt8×List UInt8×List UInt8×List UInt8×List UInt8×List UInt8×List UInt8×List UInt8×List UInt8×List UInt8×List UInt8×List UInt8×List UInt8×List UInt8×List UInt8×List UInt8×List UInt8×List UInt8×List UInt8×List UInt8×List UInt8×List UInt8×List UInt8×List UInt8×List UInt8×List UInt8×List UInt8)=>(x.1,x.2.1,x.2.2.1,x.2.2.2.1,x.2.2.2.2.1,x.2.2.2.2.2.1,x.2.2.2.2.2.2.1,x.2.2.2.2.2.2.2.1,x.2.2.2.2.2.2.2.2.1,x.2.2.2.2.2.2.2.2.2.1,x.2.2.2.2.2.2.2.2.2.2.1,x.2.2.2.2.2.2.2.2.2.2.2.1,x.2.2.2.2.2.2.2.2.2.2.2.2.1,x.2.2.2.2.2.2.2.2.2.2.2.2.2.1,x.2.2.2.2.2.2.2.2.2.2.2.2.2.2.1,x.2.2.2.2.2.2.2.2.2.2.2.2.2.2.2.1,x.2.2.2.2.2.2.2.2.2.2.2.2.2.2.2.2.1,x.2.2.2.2.2.2.2.2.2.2.2.2.2.2.2.2.2.1,x.2.2.2.2.2.2.2.2.2.2.2.2.2.2.2.2.2.2.1,x.2.2.2.2.2.2.2.2.2.2.2.2.2.2.2.2.2.2.2.1,x.2.2.2.2.2.2.2.2.2.2.2.2.2.2.2.2.2.2.2.2.1,x.2.2.2.2.2.2.2.2.2.2.2.2.2.2.2.2.2.2.2.2.2.1,x.2.2.2.2.2.2.2.2.2.2.2.2.2.2.2.2.2.2.2.2.2.2.1,x.2.2.2.2.2.2.2.2.2.2.2.2.2.2.2.2.2.2.2.2.2.2.2.1,x.2.2.2.2.2.2.2.2.2.2.2.2.2.2.2.2.2.2.2.2.2.2.2.2.1,x.2.2.2.2.2.2.2.2.2.2.2.2.2.2.2.2.2.2.2.2.2.2.2.2.2.1,x.2.2.2.2.2.2.2.2.2.2.2.2.2.2.2.2.2.2.2.2.2.2.2.2.2.2.1,x.2.2.2.2.2.2.2.2.2.2.2.2.2.2.2.2.2.2.2.2.2.2.2.2.2.2.2.1,x.2.2.2.2.2.2.2.2.2.2.2.2.2.2.2.2.2.2.2.2.2.2.2.2.2.2.2.2.1,x.2.2.2.2.2.2.2.2.2.2.2.2.2.2.2.2.2.2.2.2.2.2.2.2.2.2.2.2.2.1,x.2.2.2.2.2.2.2.2.2.2.2.2.2.2.2.2.2.2.2.2.2.2.2.2.2.2.2.2.2.2.1,x.2.2.2.2.2.2.2.2.2.2.2.2.2.2.2.2.2.2.2.2.2.2.2.2.2.2.2.2.2.2.2.1,x.2.2.2.2.2.2.2.2.2.2.2.2.2.2.2.2.2.2.2.2.2.2.2.2.2.2.2.2.2.2.2.2.1,x.2.2.2.2.2.2.2.2.2.2.2.2.2.2.2.2.2.2.2.2.2.2.2.2.2.2.2.2.2.2.2.2.2.1,x.2.2.2.2.2.2.2.2.2.2.2.2.2.2.2.2.2.2.2.2.2.2.2.2.2.2.2.2.2.2.2.2.2.2)
 | 10,(x:List UInt8×List UInt8×List UInt8×List UInt8×List UInt8×List UInt8×List UInt8×List UInt8×List UInt8×List UInt8×List UInt8×List UInt8×List UInt8×List UInt8×List UInt8×List UInt8×List UInt8×List UInt8×List UInt8×List UInt8)=>(x.1,x.2.1,x.2.2.1,x.2.2.2.1,x.2.2.2.2.1,x.2.2.2.2.2.1,x.2.2.2.2.2.2.1,x.2.2.2.2.2.2.2.1,x.2.2.2.2.2.2.2.2.1,x.2.2.2.2.2.2.2.2.2.1,x.2.2.2.2.2.2.2.2.2.2.1,x.2.2.2.2.2.2.2.2.2.2.2.1,x.2.2.2.2.2.2.2.2.2.2.2.2.1,x.2.2.2.2.2.2.2.2.2.2.2.2.2.1,x.2.2.2.2.2.2.2.2.2.2.2.2.2.2.1,x.2.2.2.2.2.2.2.2.2.2.2.2.2.2.2.1,x.2.2.2.2.2.2.2.2.2.2.2.2.2.2.2.2.1,x.2.2.2.2.2.2.2.2.2.2.2.2.2.2.2.2.2.1,x.2.2.2.2.2.2.2.2.2.2.2.2.2.2.2.2.2.2.1,x.2.2.2.2.2.2.2.2.2.2.2.2.2.2.2.2.2.2.2)
 | 11,(x:a_)=>(x.L,x.At)
 | 12,(x:aV)=>(x.Vars,x.gO,x.gE,x.eV)
 | 13,(x:Int×Int×Int×Int×Int×Int)=>(x.1,x.2.1,x.2.2.1,x.2.2.2.1,x.2.2.2.2.1,x.2.2.2.2.2)
 | 14,(x:List UInt8×List UInt8×List UInt8×List UInt8×List UInt8×List UInt8×List UInt8×List UInt8)=>(x.1,x.2.1,x.2.2.1,x.2.2.2.1,x.2.2.2.2.1,x.2.2.2.2.2.1,x.2.2.2.2.2.2.1,x.2.2.2.2.2.2.2)
 | 15,(x:List UInt8×List UInt8×List UInt8×List UInt8×List UInt8×List UInt8×List UInt8)=>(x.1,x.2.1,x.2.2.1,x.2.2.2.1,x.2.2.2.2.1,x.2.2.2.2.2.1,x.2.2.2.2.2.2)
 | 16,(x:aU)=>(x.l,x.an,x.aR,x.bad.Code,x.bad.At)
 | _+17,_=>()
def im:(t:Nat)→av C (F t)→C t
 | 0,(a0,a1,a2,a3,a4,a5,a6,a7)=>ah.mk a0 a1 a2 a3 a4 a5 a6 a7
 | 1,(a0,a1,a2,a3,a4)=>ai.mk a0 a1 a2 a3 a4
 | 2,(a0,a1,a2,a3,a4)=>ak.mk a0 a1 a2 a3 a4
 | 3,(a0,a1)=>aL.mk a0 a1
 | 4,(a0,a1,a2,a3)=>bg.mk a0 a1 (aL.mk a2 a3)
 | 5,(a0,a1,a2,a3,a4)=>aG.mk (bg.mk a0 a1 (aL.mk a2 a3)) a4
 | 6,(a0,a1,a2,a3,a4)=>aK.mk (bg.mk a0 a1 (aL.mk a2 a3)) a4
 | 7,_=>()
 | 8,(a0,a1,a2,a3,a4,a5,a6,a7,a8,a9,wF,wG,a12)=>(a0,a1,a2,a3,a4,a5,a6,a7,a8,a9,wF,wG,a12)
 | 9,(a0,a1,a2,a3,a4,a5,a6,a7,a8,a9,wF,wG,a12,DD,DE,DG,DH,DI,DJ,DK,a20,a21,PC,PD,a24,PE,PF,PG,a28,PJ,PK,a31,a32,PL,PM)=>(a0,a1,a2,a3,a4,a5,a6,a7,a8,a9,wF,wG,a12,DD,DE,DG,DH,DI,DJ,DK,a20,a21,PC,PD,a24,PE,PF,PG,a28,PJ,PK,a31,a32,PL,PM)
 | 10,(a0,a1,a2,a3,a4,a5,a6,a7,a8,a9,wF,wG,a12,DD,DE,DG,DH,DI,DJ,DK)=>(a0,a1,a2,a3,a4,a5,a6,a7,a8,a9,wF,wG,a12,DD,DE,DG,DH,DI,DJ,DK)
 | 11,(a0,a1)=>a_.mk a0 a1
 | 12,(a0,a1,a2,a3)=>aV.mk a0 a1 a2 a3
 | 13,(a0,a1,a2,a3,a4,a5)=>(a0,a1,a2,a3,a4,a5)
 | 14,(a0,a1,a2,a3,a4,a5,a6,a7)=>(a0,a1,a2,a3,a4,a5,a6,a7)
 | 15,(a0,a1,a2,a3,a4,a5,a6)=>(a0,a1,a2,a3,a4,a5,a6)
 | 16,(a0,a1,a2,a3,a4)=>aU.mk a0 a1 a2 (aL.mk a3 a4)
 | _+17,_=>()
def kP:Nat→List (Nat×Ty)
 | 0=> [(0, .int .i64),(1, .str),(2, .str),(3, .sl (.st 1)),(4, .int .i64),(5, .sl (.st 0)),(6, .sl (.st 0)),(7, .int .i64)]
 | 1=> [(0, .int .i64),(1, .int .i64),(2, .str),(3, .sl (.st 1)),(4, .int .i64)]
 | 2=> [(0, .int .i64),(1, .int .i64),(2, .int .i64),(3, .str),(4, .int .i64)]
 | 3=> [(0, .int .i64),(1, .int .i64)]
 | 4=> [(0, .sl (.st 2)),(1, .int .i64),(2, .st 3)]
 | 5=> [(0, .st 4),(4, .int .i64)]
 | 6=> [(0, .st 4),(4, .int .i64)]
 | 7=> []
 | 8=>l8 (.str) 13 0
 | 9=>l8 (.str) 35 0
 | 10=>l8 (.str) 20 0
 | 11=> [(0, .sl (.int .i64)),(1, .int .i64)]
 | 12=> [(0, .sl .str),(1, .sl .str),(2, .sl .str),(3, .sl .str)]
 | 13=>l8 (.int .i64) 6 0
 | 14=>l8 (.str) 8 0
 | 15=>l8 (.str) 7 0
 | 16=> [(0, .sl (.st 2)),(1, .int .i64),(2, .int .i64),(3, .st 3)]
 | _+17=> []
def z:(t:Nat)→C t
 | 0=>ah.z
 | 1=>ai.z
 | 2=>ak.z
 | 3=>aL.z
 | 4=>bg.z
 | 5=>aG.z
 | 6=>aK.z
 | 7=>()
 | 8=>([],[],[],[],[],[],[],[],[],[],[],[],[])
 | 9=>([],[],[],[],[],[],[],[],[],[],[],[],[],[],[],[],[],[],[],[],[],[],[],[],[],[],[],[],[],[],[],[],[],[],[])
 | 10=>([],[],[],[],[],[],[],[],[],[],[],[],[],[],[],[],[],[],[],[])
 | 11=>a_.z
 | 12=>aV.z
 | 13=>(0,0,0,0,0,0)
 | 14=>([],[],[],[],[],[],[],[])
 | 15=>([],[],[],[],[],[],[])
 | 16=>aU.z
 | _+17=>()
def Im:List (Nat×Ty):= [(2, .int .i64),(3, .int .i64),(4, .bool),(5, .int .u8),(9, .str),(22, .sl (.st 2)),(23, .int .i64),(25, .st 3),(30, .sl (.st 0)),(35, .sl (.int .i64)),(41, .st 11),(42, .sl .str),(44, .st 12),(47, .sl .bool),(50, .int .i8),(57, .st 2),(60, .sl (.st 1)),(62, .st 0),(65, .st 4),(67, .st 5),(72, .st 1),(106, .st 13),(107, .st 14),(124, .st 15),(148, .st 10),(164, .st 6),(168, .st 16),(179, .st 9),(189, .st 8)]
def QB:List (Nat×(Nat×Ty)):= [(106,6, .int .i64),(107,8, .str),(124,7, .str),(148,20, .str),(179,35, .str),(189,13, .str)]
def Et:List (Nat×Unit):= [(25,())]
def FH:List (Nat×Unit):= [(117,())]
def Gw:List (Nat×Unit):= []
def ZE:List (Nat×Unit):= []
abbrev S:bf:=⟨C,F,ex,im,fun u f=>(kP u)[f]?,z,look Im,fun t=>(look Gw t).isSome,look QB,fun t=>(look Et t).isSome,fun t=>(look FH t).isSome,[((0,0),fun v=> ∃ m,v= .int .i64 m),((2,0),fun v=>v= .nilIface∨ ∃ t p,v= .iface t p),((1,0),fun v=>v= .nilIface∨ ∃ t p,v= .iface t p)],[(3,fun ob=> ∃ t f,ob= .cells (Go.Lib.pow10Tab.map fun z=>Value.int .u64 z).toArray t f)],some (81,5),fun t=>(look ZE t).isSome⟩
def Ra:List (Nat×Nat):= [(22,48),(30,128),(35,8),(42,16),(47,1),(60,64)]
def au (t:Nat):Nat:=(look Ra t).getD 1
theorem H7:cU S:=⟨fun | 0=>rfl | 1=>rfl | 2=>rfl | 3=>rfl | 4=>rfl | 5=>rfl | 6=>rfl | 7=>rfl | 8=>rfl | 9=>rfl | 10=>rfl | 11=>rfl | 12=>rfl | 13=>rfl | 14=>rfl | 15=>rfl | 16=>rfl | _+17=>rfl,fun | 0,_=>rfl | 1,_=>rfl | 2,_=>rfl | 3,_=>rfl | 4,_=>rfl | 5,_=>rfl | 6,_=>rfl | 7,_=>rfl | 8,_=>rfl | 9,_=>rfl | 10,_=>rfl | 11,_=>rfl | 12,_=>rfl | 13,_=>rfl | 14,_=>rfl | 15,_=>rfl | 16,_=>rfl | _+17,_=>rfl⟩
theorem Z9:b8 Tryz.prog S au 2 (.int .i64):=q_ rfl (by kernel_rfl) (by kernel_rfl) (by kernel_rfl)
theorem ty3:b8 Tryz.prog S au 3 (.int .i64):=q_ rfl (by kernel_rfl) (by kernel_rfl) (by kernel_rfl)
theorem ty4:b8 Tryz.prog S au 4 (.bool):=OQ rfl (by kernel_rfl) (by kernel_rfl) (by kernel_rfl)
theorem ty5:b8 Tryz.prog S au 5 (.int .u8):=q_ rfl (by kernel_rfl) (by kernel_rfl) (by kernel_rfl)
theorem ty9:b8 Tryz.prog S au 9 (.str):=OR rfl (by kernel_rfl) (by kernel_rfl) (by kernel_rfl)
theorem Z_:b8 Tryz.prog S au 22 (.sl (.st 2)):=oH rfl (by kernel_rfl) (by kernel_rfl) Tryz.underlying22 rfl rfl (by kernel_rfl) (by kernel_rfl)
theorem aaa:b8 Tryz.prog S au 23 (.int .i64):=q_ rfl (by kernel_rfl) (by kernel_rfl) (by kernel_rfl)
theorem aab:b8 Tryz.prog S au 25 (.st 3):=mw (l:=kP 3) rfl (by kernel_rfl) rfl (by kernel_rfl) (by kernel_rfl) rfl (by kernel_rfl) Tryz.underlying25 (by kernel_rfl) (fun _=>rfl) rfl
theorem aad:b8 Tryz.prog S au 30 (.sl (.st 0)):=oH rfl (by kernel_rfl) (by kernel_rfl) Tryz.underlying30 rfl rfl (by kernel_rfl) (by kernel_rfl)
theorem aae:b8 Tryz.prog S au 35 (.sl (.int .i64)):=oH rfl (by kernel_rfl) (by kernel_rfl) Tryz.underlying35 rfl rfl (by kernel_rfl) (by kernel_rfl)
theorem aag:b8 Tryz.prog S au 41 (.st 11):=mw (l:=kP 11) rfl (by kernel_rfl) rfl (by kernel_rfl) (by kernel_rfl) rfl (by kernel_rfl) Tryz.underlying41 (by kernel_rfl) (fun _=>rfl) rfl
theorem aah:b8 Tryz.prog S au 42 (.sl .str):=oH rfl (by kernel_rfl) (by kernel_rfl) Tryz.underlying42 rfl rfl (by kernel_rfl) (by kernel_rfl)
theorem aai:b8 Tryz.prog S au 44 (.st 12):=mw (l:=kP 12) rfl (by kernel_rfl) rfl (by kernel_rfl) (by kernel_rfl) rfl (by kernel_rfl) Tryz.underlying44 (by kernel_rfl) (fun _=>rfl) rfl
theorem aaj:b8 Tryz.prog S au 47 (.sl .bool):=oH rfl (by kernel_rfl) (by kernel_rfl) Tryz.underlying47 rfl rfl (by kernel_rfl) (by kernel_rfl)
theorem aal:b8 Tryz.prog S au 50 (.int .i8):=q_ rfl (by kernel_rfl) (by kernel_rfl) (by kernel_rfl)
theorem aam:b8 Tryz.prog S au 57 (.st 2):=mw (l:=kP 2) rfl (by kernel_rfl) rfl (by kernel_rfl) (by kernel_rfl) rfl (by kernel_rfl) Tryz.underlying57 (by kernel_rfl) (fun _=>rfl) rfl
theorem aan:b8 Tryz.prog S au 60 (.sl (.st 1)):=oH rfl (by kernel_rfl) (by kernel_rfl) Tryz.underlying60 rfl rfl (by kernel_rfl) (by kernel_rfl)
theorem aao:b8 Tryz.prog S au 62 (.st 0):=mw (l:=kP 0) rfl (by kernel_rfl) rfl (by kernel_rfl) (by kernel_rfl) rfl (by kernel_rfl) Tryz.underlying62 (by kernel_rfl) (fun _=>rfl) rfl
theorem aap:b8 Tryz.prog S au 65 (.st 4):=mw (l:=kP 4) rfl (by kernel_rfl) rfl (by kernel_rfl) (by kernel_rfl) rfl (by kernel_rfl) Tryz.underlying65 (by kernel_rfl) (fun _=>rfl) rfl
theorem aaq:b8 Tryz.prog S au 67 (.st 5):=mw (l:=kP 5) rfl (by kernel_rfl) rfl (by kernel_rfl) (by kernel_rfl) rfl (by kernel_rfl) Tryz.underlying67 (by kernel_rfl) (fun _=>rfl) rfl
theorem aar:b8 Tryz.prog S au 72 (.st 1):=mw (l:=kP 1) rfl (by kernel_rfl) rfl (by kernel_rfl) (by kernel_rfl) rfl (by kernel_rfl) Tryz.underlying72 (by kernel_rfl) (fun _=>rfl) rfl
theorem Z0:b8 Tryz.prog S au 106 (.st 13):=v7 rfl (by kernel_rfl) rfl (by kernel_rfl) (by kernel_rfl) rfl (by kernel_rfl) Tryz.underlying106 rfl rfl rfl (by kernel_rfl) (fun _=>rfl) rfl
theorem Z1:b8 Tryz.prog S au 107 (.st 14):=v7 rfl (by kernel_rfl) rfl (by kernel_rfl) (by kernel_rfl) rfl (by kernel_rfl) Tryz.underlying107 rfl rfl rfl (by kernel_rfl) (fun _=>rfl) rfl
theorem Z3:b8 Tryz.prog S au 124 (.st 15):=v7 rfl (by kernel_rfl) rfl (by kernel_rfl) (by kernel_rfl) rfl (by kernel_rfl) Tryz.underlying124 rfl rfl rfl (by kernel_rfl) (fun _=>rfl) rfl
theorem Z4:b8 Tryz.prog S au 148 (.st 10):=v7 rfl (by kernel_rfl) rfl (by kernel_rfl) (by kernel_rfl) rfl (by kernel_rfl) Tryz.underlying148 rfl rfl rfl (by kernel_rfl) (fun _=>rfl) rfl
theorem Z5:b8 Tryz.prog S au 164 (.st 6):=mw (l:=kP 6) rfl (by kernel_rfl) rfl (by kernel_rfl) (by kernel_rfl) rfl (by kernel_rfl) Tryz.underlying164 (by kernel_rfl) (fun _=>rfl) rfl
theorem Z6:b8 Tryz.prog S au 168 (.st 16):=mw (l:=kP 16) rfl (by kernel_rfl) rfl (by kernel_rfl) (by kernel_rfl) rfl (by kernel_rfl) Tryz.underlying168 (by kernel_rfl) (fun _=>rfl) rfl
theorem Z7:b8 Tryz.prog S au 179 (.st 9):=v7 rfl (by kernel_rfl) rfl (by kernel_rfl) (by kernel_rfl) rfl (by kernel_rfl) Tryz.underlying179 rfl rfl rfl (by kernel_rfl) (fun _=>rfl) rfl
theorem Z8:b8 Tryz.prog S au 189 (.st 8):=v7 rfl (by kernel_rfl) rfl (by kernel_rfl) (by kernel_rfl) rfl (by kernel_rfl) Tryz.underlying189 rfl rfl rfl (by kernel_rfl) (fun _=>rfl) rfl
theorem Gv:bh Tryz.prog S au:=⟨H7,fun t T h0=>by
 have h:=n_ (show look Im t=some T from h0)
 simp only [Im,List.mem_cons,Prod.mk.injEq,List.not_mem_nil,or_false] at h
 rcases h with ⟨rfl,rfl⟩ | ⟨rfl,rfl⟩ | ⟨rfl,rfl⟩ | ⟨rfl,rfl⟩ | ⟨rfl,rfl⟩ | ⟨rfl,rfl⟩ | ⟨rfl,rfl⟩ | ⟨rfl,rfl⟩ | ⟨rfl,rfl⟩ | ⟨rfl,rfl⟩ | ⟨rfl,rfl⟩ | ⟨rfl,rfl⟩ | ⟨rfl,rfl⟩ | ⟨rfl,rfl⟩ | ⟨rfl,rfl⟩ | ⟨rfl,rfl⟩ | ⟨rfl,rfl⟩ | ⟨rfl,rfl⟩ | ⟨rfl,rfl⟩ | ⟨rfl,rfl⟩ | ⟨rfl,rfl⟩ | ⟨rfl,rfl⟩ | ⟨rfl,rfl⟩ | ⟨rfl,rfl⟩ | ⟨rfl,rfl⟩ | ⟨rfl,rfl⟩ | ⟨rfl,rfl⟩ | ⟨rfl,rfl⟩ | ⟨rfl,rfl⟩
 · exact Z9
 · exact ty3
 · exact ty4
 · exact ty5
 · exact ty9
 · exact Z_
 · exact aaa
 · exact aab
 · exact aad
 · exact aae
 · exact aag
 · exact aah
 · exact aai
 · exact aaj
 · exact aal
 · exact aam
 · exact aan
 · exact aao
 · exact aap
 · exact aaq
 · exact aar
 · exact Z0
 · exact Z1
 · exact Z3
 · exact Z4
 · exact Z5
 · exact Z6
 · exact Z7
 · exact Z8,fun t h=>by
 have h2: ∃ u,look Gw t=some u:=Option.isSome_iff_exists.1 h
 obtain ⟨u,h2⟩:=h2
 have h:=n_ h2
 simp [Gw] at h,fun t h=>by
 have h2: ∃ u,look Et t=some u:=Option.isSome_iff_exists.1 h
 obtain ⟨u,h2⟩:=h2
 have h:=n_ h2
 simp only [Et,List.mem_cons,Prod.mk.injEq,List.not_mem_nil,or_false] at h
 rcases h with ⟨rfl,_⟩
 · exact ⟨3,rfl,⟨_,Tryz.underlying25,Er (by kernel_rfl)⟩,by kernel_rfl,by kernel_rfl⟩,fun t h=>by
 have h2: ∃ u,look FH t=some u:=Option.isSome_iff_exists.1 h
 obtain ⟨u,h2⟩:=h2
 have h:=n_ h2
 simp only [FH,List.mem_cons,Prod.mk.injEq,List.not_mem_nil,or_false] at h
 rcases h with ⟨rfl,_⟩
 · exact ⟨_,Tryz.underlying117⟩,Q8 (by kernel_rfl) (by decide)⟩
theorem pk:bh Tryz.prog S au∧Tryz.prog.follows .mixedOrders=true:=⟨Gv,by kernel_rfl⟩
abbrev q0:Sy.K:= .val (.data .str)
abbrev q1:Sy.K:= .val (.data (.int .i64))
abbrev q2:Sy.K:= .val (.data (.int .u8))
abbrev q3:Sy.K:= .val (.data .bool)
abbrev q4:Sy.K:= .val (.data (.st 2))
abbrev q5:Sy.K:= .val (.bu (.st 2))
abbrev q6:Sy.K:= .val (.data (.st 3))
abbrev q7:Sy.K:= .obj [.data (.int .i64), .data (.int .i64)]
abbrev q8:Sy.K:= .obj [.data (.st 5)]
abbrev q9:Sy.K:= .obj [.data (.st 6)]
abbrev fm:Sy.K:= .val (.data (.st 1))
abbrev yl:Sy.K:= .obj [.data (.sl (.st 2)), .data (.int .i64), .data (.int .i64), .data (.int .i64), .data (.int .i64)]
abbrev ym:Sy.K:= .obj [.data (.int .i64), .data (.int .i64), .data .str, .aY (.st 1), .data (.int .i64)]
abbrev lQ:Sy.K:= .obj [.data (.int .i64), .data (.int .i64), .data .str, .data (.sl (.st 1)), .data (.int .i64)]
abbrev g_:Sy.K:= .val (.data (.sl (.st 2)))
abbrev kz:Sy.K:= .val (.data (.sl (.st 1)))
abbrev om:Sy.K:= .val (.data (.st 0))
abbrev pF:Sy.K:= .val (.bu (.st 0))
abbrev WJ:Sy.K:= .val (.data (.st 8))
abbrev yo:Sy.K:= .val (.data (.sl (.int .i64)))
abbrev ou:Sy.K:= .bn
abbrev yp:Sy.K:= .obj [.data (.int .i64), .data .str, .data .str, .data (.sl (.st 1)), .data (.int .i64), .data (.sl (.st 0)), .data (.sl (.st 0)), .data (.int .i64)]
abbrev jm:Sy.K:= .val (.data (.sl (.st 0)))
abbrev Gx:Sy.K:= .fn [.st 1] [.bool]
abbrev WK:Sy.K:= .ro (.st 9)
abbrev Gy:Sy.K:= .val (.data (.st 12))
abbrev Bb:Sy.K:= .obj [.data (.st 11)]
abbrev WL:Sy.K:= .val (.data (.sl .str))
abbrev Gz:Sy.K:= .obj [.data (.sl (.int .i64)), .data (.int .i64)]
abbrev GA:Sy.K:= .obj [.data (.sl .str), .data (.sl .str), .data (.sl .str), .data (.sl .str)]
abbrev WM:Sy.K:= .ro (.st 15)
abbrev Bc:Sy.K:= .obj [.data (.int .i64), .data (.int .i64), .data (.int .i64), .data .str, .data (.int .i64)]
abbrev s6:Sy.K:= .obj [.data (.st 16)]
abbrev WN:Sy.K:= .obj [.data (.int .i64), .data .str, .data .str, .aY (.st 1), .data (.int .i64), .aY (.st 0), .aY (.st 0), .data (.int .i64)]
abbrev GB:Sy.K:= .err
def bz (e:Ty):Nat:=if e= .st 0 then 128 else if e= .int .i64 then 8 else if e= .bool then 1 else if e= .st 1 then 64 else 1
def mu:List (Nat×Ty):= [(2, .int .i64),(3, .int .i64),(4, .bool),(9, .str),(30, .sl (.st 0)),(35, .sl (.int .i64)),(47, .sl .bool),(50, .int .i8),(60, .sl (.st 1)),(62, .st 0),(72, .st 1)]
def I8:List (Nat×(Nat×Ty)):= []
abbrev SA:bf:=S.zg (look mu) (fun _=>false) (look I8) (fun _=>false)
theorem aat:b8 Tryz.prog SA au 2 (.int .i64):=q_ rfl (by kernel_rfl) (by kernel_rfl) (by kernel_rfl)
theorem aau:b8 Tryz.prog SA au 3 (.int .i64):=q_ rfl (by kernel_rfl) (by kernel_rfl) (by kernel_rfl)
theorem aax:b8 Tryz.prog SA au 4 (.bool):=OQ rfl (by kernel_rfl) (by kernel_rfl) (by kernel_rfl)
theorem aaD:b8 Tryz.prog SA au 9 (.str):=OR rfl (by kernel_rfl) (by kernel_rfl) (by kernel_rfl)
theorem aav:b8 Tryz.prog SA au 30 (.sl (.st 0)):=oH rfl (by kernel_rfl) (by kernel_rfl) Tryz.underlying30 rfl rfl (by kernel_rfl) (by kernel_rfl)
theorem aaw:b8 Tryz.prog SA au 35 (.sl (.int .i64)):=oH rfl (by kernel_rfl) (by kernel_rfl) Tryz.underlying35 rfl rfl (by kernel_rfl) (by kernel_rfl)
theorem aay:b8 Tryz.prog SA au 47 (.sl .bool):=oH rfl (by kernel_rfl) (by kernel_rfl) Tryz.underlying47 rfl rfl (by kernel_rfl) (by kernel_rfl)
theorem aaz:b8 Tryz.prog SA au 50 (.int .i8):=q_ rfl (by kernel_rfl) (by kernel_rfl) (by kernel_rfl)
theorem aaA:b8 Tryz.prog SA au 60 (.sl (.st 1)):=oH rfl (by kernel_rfl) (by kernel_rfl) Tryz.underlying60 rfl rfl (by kernel_rfl) (by kernel_rfl)
theorem aaB:b8 Tryz.prog SA au 62 (.st 0):=mw (l:=kP 0) rfl (by kernel_rfl) rfl (by kernel_rfl) (by kernel_rfl) rfl (by kernel_rfl) Tryz.underlying62 (by kernel_rfl) (fun _=>rfl) rfl
theorem aaC:b8 Tryz.prog SA au 72 (.st 1):=mw (l:=kP 1) rfl (by kernel_rfl) rfl (by kernel_rfl) (by kernel_rfl) rfl (by kernel_rfl) Tryz.underlying72 (by kernel_rfl) (fun _=>rfl) rfl
theorem Zh:cU SA:=⟨H7.flat,H7.ug⟩
theorem WG:bh Tryz.prog SA au:=⟨Zh,fun t e h0=>by
 have h:=n_ (show look mu t=some (e) from h0)
 simp only [mu,List.mem_cons,Prod.mk.injEq,List.not_mem_nil,or_false] at h
 rcases h with ⟨rfl,h⟩ | ⟨rfl,h⟩ | ⟨rfl,h⟩ | ⟨rfl,h⟩ | ⟨rfl,h⟩ | ⟨rfl,h⟩ | ⟨rfl,h⟩ | ⟨rfl,h⟩ | ⟨rfl,h⟩ | ⟨rfl,h⟩ | ⟨rfl,h⟩
 · subst h; exact aat
 · subst h; exact aau
 · subst h; exact aax
 · subst h; exact aaD
 · subst h; exact aav
 · subst h; exact aaw
 · subst h; exact aay
 · subst h; exact aaz
 · subst h; exact aaA
 · subst h; exact aaB
 · subst h; exact aaC,fun t h=>(nomatch h),fun t h=>(nomatch h),Gv.qx,Gv.bt⟩
theorem hbz: ∀ t e,SA.ty t=some (.sl e)→au t=bz e:=fun t e h0=>by
 have h:=n_ (show look mu t=some (.sl e) from h0)
 simp only [mu,List.mem_cons,Prod.mk.injEq,List.not_mem_nil,or_false] at h
 rcases h with ⟨rfl,h⟩ | ⟨rfl,h⟩ | ⟨rfl,h⟩ | ⟨rfl,h⟩ | ⟨rfl,h⟩ | ⟨rfl,h⟩ | ⟨rfl,h⟩ | ⟨rfl,h⟩ | ⟨rfl,h⟩ | ⟨rfl,h⟩ | ⟨rfl,h⟩
 · exact (nomatch h)
 · exact (nomatch h)
 · exact (nomatch h)
 · exact (nomatch h)
 · cases h; decide
 · cases h; decide
 · cases h; decide
 · exact (nomatch h)
 · cases h; decide
 · exact (nomatch h)
 · exact (nomatch h)
theorem Zu:DA SA:=⟨fun t e h0=>by
 have h:=n_ (show look mu t=some (.sl e) from h0)
 simp only [mu,List.mem_cons,Prod.mk.injEq,List.not_mem_nil,or_false] at h
 rcases h with ⟨rfl,h⟩ | ⟨rfl,h⟩ | ⟨rfl,h⟩ | ⟨rfl,h⟩ | ⟨rfl,h⟩ | ⟨rfl,h⟩ | ⟨rfl,h⟩ | ⟨rfl,h⟩ | ⟨rfl,h⟩ | ⟨rfl,h⟩ | ⟨rfl,h⟩
 · exact (nomatch h)
 · exact (nomatch h)
 · exact (nomatch h)
 · exact (nomatch h)
 · cases h; decide
 · cases h; decide
 · cases h; decide
 · exact (nomatch h)
 · cases h; decide
 · exact (nomatch h)
 · exact (nomatch h),fun t h0=>by
 have h:=n_ (show look mu t=some (.pt) from h0)
 simp only [mu,List.mem_cons,Prod.mk.injEq,List.not_mem_nil,or_false] at h
 rcases h with ⟨rfl,h⟩ | ⟨rfl,h⟩ | ⟨rfl,h⟩ | ⟨rfl,h⟩ | ⟨rfl,h⟩ | ⟨rfl,h⟩ | ⟨rfl,h⟩ | ⟨rfl,h⟩ | ⟨rfl,h⟩ | ⟨rfl,h⟩ | ⟨rfl,h⟩
 · exact (nomatch h)
 · exact (nomatch h)
 · exact (nomatch h)
 · exact (nomatch h)
 · exact (nomatch h)
 · exact (nomatch h)
 · exact (nomatch h)
 · exact (nomatch h)
 · exact (nomatch h)
 · exact (nomatch h)
 · exact (nomatch h)⟩
theorem ZH:DB Tryz.prog SA:=fun t e h0=>by
 have h:=n_ (show look mu t=some (.st e) from h0)
 simp only [mu,List.mem_cons,Prod.mk.injEq,List.not_mem_nil,or_false] at h
 rcases h with ⟨rfl,h⟩ | ⟨rfl,h⟩ | ⟨rfl,h⟩ | ⟨rfl,h⟩ | ⟨rfl,h⟩ | ⟨rfl,h⟩ | ⟨rfl,h⟩ | ⟨rfl,h⟩ | ⟨rfl,h⟩ | ⟨rfl,h⟩ | ⟨rfl,h⟩
 · exact (nomatch h)
 · exact (nomatch h)
 · exact (nomatch h)
 · exact (nomatch h)
 · exact (nomatch h)
 · exact (nomatch h)
 · exact (nomatch h)
 · exact (nomatch h)
 · exact (nomatch h)
 · cases h; exact Oq Tryz.underlying62 (by kernel_rfl)
 · cases h; exact Oq Tryz.underlying72 (by kernel_rfl)
abbrev NZ:List UInt8:= [123,114,97,105,115,101,32,101,32,40,32,49,32,41,59,108,111,111,112,32,50,123,125,125]
abbrev C3:List UInt8:= [32,9,10,13]
abbrev N4:List UInt8:= [45,62,32,61,61,32,33,61,32,60,61,32,62,61,32,38,38,32,124,124]
abbrev ic:List UInt8:= [123,125,40,41,91,93,59,44,46,58,61,60,62,43,45,42,47,37,33,36]
abbrev ju:List UInt8:= [123]
abbrev dx:List UInt8:= [125]
abbrev C6:List UInt8:= [115,121,115,116,101,109]
abbrev CE:List UInt8:= [97,103,101]
abbrev CO:List UInt8:= [99,104,97,114,116]
abbrev C5:List UInt8:= [115,116,101,112,115]
abbrev CT:List UInt8:= [102,117,101,108]
abbrev C8:List UInt8:= [118,97,114]
abbrev C0:List UInt8:= [112,111,114,116]
abbrev C7:List UInt8:= [116,105,109,101,114]
abbrev C4:List UInt8:= [115,116,97,116,101]
abbrev CZ:List UInt8:= [112,97,114,97,108,108,101,108]
abbrev CU:List UInt8:= [104,105,115,116,111,114,121]
abbrev CP:List UInt8:= [100,101,101,112]
abbrev CQ:List UInt8:= [101,110,116,114,121]
abbrev CR:List UInt8:= [101,120,105,116]
abbrev CY:List UInt8:= [111,110]
abbrev CF:List UInt8:= [97,117,116,111]
abbrev gh:List UInt8:= [114,97,105,115,101]
abbrev gH:List UInt8:= [115,101,110,100]
abbrev hY:List UInt8:= [97,114,109]
abbrev js:List UInt8:= [99,97,110,99,101,108]
abbrev h_:List UInt8:= [105,102]
abbrev jT:List UInt8:= [101,108,115,101]
abbrev gf:List UInt8:= [108,111,111,112]
abbrev iR:List UInt8:= [105,110]
abbrev CV:List UInt8:= [105,110,115,116]
abbrev C2:List UInt8:= [113,117,97,110,116,117,109]
abbrev CS:List UInt8:= [101,120,116]
abbrev C1:List UInt8:= [112,114,105,111]
abbrev CL:List UInt8:= [99,104,97,110]
abbrev CG:List UInt8:= [99,97,112]
abbrev CJ:List UInt8:= [99,101,114,116]
abbrev CW:List UInt8:= [105,110,115,116,115]
abbrev CN:List UInt8:= [99,104,97,110,115]
abbrev CI:List UInt8:= [99,101,108,108]
abbrev HY:List UInt8:= [111,102,102]
abbrev pS:List UInt8:= [61]
abbrev dV:List UInt8:= [45]
abbrev jr:List UInt8:= [33]
abbrev kI:List UInt8:= [36]
abbrev bM:List UInt8:= [40]
abbrev bD:List UInt8:= [41]
abbrev fB:List UInt8:= [124,124]
abbrev fy:List UInt8:= [38,38]
abbrev mb:List UInt8:= [60]
abbrev fE:List UInt8:= [60,61]
abbrev l_:List UInt8:= [62]
abbrev fD:List UInt8:= [62,61]
abbrev fC:List UInt8:= [61,61]
abbrev fA:List UInt8:= [33,61]
abbrev me:List UInt8:= [43]
abbrev mh:List UInt8:= [42]
abbrev mg:List UInt8:= [47]
abbrev mc:List UInt8:= [37]
abbrev bq:List UInt8:= [59]
abbrev HZ:List UInt8:= [123,120,32,61,32,49,125]
abbrev CX:List UInt8:= [123,125]
abbrev tH:List UInt8:= [123,10]
abbrev tI:List UInt8:= [32,32]
abbrev ia:List UInt8:= [105,110,40]
abbrev aT:List UInt8:= [32]
abbrev jU:List UInt8:= [32,61,32]
abbrev jv:List UInt8:= [114,97,105,115,101,32]
abbrev fK:List UInt8:= [115,101,110,100,32]
abbrev jS:List UInt8:= [97,114,109,32]
abbrev l9:List UInt8:= [99,97,110,99,101,108,32]
abbrev jt:List UInt8:= [105,102,32]
abbrev qU:List UInt8:= [32,101,108,115,101,32]
abbrev lp:List UInt8:= [108,111,111,112,32]
abbrev NY:List UInt8:= [123,10,32,32,114,97,105,115,101,32,101,40,49,41,59,10,32,32,108,111,111,112,32,50,32,123,125,10,125]
abbrev lg:List UInt8:= [48,49,50,51,52,53,54,55,56,57]
abbrev NV:List UInt8:= [10]
abbrev N3:List UInt8:= [120]
abbrev N5:List UInt8:= [121]
abbrev NW:List UInt8:= [112]
abbrev N0:List UInt8:= [116]
abbrev NU:List UInt8:= [105,100,108,101]
abbrev NT:List UInt8:= [103,111]
abbrev NX:List UInt8:= [112,105,110,103]
abbrev Zd:List UInt8:= [112,111,110,103]
abbrev Zc:List UInt8:= [101,114,114,111,114]
abbrev Ze:List UInt8:= [116,48]
abbrev Zb:List UInt8:= [98,97,108,108]
abbrev nq:List UInt8:= [45,62]
abbrev dU:List UInt8:= [123,125,40,41,59,58,61,45,62,60,46,36,35,33,38,124,43,42,47,32,48,97,57,95,10]
abbrev jD:List UInt8×List UInt8×List UInt8×List UInt8×List UInt8×List UInt8×List UInt8×List UInt8×List UInt8×List UInt8×List UInt8×List UInt8×List UInt8:=(fB,fy,mb,fE,l_,fD,fC,fA,me,dV,mh,mg,mc)
abbrev Ja:List UInt8×List UInt8×List UInt8×List UInt8×List UInt8×List UInt8×List UInt8×List UInt8×List UInt8×List UInt8×List UInt8×List UInt8×List UInt8×List UInt8×List UInt8×List UInt8×List UInt8×List UInt8×List UInt8×List UInt8×List UInt8×List UInt8×List UInt8×List UInt8×List UInt8×List UInt8×List UInt8×List UInt8×List UInt8×List UInt8×List UInt8×List UInt8×List UInt8×List UInt8×List UInt8:=(C6,CE,CO,C5,CT,C8,C0,C7,C4,CZ,CU,CP,CQ,CR,CY,CF,gh,gH,hY,js,h_,jT,gf,iR,CV,C2,CS,C1,CL,CG,CJ,CW,CN,CI,HY)
abbrev D0:List UInt8×List UInt8×List UInt8×List UInt8×List UInt8×List UInt8×List UInt8:=(nq,fC,fA,fE,fD,fy,fB)
abbrev NJ:List (List UInt8):= [[],[],[],[],[],dV,jr,mh,mg,mc,me,dV,mb,fE,l_,fD,fC,fA,fy,fB]
abbrev vL:List Int:= [0,1,2,7,1099511627776,9223372036854775807]
abbrev NK:List (List UInt8):= [NT,NX,Zd,Zc,Ze,Zb,NT,NX]
end
end Go.Sy.Ex
namespace Go.Sy.Ex
open Go.Sy Go.Proofs
theorem SF {w:World} {M:St} (h:jx S w M):(∃ m,w.cell? ⟨0,0,none⟩=some (.int .i64 m)):=by
 obtain ⟨_,_,v0,c0,m,rfl⟩:=h.1 (((0,0),fun v=> ∃ m,v= .int .i64 m)) (by simp)
 exact ⟨m,c0⟩
theorem SH {w:World} {M:St} (h:jx S w M):(∃ e,w.cell? ⟨2,0,none⟩=some e∧(e= .nilIface∨ ∃ t p,e= .iface t p)):=by
 obtain ⟨_,_,v1,c1,p1⟩:=h.1 (((2,0),fun v=>v= .nilIface∨ ∃ t p,v= .iface t p)) (by simp)
 exact ⟨v1,c1,p1⟩
theorem SI {w:World} {M:St} (h:jx S w M):(∃ e,w.cell? ⟨1,0,none⟩=some e∧(e= .nilIface∨ ∃ t p,e= .iface t p)):=by
 obtain ⟨_,_,v1,c1,p1⟩:=h.1 (((1,0),fun v=>v= .nilIface∨ ∃ t p,v= .iface t p)) (by simp)
 exact ⟨v1,c1,p1⟩
theorem Kv {w:World} {M:St} (h:jx S w M):Lib.TabIs Tryz.prog w "internal/strconv.uint64pow10" .u64 Lib.pow10Tab:=by
 obtain ⟨_,_,ob,c3,t,f,rfl⟩:=h.2 ((3,fun ob=> ∃ t f,ob= .cells (Go.Lib.pow10Tab.map fun z=>Value.int .u64 z).toArray t f)) (by simp)
 unfold Lib.TabIs World.var?
 rw [show Tryz.prog.globalNamed "internal/strconv.uint64pow10" =some 3 from by kernel_rfl]
 show (match w.heap[3]? with | some (.cells cs _ _)=>some cs | _=>none)=_
 rw [c3]
theorem zR {w w':World} {M:St} (h:RowKit.Below w.heap.size w w'):br w w' M:=by
 obtain ⟨a,b,c,d,e⟩:=h
 exact ⟨a,b,c,d,fun k hk _=>e k hk,fun k o hk _=>cell_of_heap (e k hk),fun k o hk hs=>by rw [cell_of_heap (e k hk)]; exact hs,fun k o hk _=>Ah (e k hk)⟩
theorem Ov (l:List UInt8):(⟨l.toArray⟩:ByteArray).size=l.length:=by show l.toArray.size=_; simp
theorem Ji (w:World) (k:Nat) (os:Array Obj):RowKit.Below w.heap.size w (Go.Sort.grow (w.drewN k) os):=
 ⟨rfl,rfl,rfl,by simp [Go.Sort.grow,World.drewN],fun j hj=>by simp [Go.Sort.grow,World.drewN,Array.getElem?_append,hj]⟩
theorem Ik {w:World} {s M:St} (hM:iU M) (r:List UInt8):cl Tryz.prog S w s M [.val (.data .str)] r [.string ⟨r.toArray⟩]:=
 ⟨_,_,_,_,vT M,rfl,⟨⟨hM,1,rfl⟩,rfl⟩,fun _ _ h=>h,rfl⟩
noncomputable def qD (s:List UInt8) (c:Int):Option Int:=some (Lib.indexByte s c.toNat.toUInt8)
theorem Mm:ax Tryz.prog S ⟨69,[.val (.data .str), .val (.data (.int .u8))],[.val (.data (.int .i64))],fun x=>qD x.1 x.2⟩:=by
 refine ⟨⟨Tryz.f69,Tryz.func69,by kernel_rfl,by kernel_rfl⟩,fun w s M (x:List UInt8×Int) args r hx hs hG hr=> ?_⟩
 obtain ⟨x,y⟩:=x
 obtain ⟨M1,M2,v,rr,_,rfl,⟨⟨_,n,h1⟩,h2⟩,M3,M4,v',tD,_,rfl,⟨⟨_,n',h3⟩,h4⟩,_,rfl⟩:=hx
 have hv:=nI (w:=w) (s:=s) ⟨h2,n,h1⟩
 have ec:=mB (w:=w) (s:=s) ⟨h4,n',h3⟩
 subst hv ec
 cases hr
 refine (Tryz.strings_IndexByte _ _ w).mono ?_
 rintro e w' ⟨rfl,rfl⟩
 exact ⟨[.int .i64 _],fun _ _=>False,fun _ _=>False,rfl,br.refl _ _,⟨_,_,_,_,Gb,rfl,⟨⟨fun _ _ h=>h,1,rfl⟩,rfl⟩,fun _ _ h=>h,rfl⟩,fun _ _ h=>h.elim,fun _ _ h=>h.elim⟩
noncomputable def uV (s sub:List UInt8):Option Bool:=if s.length<4294967281 then some (Lib.contains s sub) else none
theorem Wb:ax Tryz.prog S ⟨100,[.val (.data .str), .val (.data .str)],[.val (.data .bool)],fun x=>uV x.1 x.2⟩:=by
 refine ⟨⟨Tryz.f100,Tryz.func100,by kernel_rfl,by kernel_rfl⟩,fun w s M (x:List UInt8×List UInt8) args r hx hs hG hr=> ?_⟩
 obtain ⟨x,y⟩:=x
 obtain ⟨M1,M2,v,rr,_,rfl,⟨⟨_,n,h1⟩,h2⟩,M3,M4,v',tD,_,rfl,⟨⟨_,n',h3⟩,h4⟩,_,rfl⟩:=hx
 have hv:=nI (w:=w) (s:=s) ⟨h2,n,h1⟩
 have ec:=nI (w:=w) (s:=s) ⟨h4,n',h3⟩
 subst hv ec
 obtain ⟨m,hm⟩:=SF hG
 replace hr:uV x y=some r:=hr
 unfold uV at hr
 split at hr
 · rename_i hl
   cases hr
   refine (Tryz.strings_Contains ⟨x.toArray⟩ ⟨y.toArray⟩ m w (Nat.lt_of_le_of_lt (Nat.le_of_eq (Ov _)) hl) hm).mono ?_
   rintro e w' ⟨rfl,rfl⟩
   exact ⟨[.bool _],fun _ _=>False,fun _ _=>False,rfl,br.refl _ _,⟨_,_,_,_,Gb,rfl,⟨⟨fun _ _ h=>h,1,rfl⟩,rfl⟩,fun _ _ h=>h,rfl⟩,fun _ _ h=>h.elim,fun _ _ h=>h.elim⟩
 · cases hr
noncomputable def qF (s:List UInt8) (b z:Int):Option (Int×Bool):=if s.length≤281474976710656∧b=10∧z=64 then some (match Lib.parseIntB 64 s with
 | .ok v=>(v,true)
 | .range=>(Lib.intSat 64 s,false)
 | _=>(0,false)) else none
theorem UA {w:World} {s M:St} (hM:iU M) (v:Int) (b:Bool) (e:Value) (he:wB b e):cl Tryz.prog S w s M [.val (.data (.int .i64)), .err] (v,b) [.int .i64 v,e]:=
 ⟨_,_,_,_,vT M,rfl,⟨⟨hM,1,rfl⟩,rfl⟩,_,_,_,_,Gb,rfl,⟨fun _ _ h=>h,he⟩,fun _ _ h=>h,rfl⟩
theorem Wg:ax Tryz.prog S ⟨99,[.val (.data .str), .val (.data (.int .i64)), .val (.data (.int .i64))],[.val (.data (.int .i64)), .err],fun x=>qF x.1 x.2.1 x.2.2⟩:=by
 refine ⟨⟨Tryz.f99,Tryz.func99,by kernel_rfl,by kernel_rfl⟩,fun w s M (x:List UInt8×Int×Int) args r hx hs hG hr=> ?_⟩
 obtain ⟨x,y,z⟩:=x
 obtain ⟨M1,M2,v,rr,_,rfl,⟨⟨_,n,h1⟩,h2⟩,M3,M4,v',tD,_,rfl,⟨⟨_,n',h3⟩,h4⟩,M5,M6,v'',abm,_,rfl,⟨⟨_,VO,h5⟩,h6⟩,_,rfl⟩:=hx
 have hv:=nI (w:=w) (s:=s) ⟨h2,n,h1⟩
 have ec:=mB (w:=w) (s:=s) ⟨h4,n',h3⟩
 have Uj:=mB (w:=w) (s:=s) ⟨h6,VO,h5⟩
 subst hv ec Uj
 obtain ⟨e1,c1,k1⟩:=SH hG
 obtain ⟨e0,c0,k0⟩:=SI hG
 replace hr:qF x y z=some r:=hr
 unfold qF at hr
 split at hr
 · rename_i hl
   obtain ⟨hl,rfl,rfl⟩:=hl
   have hsz:(⟨x.toArray⟩:ByteArray).size≤281474976710656:=Nat.le_trans (Nat.le_of_eq (Ov x)) hl
   have E8: ∀ (r0:Int×Bool) (e:Value) (w':World),wB r0.2 e→RowKit.Below w.heap.size w w'→ ∃ us s' M',Ending.returned (Value.tuple #[.int .i64 r0.1,e])= .returned (l7 us)∧br w w' M∧cl Tryz.prog S w' s' M' [.val (.data (.int .i64)), .err] r0 (us++ [])∧
    (∀ b o,s' b o→b<w'.heap.size∧ ¬ M' b o∧(s b o∨M b o∨w.heap.size≤b))∧ ∀ b o,M' b o→M b o∨w.heap.size≤b:=fun r0 e w' he hb=>
    ⟨[.int .i64 r0.1,e],fun _ _=>False,fun _ _=>False,rfl,zR hb,UA (fun _ _ h=>h) _ _ _ he,fun _ _ h=>h.elim,fun _ _ h=>h.elim⟩
   cases hp:Lib.parseIntB 64 x with
   | ok v=>
    rw [hp] at hr
    cases hr
    refine (Tryz.strconv_ParseInt_10_at64_ok ⟨x.toArray⟩ (by omega) v hp w).mono ?_
    rintro e w' ⟨rfl,hw⟩
    refine E8 (v,true) .nilIface w' rfl ?_
    rcases hw with rfl | ⟨t,rfl⟩
    · exact RowKit.Below.refl _ _
    · exact ⟨rfl,rfl,rfl,by rw [Lib.bytesWorld_size]; omega,fun j hj=>Lib.bytesWorld_at_old w 5 t j hj⟩
   | range=>
    rw [hp] at hr
    cases hr
    refine (Tryz.strconv_ParseInt_10_at64_range ⟨x.toArray⟩ hsz hp e1 w c1 k1).mono ?_
    rintro e w' ⟨N,rfl,_,_,hb⟩
    exact E8 (_,false) _ w' ⟨_,_,rfl⟩ hb
   | _=>
    rw [hp] at hr
    cases hr
    refine (Any.strconv_ParseInt_10_at64_syntax Tryz.FT ⟨x.toArray⟩ hsz hp e0 w c0 k0).mono ?_
    rintro e w' ⟨N,rfl,_,_,hb⟩
    exact E8 (0,false) _ w' ⟨_,_,rfl⟩ hb
 · cases hr
noncomputable def qC (n b:Int):Option (List UInt8):=if b=10∧ -9223372036854775808≤n∧n≤9223372036854775807 then some (Lib.itoa n) else none
theorem Wc:ax Tryz.prog S ⟨145,[.val (.data (.int .i64)), .val (.data (.int .i64))],[.val (.data .str)],fun x=>qC x.1 x.2⟩:=by
 refine ⟨⟨Tryz.f145,Tryz.func145,by kernel_rfl,by kernel_rfl⟩,fun w s M (x:Int×Int) args r hx hs hG hr=> ?_⟩
 obtain ⟨x,y⟩:=x
 obtain ⟨M1,M2,v,rr,_,rfl,⟨⟨_,n,h1⟩,h2⟩,M3,M4,v',tD,_,rfl,⟨⟨_,n',h3⟩,h4⟩,_,rfl⟩:=hx
 have hv:=mB (w:=w) (s:=s) ⟨h2,n,h1⟩
 have ec:=mB (w:=w) (s:=s) ⟨h4,n',h3⟩
 subst hv ec
 have ht:=Kv hG
 replace hr:qC x y=some r:=hr
 unfold qC at hr
 split at hr
 · rename_i hl
   obtain ⟨rfl,hl⟩:=hl
   cases hr
   refine (Tryz.strconv_FormatInt_10 x hl.1 hl.2 w ht).mono ?_
   rintro e w' ⟨rfl,k,os,rfl⟩
   exact ⟨[.string _],fun _ _=>False,fun _ _=>False,rfl,zR (Ji w k os),Ik (fun _ _ h=>h) _,fun _ _ h=>h.elim,fun _ _ h=>h.elim⟩
 · cases hr
noncomputable def qE (n:Int):Option (List UInt8):=if -9223372036854775808≤n∧n≤9223372036854775807 then some (Lib.itoa n) else none
theorem We:ax Tryz.prog S ⟨110,[.val (.data (.int .i64))],[.val (.data .str)],fun x=>qE x⟩:=by
 refine ⟨⟨Tryz.f110,Tryz.func110,by kernel_rfl,by kernel_rfl⟩,fun w s M (x:Int) args r hx hs hG hr=> ?_⟩
 obtain ⟨M1,M2,v,rr,_,rfl,⟨⟨_,n,h1⟩,h2⟩,_,rfl⟩:=hx
 have hv:=mB (w:=w) (s:=s) ⟨h2,n,h1⟩
 subst hv
 have ht:=Kv hG
 replace hr:qE x=some r:=hr
 unfold qE at hr
 split at hr
 · rename_i hl
   cases hr
   refine (Tryz.strconv_Itoa x hl.1 hl.2 w ht).mono ?_
   rintro e w' ⟨rfl,k,os,rfl⟩
   exact ⟨[.string _],fun _ _=>False,fun _ _=>False,rfl,zR (Ji w k os),Ik (fun _ _ h=>h) _,fun _ _ h=>h.elim,fun _ _ h=>h.elim⟩
 · cases hr
noncomputable def qG (s:List UInt8) (c:Int):Option (List UInt8):=if 0≤c∧c≤9223372036854775807∧s.length*c.toNat≤140737488355328 then some (Lib.repeatL s c.toNat) else none
theorem Wh:ax Tryz.prog S ⟨79,[.val (.data .str), .val (.data (.int .i64))],[.val (.data .str)],fun x=>qG x.1 x.2⟩:=by
 refine ⟨⟨Tryz.f79,Tryz.func79,by kernel_rfl,by kernel_rfl⟩,fun w s M (x:List UInt8×Int) args r hx hs hG hr=> ?_⟩
 obtain ⟨x,y⟩:=x
 obtain ⟨M1,M2,v,rr,_,rfl,⟨⟨_,n,h1⟩,h2⟩,M3,M4,v',tD,_,rfl,⟨⟨_,n',h3⟩,h4⟩,_,rfl⟩:=hx
 have hv:=nI (w:=w) (s:=s) ⟨h2,n,h1⟩
 have ec:=mB (w:=w) (s:=s) ⟨h4,n',h3⟩
 subst hv ec
 replace hr:qG x y=some r:=hr
 unfold qG at hr
 split at hr
 · rename_i hl
   obtain ⟨h0,h1',oX⟩:=hl
   cases hr
   have hc:=Tryz.strings_Repeat ⟨x.toArray⟩ y.toNat w (by omega) oX
   rw [Int.toNat_of_nonneg h0] at hc
   refine hc.mono ?_
   rintro e w' ⟨rfl,hb⟩
   exact ⟨[.string _],fun _ _=>False,fun _ _=>False,rfl,zR hb,Ik (fun _ _ h=>h) _,fun _ _ h=>h.elim,fun _ _ h=>h.elim⟩
 · cases hr
theorem Gm:ax Tryz.prog S ⟨78,[.bn, .val (.data .str)],[.val (.data (.int .i64)), .err],fun x=>cP x.1 x.2⟩:=
 QZ (ρ:=Tryz.FQ) Tryz.U5 Tryz.Pc rfl ⟨Tryz.f78,Tryz.func78,by kernel_rfl,by kernel_rfl⟩
theorem Mn:ax Tryz.prog S ⟨81,[.bn, .val (.data (.int .u8))],[.err],fun x=>eO x.1 x.2⟩:=
 QW (ρ:=Tryz.AW) Tryz.LQ Tryz.IC rfl ⟨Tryz.f81,Tryz.func81,by kernel_rfl,by kernel_rfl⟩
theorem Wi:wE Tryz.prog S ⟨81,[.bn, .val (.data (.int .u8))],[.err],fun x=>eO x.1 x.2⟩:=
 QX (ρ:=Tryz.AW) Tryz.LQ Tryz.IC rfl ⟨Tryz.f81,Tryz.func81,by kernel_rfl,by kernel_rfl⟩
noncomputable def zM (x:List UInt8):Option (List UInt8×List UInt8):=some (x,x)
theorem Mo:ax Tryz.prog S ⟨42,[.bn],[.val (.data .str)],fun x=>zM x⟩:=
 QY (ρ:=Tryz.FR) Tryz.U6 Tryz.Pd rfl ⟨Tryz.f42,Tryz.func42,by kernel_rfl,by kernel_rfl⟩
end Go.Sy.Ex
set_option maxRecDepth 100000
namespace Go.Sy.Ex
open Go.Sy Go.Proofs
noncomputable section
abbrev JJ:Entry S:=⟨69,[q0,q2],[q1],fun x=>qD x.1 x.2⟩
abbrev RI:Entry S:=⟨99,[q0,q1,q1],[q1,GB],fun x=>qF x.1 x.2.1 x.2.2⟩
abbrev RC:Entry S:=⟨100,[q0,q0],[q3],fun x=>uV x.1 x.2⟩
abbrev Ep:Entry S:=⟨81,[ou,q2],[GB],fun x=>eO x.1 x.2⟩
abbrev RE:Entry S:=⟨145,[q1,q1],[q0],fun x=>qC x.1 x.2⟩
abbrev Eo:Entry S:=⟨78,[ou,q0],[q1,GB],fun x=>cP x.1 x.2⟩
abbrev JI:Entry S:=⟨42,[ou],[q0],fun x=>zM x⟩
abbrev RD:Entry S:=⟨110,[q1],[q0],fun x=>qE x⟩
abbrev RG:Entry S:=⟨79,[q0,q1],[q0],fun x=>qG x.1 x.2⟩
abbrev Vq:=(List UInt8)→Int→Option Int
abbrev L2 (f:Vq):Entry S:=⟨38,[q0,q1],[q1],fun x=>f x.1 x.2⟩
mutual
def n9:Nat→(List UInt8)→Int→Option Int
 | 0,_,_=>none
 | k+1,text,an=>if an<(text.length:Int) then
  if 0≤an then
  if an<(text.length:Int) then
  (qD C3 ((text.getD an.toNat 0).toNat:Int)).bind fun r1=>
  if 0≤r1 then
  n9 k text (ag (an+1)) else
  if 0≤an then
  if an<(text.length:Int) then
  if ((text.getD an.toNat 0).toNat:Int)=35 then
  qA k text an else
  some an else none else none else none else none else
  some an
def qA:Nat→(List UInt8)→Int→Option Int
 | 0,_,_=>none
 | k+1,text,an=>if an<(text.length:Int) then
  if 0≤an then
  if an<(text.length:Int) then
  if ((text.getD an.toNat 0).toNat:Int)≠10 then
  qA k text (ag (an+1)) else
  n9 k text an else none else none else
  n9 k text an
end
def L0 (k:Nat) (text:List UInt8) (an:Int):Option Int:=n9 k text an
def x4  (text:List UInt8) (an:Int):Option Int:=b_ (fun k (x:List UInt8×Int)=>L0 k x.1 x.2) (text,an)
theorem Vp:ax Tryz.prog S (L2 (x4)):=ir (fun k x=>L0 k x.1 x.2) (fun _=>rfl) fun k=>
 dD pk [JJ] ⟨Mm,trivial⟩ Tryz.func38 [] k (fun k=> [(0,⟨[0,1],[q0,q1],fun x=>n9 k x.1 x.2,false⟩),(2,⟨[0,1],[q0,q1],fun x=>qA k x.1 x.2,false⟩)]) ⟨fun _=>rfl,fun _=>rfl,trivial⟩ (fun _=>by kernel_rfl) (fun _=>by kernel_rfl) (by kernel_rfl)
abbrev Vk:=Int→Option (Bool×Bool)
abbrev A1 (f:Vk):Entry S:=⟨70,[q2],[q3,q3],fun x=>f x⟩
def n8  (c:Int):Option (Bool×Bool):=if 48≤c then
 if c≤57 then
 some (true,true) else
 if 97≤c then
 if c≤122 then
 if c≤122 then
 some (true,false) else
 some (false,false) else
 if 65≤c then
 if c≤90 then
 if c≤90 then
 some (true,false) else
 some (false,false) else
 if c=95 then
 some (true,false) else
 some (false,false) else
 if c=95 then
 some (true,false) else
 some (false,false) else
 if 65≤c then
 if c≤90 then
 if c≤90 then
 some (true,false) else
 some (false,false) else
 if c=95 then
 some (true,false) else
 some (false,false) else
 if c=95 then
 some (true,false) else
 some (false,false) else
 if 97≤c then
 if c≤122 then
 if c≤122 then
 some (true,false) else
 some (false,false) else
 if 65≤c then
 if c≤90 then
 if c≤90 then
 some (true,false) else
 some (false,false) else
 if c=95 then
 some (true,false) else
 some (false,false) else
 if c=95 then
 some (true,false) else
 some (false,false) else
 if 65≤c then
 if c≤90 then
 if c≤90 then
 some (true,false) else
 some (false,false) else
 if c=95 then
 some (true,false) else
 some (false,false) else
 if c=95 then
 some (true,false) else
 some (false,false)
theorem F2:ax Tryz.prog S (A1 (n8)):=
 bp pk [] trivial Tryz.func70 (by kernel_rfl) (fun _=>by kernel_rfl) (by kernel_rfl)
abbrev Vj:=(List UInt8)→Int→Option Int
abbrev F1 (f:Vj):Entry S:=⟨71,[q0,q1],[q1],fun x=>f x.1 x.2⟩
def sZ:Nat→(List UInt8)→Int→Bool→Option Int
 | 0,_,_,_=>none
 | k+1,text,an,number=>if an<(text.length:Int) then
  if 0≤an then
  if an<(text.length:Int) then
  (n8 ((text.getD an.toNat 0).toNat:Int)).bind fun r2=>
  bif !r2.1 then
  some an else
  bif number then
  bif !r2.2 then
  some an else
  sZ k text (ag (an+1)) number else
  sZ k text (ag (an+1)) number else none else none else
  some an
def F0 (k:Nat) (text:List UInt8) (an:Int):Option Int:=if 0≤an then
 if an<(text.length:Int) then
 (n8 ((text.getD an.toNat 0).toNat:Int)).bind fun r1=>
 sZ k text an r1.2 else none else none
def sY  (text:List UInt8) (an:Int):Option Int:=b_ (fun k (x:List UInt8×Int)=>F0 k x.1 x.2) (text,an)
theorem LX:ax Tryz.prog S (F1 (sY)):=ir (fun k x=>F0 k x.1 x.2) (fun _=>rfl) fun k=>
 dD pk [A1 n8] ⟨F2,trivial⟩ Tryz.func71 [] k (fun k=> [(0,⟨[0,1,6],[q0,q1,q3],fun x=>sZ k x.1 x.2.1 x.2.2,false⟩)]) ⟨fun _=>rfl,trivial⟩ (fun _=>by kernel_rfl) (fun _=>by kernel_rfl) (by kernel_rfl)
abbrev Vm:=(List UInt8)→Option (Int×Int)
abbrev LY (f:Vm):Entry S:=⟨72,[q0],[q1,q1],fun x=>f x⟩
def xY  (s:List UInt8):Option (Int×Int):=if 1<(s.length:Int) then
 if (0:Int)≤0 then
 if 0<(s.length:Int) then
 if ((s.getD (0:Int).toNat 0).toNat:Int)=48 then
 some (0,11) else
 (qF s 10 64).bind fun r1=>
 bif !r1.2 then
 some (0,16) else
 some (r1.1,0) else none else none else
 (qF s 10 64).bind fun r2=>
 bif !r2.2 then
 some (0,16) else
 some (r2.1,0)
theorem Vl:ax Tryz.prog S (LY (xY)):=
 bp pk [RI] ⟨Wg,trivial⟩ Tryz.func72 (by kernel_rfl) (fun _=>by kernel_rfl) (by kernel_rfl)
abbrev Vo:=(List UInt8)→Int→Option Int
abbrev LZ (f:Vo):Entry S:=⟨73,[q0,q1],[q1],fun x=>f x.1 x.2⟩
def xZ  (text:List UInt8) (an:Int):Option Int:=if (ag (an+1))<(text.length:Int) then
 if 0≤(ag (an+1)) then
 if (ag (an+1))<(text.length:Int) then
 if ((text.getD (ag (an+1)).toNat 0).toNat:Int)≠32 then
 if 0≤(ag (an+2)) then
 if (ag (an+2))≤(text.length:Int) then
 if 0≤an then
 if an≤(ag (an+2)) then
 (uV N4 (cut text an (ag (an+2)))).bind fun r1=>
 bif r1 then
 some (ag (an+2)) else
 if 0≤an then
 if an<(text.length:Int) then
 (qD ic ((text.getD an.toNat 0).toNat:Int)).bind fun r2=>
 if 0≤r2 then
 some (ag (an+1)) else
 some an else none else none else none else none else none else none else
 if 0≤an then
 if an<(text.length:Int) then
 (qD ic ((text.getD an.toNat 0).toNat:Int)).bind fun r3=>
 if 0≤r3 then
 some (ag (an+1)) else
 some an else none else none else none else none else
 if 0≤an then
 if an<(text.length:Int) then
 (qD ic ((text.getD an.toNat 0).toNat:Int)).bind fun r4=>
 if 0≤r4 then
 some (ag (an+1)) else
 some an else none else none
theorem Vn:ax Tryz.prog S (LZ (xZ)):=
 bp pk [RC,JJ] ⟨Wb,Mm,trivial⟩ Tryz.func73 (by kernel_rfl) (fun _=>by kernel_rfl) (by kernel_rfl)
abbrev Vt:=(List UInt8)→Int→Option (ak×Int)
abbrev L3 (f:Vt):Entry S:=⟨39,[q0,q1],[q4,q1],fun x=>f x.1 x.2⟩
def x5  (text:List UInt8) (an:Int):Option (ak×Int):=if 0≤an then
 if an<(text.length:Int) then
 (n8 ((text.getD an.toNat 0).toNat:Int)).bind fun r1=>
 bif r1.2 then
 (sY text an).bind fun r2=>
 if 0≤r2 then
 if r2≤(text.length:Int) then
 if 0≤an then
 if an≤r2 then
 (xY (cut text an r2)).bind fun r3=>
 if r3.2≠0 then
 some (ak.mk 0 0 0 [] 0,r3.2) else
 if 0≤r2 then
 if r2≤(text.length:Int) then
 if 0≤an then
 if an≤r2 then
 some (ak.mk 2 an r2 (cut text an r2) r3.1,0) else none else none else none else none else none else none else none else none else
 bif r1.1 then
 (sY text an).bind fun r4=>
 if 24<(ag (r4 - an)) then
 some (ak.mk 0 0 0 [] 0,13) else
 if 0≤r4 then
 if r4≤(text.length:Int) then
 if 0≤an then
 if an≤r4 then
 some (ak.mk 1 an r4 (cut text an r4) 0,0) else none else none else none else none else
 (xZ text an).bind fun r5=>
 if r5=an then
 some (ak.mk 0 0 0 [] 0,10) else
 if 0≤r5 then
 if r5≤(text.length:Int) then
 if 0≤an then
 if an≤r5 then
 some (ak.mk 3 an r5 (cut text an r5) 0,0) else none else none else none else none else none else none
theorem Vr:ax Tryz.prog S (L3 (x5)):=
 bp pk [A1 n8,F1 sY,LY xY,LZ xZ] ⟨F2,LX,Vl,Vn,trivial⟩ Tryz.func39 (by kernel_rfl) (fun _=>by kernel_rfl) (by kernel_rfl)
abbrev Vg:=(List UInt8)→Option (List ak×aL)
abbrev LV (f:Vg):Entry S:=⟨18,[q0],[q5,q6],fun x=>f x⟩
def sX:Nat→(List UInt8)→Int→Int→(List ak)→Int→Option (List ak×aL)
 | 0,_,_,_,_,_=>none
 | k+1,text,Iy,Ix,l,an=>if an<(text.length:Int) then
  (x5 text an).bind fun r2=>
  if r2.2≠0 then
  some ([],aL.mk r2.2 an) else
  if (l.length+ [r2.1].length)*48≤140737488355328 then
  (x4 text r2.1.End).bind fun r3=>
  sX k text Iy Ix (l++ [r2.1]) r3 else none else
  if (l.length+ [ak.mk 4 an an [] 0].length)*48≤140737488355328 then
  some (l++ [ak.mk 4 an an [] 0],aL.mk 0 0) else none
def FX (k:Nat) (text:List UInt8):Option (List ak×aL):=if 16384<(text.length:Int) then
 some ([],aL.mk 13 16384) else
 (x4 text 0).bind fun r1=>
 sX k text 0 0 [] r1
def AZ  (text:List UInt8):Option (List ak×aL):=b_ (fun k (x:List UInt8)=>FX k x) text
theorem Ve:ax Tryz.prog S (LV (AZ)):=ir (fun k x=>FX k x) (fun _=>rfl) fun k=>
 dD pk [L2 x4,L3 x5] ⟨Vp,Vr,trivial⟩ Tryz.func18 [] k (fun k=> [(0,⟨[0,3,4,5],[q0,q7,q5,q1],fun x=>sX k x.1 x.2.1.1 x.2.1.2 x.2.2.1 x.2.2.2,false⟩)]) ⟨fun _=>rfl,trivial⟩ (fun _=>by kernel_rfl) (fun _=>by kernel_rfl) (by kernel_rfl)
abbrev W8:=aG→Option (Bool×aG)
abbrev vi (f:W8):Entry S:=⟨28,[q8],[q3],fun x=>f x⟩
def kB  (r_:aG):Option (Bool×aG):=some (decide (r_.Row.bk.Code=0),r_)
theorem yC:ax Tryz.prog S (vi (kB)):=
 bp pk [] trivial Tryz.func28 (by kernel_rfl) (fun _=>by kernel_rfl) (by kernel_rfl)
abbrev W0:=aG→Option (ak×aG)
abbrev s9 (f:W0):Entry S:=⟨55,[q8],[q4],fun x=>f x⟩
def iN  (r_:aG):Option (ak×aG):=(kB r_).bind fun r1=>
 bif !r1.1 then
 some (ak.mk 4 0 0 [] 0,r1.2) else
 if r1.2.Row.At<0 then
 some (ak.mk 4 0 0 [] 0,r1.2) else
 if (r1.2.Row.L.length:Int)≤r1.2.Row.At then
 some (ak.mk 4 0 0 [] 0,r1.2) else
 if 0≤r1.2.Row.At then
 if r1.2.Row.At<(r1.2.Row.L.length:Int) then
 some (r1.2.Row.L.getD r1.2.Row.At.toNat ak.z,r1.2) else none else none
theorem vh:ax Tryz.prog S (s9 (iN)):=
 bp pk [vi kB] ⟨yC,trivial⟩ Tryz.func55 (by kernel_rfl) (fun _=>by kernel_rfl) (by kernel_rfl)
abbrev WY:=aG→(List UInt8)→Option (Bool×aG)
abbrev yB (f:WY):Entry S:=⟨53,[q8,q0],[q3],fun x=>f x.1 x.2⟩
def jO  (r_:aG) (s:List UInt8):Option (Bool×aG):=(iN r_).bind fun r1=>
 if r1.1.Kind=3 then
 some (decide (r1.1.Text=s),r1.2) else
 if r1.1.Kind=1 then
 some (decide (r1.1.Text=s),r1.2) else
 some (false,r1.2)
theorem B4:ax Tryz.prog S (yB (jO)):=
 bp pk [s9 iN] ⟨vh,trivial⟩ Tryz.func53 (by kernel_rfl) (fun _=>by kernel_rfl) (by kernel_rfl)
abbrev WU:=aG→Int→Int→Option aG
abbrev BZ (f:WU):Entry S:=⟨54,[q8,q1,q1],[],fun x=>f x.1 x.2.1 x.2.2⟩
def gz  (r_:aG) (code:Int) (an:Int):Option aG:=(kB r_).bind fun r1=>
 bif r1.1 then
 some (aG.mk (bg.mk r1.2.Row.L r1.2.Row.At (aL.mk code an)) r1.2.aR) else
 some r1.2
theorem Hl:ax Tryz.prog S (BZ (gz)):=
 bp pk [vi kB] ⟨yC,trivial⟩ Tryz.func54 (by kernel_rfl) (fun _=>by kernel_rfl) (by kernel_rfl)
abbrev W_:=aG→(List UInt8)→Option (Bool×aG)
abbrev yD (f:W_):Entry S:=⟨57,[q8,q0],[q3],fun x=>f x.1 x.2⟩
def gA  (r_:aG) (s:List UInt8):Option (Bool×aG):=(jO r_ s).bind fun r1=>
 bif r1.1 then
 some (r1.1,aG.mk (bg.mk r1.2.Row.L (ag (r1.2.Row.At+1)) r1.2.Row.bk) r1.2.aR) else
 some (r1.1,r1.2)
theorem B6:ax Tryz.prog S (yD (gA)):=
 bp pk [yB jO] ⟨B4,trivial⟩ Tryz.func57 (by kernel_rfl) (fun _=>by kernel_rfl) (by kernel_rfl)
abbrev Xe:=aG→Option aG
abbrev yF (f:Xe):Entry S:=⟨83,[q8],[],fun x=>f x⟩
def iP  (r_:aG):Option aG:=(iN r_).bind fun r1=>
 if r1.1.Kind=4 then
 (gz r1.2 12 r1.1.At).bind fun r2=>
 some r2 else
 (gz r1.2 11 r1.1.At).bind fun r3=>
 some r3
theorem B9:ax Tryz.prog S (yF (iP)):=
 bp pk [s9 iN,BZ gz] ⟨vh,Hl,trivial⟩ Tryz.func83 (by kernel_rfl) (fun _=>by kernel_rfl) (by kernel_rfl)
abbrev Xc:=aG→(List UInt8)→Option aG
abbrev yE (f:Xc):Entry S:=⟨56,[q8,q0],[],fun x=>f x.1 x.2⟩
def cZ  (r_:aG) (s:List UInt8):Option aG:=(gA r_ s).bind fun r1=>
 bif !r1.1 then
 (iP r1.2).bind fun r2=>
 some r2 else
 some r1.2
theorem B7:ax Tryz.prog S (yE (cZ)):=
 bp pk [yD gA,yF iP] ⟨B6,B9,trivial⟩ Tryz.func56 (by kernel_rfl) (fun _=>by kernel_rfl) (by kernel_rfl)
abbrev Vi:=(List UInt8)→Option Bool
abbrev A0 (f:Vi):Entry S:=⟨113,[q0],[q3],fun x=>f x⟩
def pg  (s:List UInt8):Option Bool:=if s=C6 then
 if s=C6 then
 some true else
 some false else
 if s=CE then
 if s=CE then
 some true else
 some false else
 if s=CO then
 if s=CO then
 some true else
 some false else
 if s=C5 then
 if s=C5 then
 some true else
 some false else
 if s=CT then
 if s=CT then
 some true else
 some false else
 if s=C8 then
 if s=C8 then
 some true else
 some false else
 if s=C0 then
 if s=C0 then
 some true else
 some false else
 if s=C7 then
 if s=C7 then
 some true else
 some false else
 if s=C4 then
 if s=C4 then
 some true else
 some false else
 if s=CZ then
 if s=CZ then
 some true else
 some false else
 if s=CU then
 if s=CU then
 some true else
 some false else
 if s=CP then
 if s=CP then
 some true else
 some false else
 if s=CQ then
 if s=CQ then
 some true else
 some false else
 if s=CR then
 if s=CR then
 some true else
 some false else
 if s=CY then
 if s=CY then
 some true else
 some false else
 if s=CF then
 if s=CF then
 some true else
 some false else
 if s=gh then
 if s=gh then
 some true else
 some false else
 if s=gH then
 if s=gH then
 some true else
 some false else
 if s=hY then
 if s=hY then
 some true else
 some false else
 if s=js then
 if s=js then
 some true else
 some false else
 if s=h_ then
 if s=h_ then
 some true else
 some false else
 if s=jT then
 if s=jT then
 some true else
 some false else
 if s=gf then
 if s=gf then
 some true else
 some false else
 if s=iR then
 if s=iR then
 some true else
 some false else
 if s=CV then
 if s=CV then
 some true else
 some false else
 if s=C2 then
 if s=C2 then
 some true else
 some false else
 if s=CS then
 if s=CS then
 some true else
 some false else
 if s=C1 then
 if s=C1 then
 some true else
 some false else
 if s=CL then
 if s=CL then
 some true else
 some false else
 if s=CG then
 if s=CG then
 some true else
 some false else
 if s=CJ then
 if s=CJ then
 some true else
 some false else
 if s=CW then
 if s=CW then
 some true else
 some false else
 if s=CN then
 if s=CN then
 some true else
 some false else
 if s=CI then
 if s=CI then
 some true else
 some false else
 if s=HY then
 some true else
 some false
theorem FZ:ax Tryz.prog S (A0 (pg)):=
 bp pk [] trivial Tryz.func113 (by kernel_rfl) (fun _=>by kernel_rfl) (by kernel_rfl)
abbrev WW:=aG→Option (Bool×aG)
abbrev Hp (f:WW):Entry S:=⟨84,[q8],[q3],fun x=>f x⟩
def oy  (r_:aG):Option (Bool×aG):=(iN r_).bind fun r1=>
 if r1.1.Kind=1 then
 (pg r1.1.Text).bind fun r2=>
 some (!r2,r1.2) else
 some (false,r1.2)
theorem MH:ax Tryz.prog S (Hp (oy)):=
 bp pk [s9 iN,A0 pg] ⟨vh,FZ,trivial⟩ Tryz.func84 (by kernel_rfl) (fun _=>by kernel_rfl) (by kernel_rfl)
abbrev W4:=aG→Option (List UInt8×aG)
abbrev MJ (f:W4):Entry S:=⟨85,[q8],[q0],fun x=>f x⟩
def fZ  (r_:aG):Option (List UInt8×aG):=(oy r_).bind fun r1=>
 bif !r1.1 then
 (iP r1.2).bind fun r2=>
 some ([],r2) else
 if 0≤(ag ((ag (r1.2.Row.At+1)) - 1)) then
 if (ag ((ag (r1.2.Row.At+1)) - 1))<(r1.2.Row.L.length:Int) then
 some ((r1.2.Row.L.getD (ag ((ag (r1.2.Row.At+1)) - 1)).toNat ak.z).Text,aG.mk (bg.mk r1.2.Row.L (ag (r1.2.Row.At+1)) r1.2.Row.bk) r1.2.aR) else none else none
theorem W3:ax Tryz.prog S (MJ (fZ)):=
 bp pk [Hp oy,yF iP] ⟨MH,B9,trivial⟩ Tryz.func85 (by kernel_rfl) (fun _=>by kernel_rfl) (by kernel_rfl)
abbrev W7:=aK→Option (Bool×aK)
abbrev B5 (f:W7):Entry S:=⟨28,[q9],[q3],fun x=>f x⟩
def oA  (r_:aK):Option (Bool×aK):=some (decide (r_.Row.bk.Code=0),r_)
theorem Hr:ax Tryz.prog S (B5 (oA)):=
 bp pk [] trivial Tryz.func28 (by kernel_rfl) (fun _=>by kernel_rfl) (by kernel_rfl)
abbrev WZ:=aK→Option (ak×aK)
abbrev s8 (f:WZ):Entry S:=⟨55,[q9],[q4],fun x=>f x⟩
def iO  (r_:aK):Option (ak×aK):=(oA r_).bind fun r1=>
 bif !r1.1 then
 some (ak.mk 4 0 0 [] 0,r1.2) else
 if r1.2.Row.At<0 then
 some (ak.mk 4 0 0 [] 0,r1.2) else
 if (r1.2.Row.L.length:Int)≤r1.2.Row.At then
 some (ak.mk 4 0 0 [] 0,r1.2) else
 if 0≤r1.2.Row.At then
 if r1.2.Row.At<(r1.2.Row.L.length:Int) then
 some (r1.2.Row.L.getD r1.2.Row.At.toNat ak.z,r1.2) else none else none
theorem vg:ax Tryz.prog S (s8 (iO)):=
 bp pk [B5 oA] ⟨Hr,trivial⟩ Tryz.func55 (by kernel_rfl) (fun _=>by kernel_rfl) (by kernel_rfl)
abbrev WX:=aK→(List UInt8)→Option (Bool×aK)
abbrev B3 (f:WX):Entry S:=⟨53,[q9,q0],[q3],fun x=>f x.1 x.2⟩
def kW  (r_:aK) (s:List UInt8):Option (Bool×aK):=(iO r_).bind fun r1=>
 if r1.1.Kind=3 then
 some (decide (r1.1.Text=s),r1.2) else
 if r1.1.Kind=1 then
 some (decide (r1.1.Text=s),r1.2) else
 some (false,r1.2)
theorem Hq:ax Tryz.prog S (B3 (kW)):=
 bp pk [s8 iO] ⟨vg,trivial⟩ Tryz.func53 (by kernel_rfl) (fun _=>by kernel_rfl) (by kernel_rfl)
abbrev WT:=aK→Int→Int→Option aK
abbrev Hj (f:WT):Entry S:=⟨54,[q9,q1,q1],[],fun x=>f x.1 x.2.1 x.2.2⟩
def nc  (r_:aK) (code:Int) (an:Int):Option aK:=(oA r_).bind fun r1=>
 bif r1.1 then
 some (aK.mk (bg.mk r1.2.Row.L r1.2.Row.At (aL.mk code an)) r1.2.aR) else
 some r1.2
theorem MF:ax Tryz.prog S (Hj (nc)):=
 bp pk [B5 oA] ⟨Hr,trivial⟩ Tryz.func54 (by kernel_rfl) (fun _=>by kernel_rfl) (by kernel_rfl)
abbrev R2:=aK→Int→Option (Bool×aK)
abbrev Ey (f:R2):Entry S:=⟨163,[q9,q1],[q3],fun x=>f x.1 x.2⟩
def ki  (r_:aK) (an:Int):Option (Bool×aK):=if r_.aR=12 then
 (nc r_ 14 an).bind fun r1=>
 some (false,r1) else
 some (true,aK.mk (bg.mk r_.Row.L (ag (r_.Row.At+1)) r_.Row.bk) (ag (r_.aR+1)))
theorem J6:ax Tryz.prog S (Ey (ki)):=
 bp pk [Hj nc] ⟨MF,trivial⟩ Tryz.func163 (by kernel_rfl) (fun _=>by kernel_rfl) (by kernel_rfl)
abbrev W9:=aK→(List UInt8)→Option (Bool×aK)
abbrev Hs (f:W9):Entry S:=⟨57,[q9,q0],[q3],fun x=>f x.1 x.2⟩
def nh  (r_:aK) (s:List UInt8):Option (Bool×aK):=(kW r_ s).bind fun r1=>
 bif r1.1 then
 some (r1.1,aK.mk (bg.mk r1.2.Row.L (ag (r1.2.Row.At+1)) r1.2.Row.bk) r1.2.aR) else
 some (r1.1,r1.2)
theorem ML:ax Tryz.prog S (Hs (nh)):=
 bp pk [B3 kW] ⟨Hq,trivial⟩ Tryz.func57 (by kernel_rfl) (fun _=>by kernel_rfl) (by kernel_rfl)
abbrev WV:=aK→Option (Bool×aK)
abbrev Ho (f:WV):Entry S:=⟨84,[q9],[q3],fun x=>f x⟩
def pG  (r_:aK):Option (Bool×aK):=(iO r_).bind fun r1=>
 if r1.1.Kind=1 then
 (pg r1.1.Text).bind fun r2=>
 some (!r2,r1.2) else
 some (false,r1.2)
theorem MG:ax Tryz.prog S (Ho (pG)):=
 bp pk [s8 iO,A0 pg] ⟨vg,FZ,trivial⟩ Tryz.func84 (by kernel_rfl) (fun _=>by kernel_rfl) (by kernel_rfl)
abbrev Xd:=aK→Option aK
abbrev B8 (f:Xd):Entry S:=⟨83,[q9],[],fun x=>f x⟩
def lU  (r_:aK):Option aK:=(iO r_).bind fun r1=>
 if r1.1.Kind=4 then
 (nc r1.2 12 r1.1.At).bind fun r2=>
 some r2 else
 (nc r1.2 11 r1.1.At).bind fun r3=>
 some r3
theorem Ht:ax Tryz.prog S (B8 (lU)):=
 bp pk [s8 iO,Hj nc] ⟨vg,MF,trivial⟩ Tryz.func83 (by kernel_rfl) (fun _=>by kernel_rfl) (by kernel_rfl)
abbrev W2:=aK→Option (List UInt8×aK)
abbrev MI (f:W2):Entry S:=⟨85,[q9],[q0],fun x=>f x⟩
def ng  (r_:aK):Option (List UInt8×aK):=(pG r_).bind fun r1=>
 bif !r1.1 then
 (lU r1.2).bind fun r2=>
 some ([],r2) else
 if 0≤(ag ((ag (r1.2.Row.At+1)) - 1)) then
 if (ag ((ag (r1.2.Row.At+1)) - 1))<(r1.2.Row.L.length:Int) then
 some ((r1.2.Row.L.getD (ag ((ag (r1.2.Row.At+1)) - 1)).toNat ak.z).Text,aK.mk (bg.mk r1.2.Row.L (ag (r1.2.Row.At+1)) r1.2.Row.bk) r1.2.aR) else none else none
theorem W1:ax Tryz.prog S (MI (ng)):=
 bp pk [Ho pG,B8 lU] ⟨MG,Ht,trivial⟩ Tryz.func85 (by kernel_rfl) (fun _=>by kernel_rfl) (by kernel_rfl)
abbrev Xb:=aK→(List UInt8)→Option aK
abbrev MM (f:Xb):Entry S:=⟨56,[q9,q0],[],fun x=>f x.1 x.2⟩
def jP  (r_:aK) (s:List UInt8):Option aK:=(nh r_ s).bind fun r1=>
 bif !r1.1 then
 (lU r1.2).bind fun r2=>
 some r2 else
 some r1.2
theorem Xa:ax Tryz.prog S (MM (jP)):=
 bp pk [Hs nh,B8 lU] ⟨ML,Ht,trivial⟩ Tryz.func56 (by kernel_rfl) (fun _=>by kernel_rfl) (by kernel_rfl)
abbrev mN:=aK→Int→Option (ai×aK)
abbrev oW (f:mN):Entry S:=⟨135,[q9,q1],[fm],fun x=>f x.1 x.2⟩
abbrev R7:=aK→Option (ai×aK)
abbrev J7 (f:R7):Entry S:=⟨162,[q9],[fm],fun x=>f x⟩
def iD (cJ:mN)  (r_:aK):Option (ai×aK):=(iO r_).bind fun r1=>
 if r1.1.Kind=2 then
 some (ai.mk 1 r1.1.N [] [] r1.1.At,aK.mk (bg.mk r1.2.Row.L (ag (r1.2.Row.At+1)) r1.2.Row.bk) r1.2.aR) else
 (nh r1.2 kI).bind fun r2=>
 bif r2.1 then
 some (ai.mk 3 0 [] [] r1.1.At,r2.2) else
 (pG r2.2).bind fun r3=>
 bif r3.1 then
 (ng r3.2).bind fun r4=>
 some (ai.mk 2 0 r4.1 [] r1.1.At,r4.2) else
 (nh r3.2 iR).bind fun r5=>
 bif r5.1 then
 (jP r5.2 bM).bind fun r6=>
 (ng r6).bind fun r7=>
 (jP r7.2 bD).bind fun r8=>
 some (ai.mk 4 0 r7.1 [] r1.1.At,r8) else
 (kW r5.2 bM).bind fun r9=>
 bif !r9.1 then
 (lU r9.2).bind fun bJ=>
 some (ai.mk 0 0 [] [] 0,bJ) else
 (ki r9.2 r1.1.At).bind fun bU=>
 bif !bU.1 then
 some (ai.mk 0 0 [] [] 0,bU.2) else
 (cJ bU.2 1).bind fun bS=>
 (jP bS.2 bD).bind fun bY=>
 some (ai.mk bS.1.Kind bS.1.N bS.1.Name bS.1.Kids bS.1.At,aK.mk bY.Row (ag (bY.aR - 1)))
theorem R5 (cJ:mN) (qo:ax Tryz.prog S (oW cJ)):ax Tryz.prog S (J7 (iD cJ)):=
 bp pk [s8 iO,Hs nh,Ho pG,MI ng,MM jP,B3 kW,B8 lU,Ey ki,oW cJ] ⟨vg,ML,MG,W1,Xa,Hq,Ht,J6,qo,trivial⟩ Tryz.func162 (by kernel_rfl) (fun _=>by kernel_rfl) (by kernel_rfl)
abbrev Ez:=aK→Option (ai×aK)
abbrev w5 (f:Ez):Entry S:=⟨147,[q9],[fm],fun x=>f x⟩
def ql (vN:Ez) (cJ:mN) (k:Nat) (r_:aK):Option (ai×aK):=(iO r_).bind fun r1=>
 (kW r1.2 dV).bind fun r2=>
 bif r2.1 then
 (ki r2.2 r1.1.At).bind fun r3=>
 bif !r3.1 then
 some (ai.mk 0 0 [] [] 0,r3.2) else
 (vN r3.2).bind fun r4=>
 some (ai.mk 5 0 [] [ai.mk r4.1.Kind r4.1.N r4.1.Name r4.1.Kids r4.1.At] r1.1.At,aK.mk r4.2.Row (ag (r4.2.aR - 1))) else
 (kW r2.2 jr).bind fun r5=>
 bif r5.1 then
 (ki r5.2 r1.1.At).bind fun r6=>
 bif !r6.1 then
 some (ai.mk 0 0 [] [] 0,r6.2) else
 (vN r6.2).bind fun r7=>
 some (ai.mk 6 0 [] [ai.mk r7.1.Kind r7.1.N r7.1.Name r7.1.Kids r7.1.At] r1.1.At,aK.mk r7.2.Row (ag (r7.2.aR - 1))) else
 (iD cJ r5.2).bind fun r8=>
 some (ai.mk r8.1.Kind r8.1.N r8.1.Name r8.1.Kids r8.1.At,r8.2)
def ja (cJ:mN):Nat→aK→Option (ai×aK)
 | 0,_=>none
 | k+1,x0=>ql (ja cJ k) cJ k x0
def rR (cJ:mN)  (r_:aK):Option (ai×aK):=b_ (fun k (x:aK)=>ja cJ k x) r_
theorem R9 (vN:Ez) (cJ:mN) (k:Nat) (SV:ax Tryz.prog S (w5 vN)) (qo:ax Tryz.prog S (oW cJ)):ax Tryz.prog S (w5 (ql vN cJ k)):=
 bp pk [s8 iO,B3 kW,Ey ki,w5 vN,J7 (iD cJ)] ⟨vg,Hq,J6,SV,R5 cJ qo,trivial⟩ Tryz.func147 (by kernel_rfl) (fun _=>by kernel_rfl) (by kernel_rfl)
theorem R8 (cJ:mN) (qo:ax Tryz.prog S (oW cJ)):ax Tryz.prog S (w5 (rR cJ)):=gJ (fun k x=>ja cJ k x) (fun _=>rfl) Tryz.func147 (by kernel_rfl) (fun _=>rfl) fun k h=>R9 (ja cJ k) cJ k h qo
abbrev Sd:=(List UInt8)→Option (Int×Int)
abbrev EA (f:Sd):Entry S:=⟨148,[q0],[q1,q1],fun x=>f x⟩
def rS  (text:List UInt8):Option (Int×Int):=if text=fB then
 some (19,1) else
 if text=fy then
 some (18,2) else
 if text=mb then
 some (12,3) else
 if text=fE then
 some (13,3) else
 if text=l_ then
 some (14,3) else
 if text=fD then
 some (15,3) else
 if text=fC then
 some (16,3) else
 if text=fA then
 some (17,3) else
 if text=me then
 some (10,4) else
 if text=dV then
 some (11,4) else
 if text=mh then
 some (7,5) else
 if text=mg then
 some (8,5) else
 if text=mc then
 some (9,5) else
 some (0,0)
theorem J9:ax Tryz.prog S (EA (rS)):=
 bp pk [] trivial Tryz.func148 (by kernel_rfl) (fun _=>by kernel_rfl) (by kernel_rfl)
def nQ (cJ:mN):Nat→(List ak)→Int→Int→Int→Int→Int→Int→Int→(List UInt8)→(List ai)→Int→Int→Int→(List UInt8)→(List ai)→Int→Option (ai×aK)
 | 0,_,_,_,_,_,_,_,_,_,_,_,_,_,_,_,_=>none
 | k+1,yA,yx,yz,yy,kV,level,nA,nB,we,zh,nw,dY,eB,eC,cE,eR=>(iO (aK.mk (bg.mk yA yx (aL.mk yz yy)) kV)).bind fun r3=>
  (rS r3.1.Text).bind fun r4=>
  if r3.1.Kind≠3 then
  some (ai.mk dY eB eC cE eR,r3.2) else
  if r4.2≠level then
  some (ai.mk dY eB eC cE eR,r3.2) else
  (cJ (aK.mk (bg.mk r3.2.Row.L (ag (r3.2.Row.At+1)) r3.2.Row.bk) r3.2.aR) (ag (level+1))).bind fun r5=>
  if level=3 then
  some (ai.mk r4.1 0 [] [ai.mk dY eB eC cE eR,ai.mk r5.1.Kind r5.1.N r5.1.Name r5.1.Kids r5.1.At] r3.1.At,r5.2) else
  nQ cJ k r5.2.Row.L r5.2.Row.At r5.2.Row.bk.Code r5.2.Row.bk.At r5.2.aR level nA nB we zh nw r4.1 0 [] [ai.mk dY eB eC cE eR,ai.mk r5.1.Kind r5.1.N r5.1.Name r5.1.Kids r5.1.At] r3.1.At
def qk (cJ:mN) (k:Nat) (r_:aK) (level:Int):Option (ai×aK):=if level=6 then
 (rR cJ r_).bind fun r1=>
 some (ai.mk r1.1.Kind r1.1.N r1.1.Name r1.1.Kids r1.1.At,r1.2) else
 (cJ r_ (ag (level+1))).bind fun r2=>
 nQ cJ k r2.2.Row.L r2.2.Row.At r2.2.Row.bk.Code r2.2.Row.bk.At r2.2.aR level 0 0 [] [] 0 r2.1.Kind r2.1.N r2.1.Name r2.1.Kids r2.1.At
def d_:Nat→aK→Int→Option (ai×aK)
 | 0,_,_=>none
 | k+1,x0,x1=>qk (d_ k) k x0 x1
def um  (r_:aK) (level:Int):Option (ai×aK):=b_ (fun k (x:aK×Int)=>d_ k x.1 x.2) (r_,level)
theorem R4 (cJ:mN) (k:Nat) (qo:ax Tryz.prog S (oW cJ)):ax Tryz.prog S (oW (qk cJ k)):=
 dD pk [w5 (rR cJ),oW cJ,s8 iO,EA rS] ⟨R8 cJ qo,qo,vg,J9,trivial⟩ Tryz.func135 [] k (fun k=> [(0,⟨[0,1,4,5],[yl,q1,ym,lQ],fun x=>nQ cJ k x.1.1 x.1.2.1 x.1.2.2.1 x.1.2.2.2.1 x.1.2.2.2.2 x.2.1 x.2.2.1.1 x.2.2.1.2.1 x.2.2.1.2.2.1 x.2.2.1.2.2.2.1 x.2.2.1.2.2.2.2 x.2.2.2.1 x.2.2.2.2.1 x.2.2.2.2.2.1 x.2.2.2.2.2.2.1 x.2.2.2.2.2.2.2,false⟩)]) ⟨fun _=>rfl,trivial⟩ (fun _=>by kernel_rfl) (fun _=>by kernel_rfl) (by kernel_rfl)
theorem R3:ax Tryz.prog S (oW (um)):=gJ (fun k x=>d_ k x.1 x.2) (fun _=>rfl) Tryz.func135 (by kernel_rfl) (fun _=>rfl) fun k h=>R4 (d_ k) k h
abbrev RT:=(List ak)→Int→Option (ai×Int×aL)
abbrev J1 (f:RT):Entry S:=⟨114,[g_,q1],[fm,q1,q6],fun x=>f x.1 x.2⟩
def mL  (l:List ak) (an:Int):Option (ai×Int×aL):=(um (aK.mk (bg.mk l an (aL.mk 0 0)) 0) 1).bind fun r1=>
 (oA r1.2).bind fun r2=>
 bif !r2.1 then
 some (ai.mk 0 0 [] [] 0,0,r2.2.Row.bk) else
 some (ai.mk r1.1.Kind r1.1.N r1.1.Name r1.1.Kids r1.1.At,r2.2.Row.At,aL.mk 0 0)
theorem RS:ax Tryz.prog S (J1 (mL)):=
 bp pk [oW um,B5 oA] ⟨R3,Hr,trivial⟩ Tryz.func114 (by kernel_rfl) (fun _=>by kernel_rfl) (by kernel_rfl)
abbrev P5:=aG→Option (List ai×aG)
abbrev DN (f:P5):Entry S:=⟨86,[q8],[kz],fun x=>f x⟩
def iW  (r_:aG):Option (List ai×aG):=(kB r_).bind fun r1=>
 bif !r1.1 then
 some ([],r1.2) else
 (mL r1.2.Row.L r1.2.Row.At).bind fun r2=>
 (gz r1.2 r2.2.2.Code r2.2.2.At).bind fun r3=>
 some ([ai.mk r2.1.Kind r2.1.N r2.1.Name r2.1.Kids r2.1.At],aG.mk (bg.mk r3.Row.L r2.2.1 r3.Row.bk) r3.aR)
theorem IY:ax Tryz.prog S (DN (iW)):=
 bp pk [vi kB,J1 mL,BZ gz] ⟨yC,RS,Hl,trivial⟩ Tryz.func86 (by kernel_rfl) (fun _=>by kernel_rfl) (by kernel_rfl)
abbrev P7:=aG→Option (List ai×aG)
abbrev zw (f:P7):Entry S:=⟨88,[q8],[kz],fun x=>f x⟩
def iC  (r_:aG):Option (List ai×aG):=(cZ r_ bM).bind fun r1=>
 (iW r1).bind fun r2=>
 (cZ r2.2 bD).bind fun r3=>
 some (r2.1,r3)
theorem DO:ax Tryz.prog S (zw (iC)):=
 bp pk [yE cZ,DN iW] ⟨B7,IY,trivial⟩ Tryz.func88 (by kernel_rfl) (fun _=>by kernel_rfl) (by kernel_rfl)
abbrev P9:=aG→Option (List ai×aG)
abbrev IZ (f:P9):Entry S:=⟨87,[q8],[kz],fun x=>f x⟩
def kK  (r_:aG):Option (List ai×aG):=(jO r_ bM).bind fun r1=>
 bif !r1.1 then
 some ([],r1.2) else
 (iC r1.2).bind fun r2=>
 some (r2.1,r2.2)
theorem P8:ax Tryz.prog S (IZ (kK)):=
 bp pk [yB jO,zw iC] ⟨B4,DO,trivial⟩ Tryz.func87 (by kernel_rfl) (fun _=>by kernel_rfl) (by kernel_rfl)
abbrev W6:=aG→Option (Int×aG)
abbrev MK (f:W6):Entry S:=⟨115,[q8],[q1],fun x=>f x⟩
def oz  (r_:aG):Option (Int×aG):=(iN r_).bind fun r1=>
 if r1.1.Kind≠2 then
 (iP r1.2).bind fun r2=>
 some (0,r2) else
 some (r1.1.N,aG.mk (bg.mk r1.2.Row.L (ag (r1.2.Row.At+1)) r1.2.Row.bk) r1.2.aR)
theorem W5:ax Tryz.prog S (MK (oz)):=
 bp pk [s9 iN,yF iP] ⟨vh,B9,trivial⟩ Tryz.func115 (by kernel_rfl) (fun _=>by kernel_rfl) (by kernel_rfl)
abbrev oR:=aG→Option (List ah×aG)
abbrev rH (f:oR):Entry S:=⟨27,[q8],[pF],fun x=>f x⟩
abbrev Qa:=aG→ah→Option (ah×aG)
abbrev I0 (f:Qa):Entry S:=⟨89,[q8,om],[om],fun x=>f x.1 x.2⟩
def mE (dy:oR)  (r_:aG) (a:ah):Option (ah×aG):=(gA r_ gf).bind fun r1=>
 bif r1.1 then
 (oz r1.2).bind fun r2=>
 (dy r2.2).bind fun r3=>
 some (ah.mk 7 a.Name a.Event a.X r2.1 r3.1 a.bw a.At,r3.2) else
 (cZ r1.2 h_).bind fun r4=>
 (iC r4).bind fun r5=>
 (dy r5.2).bind fun r6=>
 (gA r6.2 jT).bind fun r7=>
 bif r7.1 then
 (dy r7.2).bind fun r8=>
 some (ah.mk 6 a.Name a.Event r5.1 a.N r6.1 r8.1 a.At,r8.2) else
 some (ah.mk 6 a.Name a.Event r5.1 a.N r6.1 a.bw a.At,r7.2)
theorem P_ (dy:oR) (xj:ax Tryz.prog S (rH dy)):ax Tryz.prog S (I0 (mE dy)):=
 bp pk [yD gA,MK oz,rH dy,yE cZ,zw iC] ⟨B6,W5,xj,B7,DO,trivial⟩ Tryz.func89 (by kernel_rfl) (fun _=>by kernel_rfl) (by kernel_rfl)
abbrev P2:=aG→Option (ah×aG)
abbrev IX (f:P2):Entry S:=⟨58,[q8],[om],fun x=>f x⟩
def eA (dy:oR)  (r_:aG):Option (ah×aG):=(iN r_).bind fun r1=>
 (oy r1.2).bind fun r2=>
 bif r2.1 then
 (fZ r2.2).bind fun r3=>
 (cZ r3.2 pS).bind fun r4=>
 (iW r4).bind fun r5=>
 (cZ r5.2 bq).bind fun r6=>
 some (ah.mk 1 r3.1 [] r5.1 0 [] [] r1.1.At,r6) else
 (gA r2.2 gh).bind fun r7=>
 bif r7.1 then
 (fZ r7.2).bind fun r8=>
 (kK r8.2).bind fun r9=>
 (cZ r9.2 bq).bind fun bJ=>
 some (ah.mk 2 [] r8.1 r9.1 0 [] [] r1.1.At,bJ) else
 (gA r7.2 gH).bind fun bU=>
 bif bU.1 then
 (fZ bU.2).bind fun bS=>
 (fZ bS.2).bind fun bY=>
 (kK bY.2).bind fun bB=>
 (cZ bB.2 bq).bind fun dw=>
 some (ah.mk 3 bS.1 bY.1 bB.1 0 [] [] r1.1.At,dw) else
 (gA bU.2 hY).bind fun r16=>
 bif r16.1 then
 (fZ r16.2).bind fun hJ=>
 (iC hJ.2).bind fun iM=>
 (cZ iM.2 bq).bind fun lR=>
 some (ah.mk 4 hJ.1 [] iM.1 0 [] [] r1.1.At,lR) else
 (gA r16.2 js).bind fun kU=>
 bif kU.1 then
 (fZ kU.2).bind fun kA=>
 (cZ kA.2 bq).bind fun lS=>
 some (ah.mk 5 kA.1 [] [] 0 [] [] r1.1.At,lS) else
 (jO kU.2 h_).bind fun jn=>
 bif jn.1 then
 bif jn.1 then
 (mE dy jn.2 (ah.mk 0 [] [] [] 0 [] [] r1.1.At)).bind fun eo=>
 some (ah.mk eo.1.Kind eo.1.Name eo.1.Event eo.1.X eo.1.N eo.1.bE eo.1.bw eo.1.At,eo.2) else
 (iP jn.2).bind fun ov=>
 (cZ ov bq).bind fun qI=>
 some (ah.mk 0 [] [] [] 0 [] [] r1.1.At,qI) else
 (jO jn.2 gf).bind fun mZ=>
 bif mZ.1 then
 (mE dy mZ.2 (ah.mk 0 [] [] [] 0 [] [] r1.1.At)).bind fun jM=>
 some (ah.mk jM.1.Kind jM.1.Name jM.1.Event jM.1.X jM.1.N jM.1.bE jM.1.bw jM.1.At,jM.2) else
 (iP mZ.2).bind fun m_=>
 (cZ m_ bq).bind fun ow=>
 some (ah.mk 0 [] [] [] 0 [] [] r1.1.At,ow)
theorem P1 (dy:oR) (xj:ax Tryz.prog S (rH dy)):ax Tryz.prog S (IX (eA dy)):=
 bp pk [s9 iN,Hp oy,MJ fZ,yE cZ,DN iW,yD gA,IZ kK,zw iC,yB jO,I0 (mE dy),yF iP] ⟨vh,MH,W3,B7,IY,B6,P8,DO,B4,P_ dy xj,B9,trivial⟩ Tryz.func58 (by kernel_rfl) (fun _=>by kernel_rfl) (by kernel_rfl)
def gm (dy:oR):Nat→(List ak)→Int→Int→Int→Int→(List ah)→Option (List ah×aG)
 | 0,_,_,_,_,_,_=>none
 | k+1,yA,yx,yz,yy,kV,l=>(kB (aG.mk (bg.mk yA yx (aL.mk yz yy)) kV)).bind fun r5=>
  bif r5.1 then
  (gA r5.2 dx).bind fun r6=>
  bif !r6.1 then
  (eA dy r6.2).bind fun r7=>
  if (l.length+ [r7.1].length)*128≤140737488355328 then
  gm dy k r7.2.Row.L r7.2.Row.At r7.2.Row.bk.Code r7.2.Row.bk.At r7.2.aR (l++ [r7.1]) else none else
  some (l,aG.mk r6.2.Row (ag (r6.2.aR - 1))) else
  some (l,aG.mk r5.2.Row (ag (r5.2.aR - 1)))
def nK (dy:oR):Nat→(List ak)→Int→Int→Int→Int→Option (List ah×aG)
 | 0,_,_,_,_,_=>none
 | k+1,yA,yx,yz,yy,kV=>(cZ (aG.mk (bg.mk yA yx (aL.mk yz yy)) kV) ju).bind fun r4=>
  gm dy k r4.Row.L r4.Row.At r4.Row.bk.Code r4.Row.bk.At (ag (r4.aR+1)) []
def j_ (dy:oR) (k:Nat) (r_:aG):Option (List ah×aG):=(jO r_ ju).bind fun r1=>
 bif r1.1 then
 if r1.2.aR=4 then
 (iN r1.2).bind fun r2=>
 (gz r2.2 14 r2.1.At).bind fun r3=>
 nK dy k r3.Row.L r3.Row.At r3.Row.bk.Code r3.Row.bk.At r3.aR else
 nK dy k r1.2.Row.L r1.2.Row.At r1.2.Row.bk.Code r1.2.Row.bk.At r1.2.aR else
 nK dy k r1.2.Row.L r1.2.Row.At r1.2.Row.bk.Code r1.2.Row.bk.At r1.2.aR
def cK:Nat→aG→Option (List ah×aG)
 | 0,_=>none
 | k+1,x0=>j_ (cK k) k x0
def rG  (r_:aG):Option (List ah×aG):=b_ (fun k (x:aG)=>cK k x) r_
theorem P4 (dy:oR) (k:Nat) (xj:ax Tryz.prog S (rH dy)):ax Tryz.prog S (rH (j_ dy k)):=
 dD pk [yB jO,s9 iN,BZ gz,yE cZ,vi kB,yD gA,IX (eA dy)] ⟨B4,vh,Hl,B7,yC,B6,P1 dy xj,trivial⟩ Tryz.func27 [1] k (fun k=> [(1,⟨[0],[yl],fun x=>nK dy k x.1 x.2.1 x.2.2.1 x.2.2.2.1 x.2.2.2.2,false⟩),(0,⟨[0,3],[yl,pF],fun x=>gm dy k x.1.1 x.1.2.1 x.1.2.2.1 x.1.2.2.2.1 x.1.2.2.2.2 x.2,false⟩)]) ⟨fun _=>rfl,fun _=>rfl,trivial⟩ (fun _=>by kernel_rfl) (fun _=>by kernel_rfl) (by kernel_rfl)
theorem P3:ax Tryz.prog S (rH (rG)):=gJ (fun k x=>cK k x) (fun _=>rfl) Tryz.func27 (by kernel_rfl) (fun _=>rfl) fun k h=>P4 (cK k) k h
abbrev PO:=(List ak)→Int→Option (List ah×Int×aL)
abbrev DL (f:PO):Entry S:=⟨11,[g_,q1],[pF,q1,q6],fun x=>f x.1 x.2⟩
def mD  (l:List ak) (an:Int):Option (List ah×Int×aL):=(rG (aG.mk (bg.mk l an (aL.mk 0 0)) 0)).bind fun r1=>
 (kB r1.2).bind fun r2=>
 bif !r2.1 then
 some ([],0,r2.2.Row.bk) else
 some (r1.1,r2.2.Row.At,aL.mk 0 0)
theorem IP:ax Tryz.prog S (DL (mD)):=
 bp pk [rH rG,vi kB] ⟨P3,yC,trivial⟩ Tryz.func11 (by kernel_rfl) (fun _=>by kernel_rfl) (by kernel_rfl)
abbrev UQ:=(List UInt8)→Option (List ah×Bool)
abbrev LL (f:UQ):Entry S:=⟨21,[q0],[pF,q3],fun x=>f x⟩
def qy  (s:List UInt8):Option (List ah×Bool):=(AZ s).bind fun r1=>
 if r1.2.Code≠0 then
 some ([],false) else
 (mD r1.1 0).bind fun r2=>
 if r2.2.2.Code=0 then
 some (r2.1,decide (r2.2.1=(ag ((r1.1.length:Int) - 1)))) else
 some (r2.1,false)
theorem UP:ax Tryz.prog S (LL (qy)):=
 bp pk [LV AZ,DL mD] ⟨Ve,IP,trivial⟩ Tryz.func21 (by kernel_rfl) (fun _=>by kernel_rfl) (by kernel_rfl)
abbrev RZ:=Int→Option (List UInt8×Int)
abbrev Eu (f:RZ):Entry S:=⟨143,[q1],[q0,q1],fun x=>f x⟩
def uk:Nat→Int→(List UInt8×List UInt8×List UInt8×List UInt8×List UInt8×List UInt8×List UInt8×List UInt8×List UInt8×List UInt8×List UInt8×List UInt8×List UInt8)→Int→Option (List UInt8×Int)
 | 0,_,_,_=>none
 | k+1,kind,x8,x9=>if x9<13 then
  if 0≤x9 then
  if x9<([x8.1,x8.2.1,x8.2.2.1,x8.2.2.2.1,x8.2.2.2.2.1,x8.2.2.2.2.2.1,x8.2.2.2.2.2.2.1,x8.2.2.2.2.2.2.2.1,x8.2.2.2.2.2.2.2.2.1,x8.2.2.2.2.2.2.2.2.2.1,x8.2.2.2.2.2.2.2.2.2.2.1,x8.2.2.2.2.2.2.2.2.2.2.2.1,x8.2.2.2.2.2.2.2.2.2.2.2.2].length:Int) then
  (rS ([x8.1,x8.2.1,x8.2.2.1,x8.2.2.2.1,x8.2.2.2.2.1,x8.2.2.2.2.2.1,x8.2.2.2.2.2.2.1,x8.2.2.2.2.2.2.2.1,x8.2.2.2.2.2.2.2.2.1,x8.2.2.2.2.2.2.2.2.2.1,x8.2.2.2.2.2.2.2.2.2.2.1,x8.2.2.2.2.2.2.2.2.2.2.2.1,x8.2.2.2.2.2.2.2.2.2.2.2.2].getD x9.toNat [])).bind fun r1=>
  if r1.1=kind then
  some ([x8.1,x8.2.1,x8.2.2.1,x8.2.2.2.1,x8.2.2.2.2.1,x8.2.2.2.2.2.1,x8.2.2.2.2.2.2.1,x8.2.2.2.2.2.2.2.1,x8.2.2.2.2.2.2.2.2.1,x8.2.2.2.2.2.2.2.2.2.1,x8.2.2.2.2.2.2.2.2.2.2.1,x8.2.2.2.2.2.2.2.2.2.2.2.1,x8.2.2.2.2.2.2.2.2.2.2.2.2].getD x9.toNat [],r1.2) else
  uk k kind x8 (ag (x9+1)) else none else none else
  some ([],0)
def J4 (k:Nat) (kind:Int):Option (List UInt8×Int):=uk k kind jD 0
def rQ  (kind:Int):Option (List UInt8×Int):=b_ (fun k (x:Int)=>J4 k x) kind
theorem J5:ax Tryz.prog S (Eu (rQ)):=ir (fun k x=>J4 k x) (fun _=>rfl) fun k=>
 dD pk [EA rS] ⟨J9,trivial⟩ Tryz.func143 [] k (fun k=> [(0,⟨[0,8,9],[q1,WJ,q1],fun x=>uk k x.1 x.2.1 x.2.2,false⟩)]) ⟨fun _=>rfl,trivial⟩ (fun _=>by kernel_rfl) (fun _=>by kernel_rfl) (by kernel_rfl)
abbrev R0:=Int→Option Int
abbrev zY (f:R0):Entry S:=⟨123,[q1],[q1],fun x=>f x⟩
def mM  (kind:Int):Option Int:=if kind=5 then
 some 6 else
 if kind=6 then
 some 6 else
 (rQ kind).bind fun r1=>
 if 0<r1.2 then
 some r1.2 else
 some 7
theorem Ev:ax Tryz.prog S (zY (mM)):=
 bp pk [Eu rQ] ⟨J5,trivial⟩ Tryz.func123 (by kernel_rfl) (fun _=>by kernel_rfl) (by kernel_rfl)
abbrev R1:=Int→Option (List Int)
abbrev zZ (f:R1):Entry S:=⟨124,[q1],[yo],fun x=>f x⟩
def dZ  (kind:Int):Option (List Int):=(mM kind).bind fun r1=>
 if r1=7 then
 some [] else
 if r1=6 then
 some [6] else
 if r1=3 then
 some [4,4] else
 some [r1,ag (r1+1)]
theorem Ew:ax Tryz.prog S (zZ (dZ)):=
 bp pk [zY mM] ⟨Ev,trivial⟩ Tryz.func124 (by kernel_rfl) (fun _=>by kernel_rfl) (by kernel_rfl)
abbrev w9:=(List UInt8)→ai→Int→Option (List UInt8)
abbrev w8 (f:w9):Entry S:=⟨130,[ou,fm,q1],[],fun x=>f x.1 x.2.1 x.2.2⟩
def jb (dK:w9):Nat→(List UInt8)→Int→Int→(List UInt8)→(List ai)→Int→(List Int)→Int→Int→Option (List UInt8)
 | 0,_,_,_,_,_,_,_,_,_=>none
 | k+1,b,dY,eB,eC,cE,eR,nC,tM,dA=>if dA<tM then
  if 0≤dA then
  if dA<(nC.length:Int) then
  if (cE.length:Int)≤dA then
  (eO b 41).bind fun u0=>
  some u0.2 else
  if 0<dA then
  (rQ dY).bind fun r32=>
  if aT.length+r32.1.length≤9223372036854775807 then
  if (aT++r32.1).length+aT.length≤9223372036854775807 then
  (cP b ((aT++r32.1)++aT)).bind fun u6=>
  if 0≤dA then
  if dA<(cE.length:Int) then
  (dK u6.2.2 (cE.getD dA.toNat ai.z) (nC.getD dA.toNat 0)).bind fun yq=>
  jb dK k yq dY eB eC cE eR nC tM (ag (dA+1)) else none else none else none else none else
  if 0≤dA then
  if dA<(cE.length:Int) then
  (dK b (cE.getD dA.toNat ai.z) (nC.getD dA.toNat 0)).bind fun u7=>
  jb dK k u7 dY eB eC cE eR nC tM (ag (dA+1)) else none else none else none else none else
  (eO b 41).bind fun yt=>
  some yt.2
def jc (dK:w9):Nat→(List UInt8)→Int→Int→(List UInt8)→(List ai)→Int→(List Int)→Int→Int→Option (List UInt8)
 | 0,_,_,_,_,_,_,_,_,_=>none
 | k+1,b,dY,eB,eC,cE,eR,nC,tM,dA=>if dA<tM then
  if 0≤dA then
  if dA<(nC.length:Int) then
  if (cE.length:Int)≤dA then
  some b else
  if 0<dA then
  (rQ dY).bind fun qJ=>
  if aT.length+qJ.1.length≤9223372036854775807 then
  if (aT++qJ.1).length+aT.length≤9223372036854775807 then
  (cP b ((aT++qJ.1)++aT)).bind fun yu=>
  if 0≤dA then
  if dA<(cE.length:Int) then
  (dK yu.2.2 (cE.getD dA.toNat ai.z) (nC.getD dA.toNat 0)).bind fun u_=>
  jc dK k u_ dY eB eC cE eR nC tM (ag (dA+1)) else none else none else none else none else
  if 0≤dA then
  if dA<(cE.length:Int) then
  (dK b (cE.getD dA.toNat ai.z) (nC.getD dA.toNat 0)).bind fun yw=>
  jc dK k yw dY eB eC cE eR nC tM (ag (dA+1)) else none else none else none else none else
  some b
def kj (dK:w9) (k:Nat) (b:List UInt8) (e:ai) (asked:Int):Option (List UInt8):=(mM e.Kind).bind fun r1=>
 if r1<asked then
 (eO b 40).bind fun r2=>
 if e.Kind=1 then
 (qC e.N 10).bind fun r3=>
 (cP r2.2 r3).bind fun r4=>
 (dZ e.Kind).bind fun r5=>
 jb dK k r4.2.2 e.Kind e.N e.Name e.Kids e.At r5 (r5.length:Int) 0 else
 if e.Kind=3 then
 (eO r2.2 36).bind fun r6=>
 (dZ e.Kind).bind fun r7=>
 jb dK k r6.2 e.Kind e.N e.Name e.Kids e.At r7 (r7.length:Int) 0 else
 if e.Kind=2 then
 (cP r2.2 e.Name).bind fun r8=>
 (dZ e.Kind).bind fun r9=>
 jb dK k r8.2.2 e.Kind e.N e.Name e.Kids e.At r9 (r9.length:Int) 0 else
 if e.Kind=4 then
 if ia.length+e.Name.length≤9223372036854775807 then
 if (ia++e.Name).length+bD.length≤9223372036854775807 then
 (cP r2.2 ((ia++e.Name)++bD)).bind fun bJ=>
 (dZ e.Kind).bind fun bU=>
 jb dK k bJ.2.2 e.Kind e.N e.Name e.Kids e.At bU (bU.length:Int) 0 else none else none else
 if e.Kind=5 then
 (eO r2.2 45).bind fun bS=>
 (dZ e.Kind).bind fun bY=>
 jb dK k bS.2 e.Kind e.N e.Name e.Kids e.At bY (bY.length:Int) 0 else
 if e.Kind=6 then
 (eO r2.2 33).bind fun bB=>
 (dZ e.Kind).bind fun dw=>
 jb dK k bB.2 e.Kind e.N e.Name e.Kids e.At dw (dw.length:Int) 0 else
 (dZ e.Kind).bind fun r16=>
 jb dK k r2.2 e.Kind e.N e.Name e.Kids e.At r16 (r16.length:Int) 0 else
 if e.Kind=1 then
 (qC e.N 10).bind fun hJ=>
 (cP b hJ).bind fun iM=>
 (dZ e.Kind).bind fun lR=>
 jc dK k iM.2.2 e.Kind e.N e.Name e.Kids e.At lR (lR.length:Int) 0 else
 if e.Kind=3 then
 (eO b 36).bind fun kU=>
 (dZ e.Kind).bind fun kA=>
 jc dK k kU.2 e.Kind e.N e.Name e.Kids e.At kA (kA.length:Int) 0 else
 if e.Kind=2 then
 (cP b e.Name).bind fun lS=>
 (dZ e.Kind).bind fun jn=>
 jc dK k lS.2.2 e.Kind e.N e.Name e.Kids e.At jn (jn.length:Int) 0 else
 if e.Kind=4 then
 if ia.length+e.Name.length≤9223372036854775807 then
 if (ia++e.Name).length+bD.length≤9223372036854775807 then
 (cP b ((ia++e.Name)++bD)).bind fun eo=>
 (dZ e.Kind).bind fun ov=>
 jc dK k eo.2.2 e.Kind e.N e.Name e.Kids e.At ov (ov.length:Int) 0 else none else none else
 if e.Kind=5 then
 (eO b 45).bind fun qI=>
 (dZ e.Kind).bind fun mZ=>
 jc dK k qI.2 e.Kind e.N e.Name e.Kids e.At mZ (mZ.length:Int) 0 else
 if e.Kind=6 then
 (eO b 33).bind fun jM=>
 (dZ e.Kind).bind fun m_=>
 jc dK k jM.2 e.Kind e.N e.Name e.Kids e.At m_ (m_.length:Int) 0 else
 (dZ e.Kind).bind fun ow=>
 jc dK k b e.Kind e.N e.Name e.Kids e.At ow (ow.length:Int) 0
def lE:Nat→(List UInt8)→ai→Int→Option (List UInt8)
 | 0,_,_,_=>none
 | k+1,x0,x1,x2=>kj (lE k) k x0 x1 x2
def Ab  (b:List UInt8) (e:ai) (asked:Int):Option (List UInt8):=b_ (fun k (x:List UInt8×ai×Int)=>lE k x.1 x.2.1 x.2.2) (b,e,asked)
theorem Sf (dK:w9) (k:Nat) (SX:ax Tryz.prog S (w8 dK)):ax Tryz.prog S (w8 (kj dK k)):=
 EF pk ⟨[zY mM,Ep,RE,Eo,zZ dZ,Eu rQ,w8 dK],[],false,false,some (81,[.tmp 0, .const (.int .u8 41)]),[Ep]⟩ ⟨Ev,Mn,Wc,Gm,Ew,J5,SX,trivial⟩ (all_cons Wi all_nil) (all_nil) Tryz.func130 [] k (fun k=> [(0,⟨[0,4,55,56,57],[ou,lQ,yo,q1,q1],fun x=>jb dK k x.1 x.2.1.1 x.2.1.2.1 x.2.1.2.2.1 x.2.1.2.2.2.1 x.2.1.2.2.2.2 x.2.2.1 x.2.2.2.1 x.2.2.2.2,true⟩),(0,⟨[0,4,55,56,57],[ou,lQ,yo,q1,q1],fun x=>jc dK k x.1 x.2.1.1 x.2.1.2.1 x.2.1.2.2.1 x.2.1.2.2.2.1 x.2.1.2.2.2.2 x.2.2.1 x.2.2.2.1 x.2.2.2.2,false⟩)]) ⟨fun _=>rfl,fun _=>rfl,trivial⟩ (fun _=>by kernel_rfl) (fun _=>by kernel_rfl) (by kernel_rfl)
theorem Se:ax Tryz.prog S (w8 (Ab)):=gJ (fun k x=>lE k x.1 x.2.1 x.2.2) (fun _=>rfl) Tryz.func130 (by kernel_rfl) (fun _=>rfl) fun k h=>Sf (lE k) k h
abbrev RW:=ai→Option (List UInt8)
abbrev J2 (f:RW):Entry S:=⟨109,[fm],[q0],fun x=>f x⟩
def w4  (e:ai):Option (List UInt8):=(Ab [] (ai.mk e.Kind e.N e.Name e.Kids e.At) 1).bind fun r1=>
 (zM r1).bind fun r2=>
 some r2.1
theorem RU:ax Tryz.prog S (J2 (w4)):=
 bp pk [w8 Ab,JI] ⟨Se,Mo,trivial⟩ Tryz.func109 (by kernel_rfl) (fun _=>by kernel_rfl) (by kernel_rfl)
abbrev qb:=(List UInt8)→(List ah)→Int→Option (List UInt8)
abbrev tU (f:qb):Entry S:=⟨41,[ou,jm,q1],[],fun x=>f x.1 x.2.1 x.2.2⟩
abbrev P0:=(List UInt8)→ah→Int→Option (List UInt8)
abbrev IW (f:P0):Entry S:=⟨80,[ou,om,q1],[],fun x=>f x.1 x.2.1 x.2.2⟩
def jB (eu:qb):Nat→(List UInt8)→Int→Int→(List UInt8)→(List UInt8)→(List ai)→Int→(List ah)→(List ah)→Int→(List UInt8)→(List ai)→Int→Int→Option (List UInt8)
 | 0,_,_,_,_,_,_,_,_,_,_,_,_,_,_=>none
 | k+1,b,dN,di,bT,dh,jA,fP,iB,gQ,iA,x,jY,dz,pZ=>if pZ<dz then
  if 0≤pZ then
  if pZ<(jY.length:Int) then
  (w4 (ai.mk ((jY.getD pZ.toNat ai.z).Kind) ((jY.getD pZ.toNat ai.z).N) ((jY.getD pZ.toNat ai.z).Name) ((jY.getD pZ.toNat ai.z).Kids) ((jY.getD pZ.toNat ai.z).At))).bind fun r1=>
  jB eu k b dN di bT dh jA fP iB gQ iA r1 jY dz (ag (pZ+1)) else none else none else
  if 0<(jA.length:Int) then
  if bM.length+x.length≤9223372036854775807 then
  if (bM++x).length+bD.length≤9223372036854775807 then
  if di=1 then
  if bT.length+jU.length≤9223372036854775807 then
  if (bT++jU).length+x.length≤9223372036854775807 then
  if ((bT++jU)++x).length+bq.length≤9223372036854775807 then
  (cP b (((bT++jU)++x)++bq)).bind fun r2=>
  some r2.2.2 else none else none else none else
  if di=2 then
  if jv.length+dh.length≤9223372036854775807 then
  if (jv++dh).length+((bM++x)++bD).length≤9223372036854775807 then
  if ((jv++dh)++((bM++x)++bD)).length+bq.length≤9223372036854775807 then
  (cP b (((jv++dh)++((bM++x)++bD))++bq)).bind fun r3=>
  some r3.2.2 else none else none else none else
  if di=3 then
  if fK.length+bT.length≤9223372036854775807 then
  if (fK++bT).length+aT.length≤9223372036854775807 then
  if ((fK++bT)++aT).length+dh.length≤9223372036854775807 then
  if (((fK++bT)++aT)++dh).length+((bM++x)++bD).length≤9223372036854775807 then
  if ((((fK++bT)++aT)++dh)++((bM++x)++bD)).length+bq.length≤9223372036854775807 then
  (cP b (((((fK++bT)++aT)++dh)++((bM++x)++bD))++bq)).bind fun r4=>
  some r4.2.2 else none else none else none else none else none else
  if di=4 then
  if jS.length+bT.length≤9223372036854775807 then
  if (jS++bT).length+((bM++x)++bD).length≤9223372036854775807 then
  if ((jS++bT)++((bM++x)++bD)).length+bq.length≤9223372036854775807 then
  (cP b (((jS++bT)++((bM++x)++bD))++bq)).bind fun r5=>
  some r5.2.2 else none else none else none else
  if di=5 then
  if l9.length+bT.length≤9223372036854775807 then
  if (l9++bT).length+bq.length≤9223372036854775807 then
  (cP b ((l9++bT)++bq)).bind fun r6=>
  some r6.2.2 else none else none else
  if di=6 then
  if jt.length+((bM++x)++bD).length≤9223372036854775807 then
  if (jt++((bM++x)++bD)).length+aT.length≤9223372036854775807 then
  (cP b ((jt++((bM++x)++bD))++aT)).bind fun r7=>
  (eu r7.2.2 iB dN).bind fun r8=>
  if 0<(gQ.length:Int) then
  (cP r8 qU).bind fun r9=>
  (eu r9.2.2 gQ dN).bind fun bJ=>
  some bJ else
  some r8 else none else none else
  if di=7 then
  (qE fP).bind fun bU=>
  if lp.length+bU.length≤9223372036854775807 then
  if (lp++bU).length+aT.length≤9223372036854775807 then
  (cP b ((lp++bU)++aT)).bind fun bS=>
  (eu bS.2.2 iB dN).bind fun bY=>
  some bY else none else none else
  some b else none else none else
  if di=1 then
  if bT.length+jU.length≤9223372036854775807 then
  if (bT++jU).length+x.length≤9223372036854775807 then
  if ((bT++jU)++x).length+bq.length≤9223372036854775807 then
  (cP b (((bT++jU)++x)++bq)).bind fun bB=>
  some bB.2.2 else none else none else none else
  if di=2 then
  if jv.length+dh.length≤9223372036854775807 then
  if (jv++dh).length+([]:List UInt8).length≤9223372036854775807 then
  if ((jv++dh)++ []).length+bq.length≤9223372036854775807 then
  (cP b (((jv++dh)++ [])++bq)).bind fun dw=>
  some dw.2.2 else none else none else none else
  if di=3 then
  if fK.length+bT.length≤9223372036854775807 then
  if (fK++bT).length+aT.length≤9223372036854775807 then
  if ((fK++bT)++aT).length+dh.length≤9223372036854775807 then
  if (((fK++bT)++aT)++dh).length+([]:List UInt8).length≤9223372036854775807 then
  if ((((fK++bT)++aT)++dh)++ []).length+bq.length≤9223372036854775807 then
  (cP b (((((fK++bT)++aT)++dh)++ [])++bq)).bind fun r16=>
  some r16.2.2 else none else none else none else none else none else
  if di=4 then
  if jS.length+bT.length≤9223372036854775807 then
  if (jS++bT).length+([]:List UInt8).length≤9223372036854775807 then
  if ((jS++bT)++ []).length+bq.length≤9223372036854775807 then
  (cP b (((jS++bT)++ [])++bq)).bind fun hJ=>
  some hJ.2.2 else none else none else none else
  if di=5 then
  if l9.length+bT.length≤9223372036854775807 then
  if (l9++bT).length+bq.length≤9223372036854775807 then
  (cP b ((l9++bT)++bq)).bind fun iM=>
  some iM.2.2 else none else none else
  if di=6 then
  if jt.length+([]:List UInt8).length≤9223372036854775807 then
  if (jt++ []).length+aT.length≤9223372036854775807 then
  (cP b ((jt++ [])++aT)).bind fun lR=>
  (eu lR.2.2 iB dN).bind fun kU=>
  if 0<(gQ.length:Int) then
  (cP kU qU).bind fun kA=>
  (eu kA.2.2 gQ dN).bind fun lS=>
  some lS else
  some kU else none else none else
  if di=7 then
  (qE fP).bind fun jn=>
  if lp.length+jn.length≤9223372036854775807 then
  if (lp++jn).length+aT.length≤9223372036854775807 then
  (cP b ((lp++jn)++aT)).bind fun eo=>
  (eu eo.2.2 iB dN).bind fun ov=>
  some ov else none else none else
  some b
def IV (eu:qb) (k:Nat) (b:List UInt8) (a:ah) (dN:Int):Option (List UInt8):=jB eu k b dN a.Kind a.Name a.Event a.X a.N a.bE a.bw a.At [] a.X (a.X.length:Int) 0
def zv (eu:qb)  (b:List UInt8) (a:ah) (dN:Int):Option (List UInt8):=b_ (fun k (x:List UInt8×ah×Int)=>IV eu k x.1 x.2.1 x.2.2) (b,a,dN)
theorem PZ (eu:qb) (ET:ax Tryz.prog S (tU eu)):ax Tryz.prog S (IW (zv eu)):=ir (fun k x=>IV eu k x.1 x.2.1 x.2.2) (fun _=>rfl) fun k=>
 dD pk [J2 w4,Eo,tU eu,RD] ⟨RU,Gm,ET,We,trivial⟩ Tryz.func80 [] k (fun k=> [(0,⟨[0,2,4,6,11,12,13],[ou,q1,yp,q0,kz,q1,q1],fun x=>jB eu k x.1 x.2.1 x.2.2.1.1 x.2.2.1.2.1 x.2.2.1.2.2.1 x.2.2.1.2.2.2.1 x.2.2.1.2.2.2.2.1 x.2.2.1.2.2.2.2.2.1 x.2.2.1.2.2.2.2.2.2.1 x.2.2.1.2.2.2.2.2.2.2 x.2.2.2.1 x.2.2.2.2.1 x.2.2.2.2.2.1 x.2.2.2.2.2.2,false⟩)]) ⟨fun _=>rfl,trivial⟩ (fun _=>by kernel_rfl) (fun _=>by kernel_rfl) (by kernel_rfl)
def rF (eu:qb):Nat→(List UInt8)→Int→(List ah)→Int→Int→Option (List UInt8)
 | 0,_,_,_,_,_=>none
 | k+1,b,dN,oN,O8,mz=>if mz<O8 then
  if 0≤mz then
  if mz<(oN.length:Int) then
  (qG tI (ag (dN+1))).bind fun r3=>
  (cP b r3).bind fun r4=>
  (zv eu r4.2.2 (ah.mk ((oN.getD mz.toNat ah.z).Kind) ((oN.getD mz.toNat ah.z).Name) ((oN.getD mz.toNat ah.z).Event) ((oN.getD mz.toNat ah.z).X) ((oN.getD mz.toNat ah.z).N) ((oN.getD mz.toNat ah.z).bE) ((oN.getD mz.toNat ah.z).bw) ((oN.getD mz.toNat ah.z).At)) (ag (dN+1))).bind fun r5=>
  (eO r5 10).bind fun r6=>
  rF eu k r6.2 dN oN O8 (ag (mz+1)) else none else none else
  (qG tI dN).bind fun r7=>
  if r7.length+dx.length≤9223372036854775807 then
  (cP b (r7++dx)).bind fun r8=>
  some r8.2.2 else none
def tT (eu:qb) (k:Nat) (b:List UInt8) (l:List ah) (dN:Int):Option (List UInt8):=if (l.length:Int)=0 then
 (cP b CX).bind fun r1=>
 some r1.2.2 else
 (cP b tH).bind fun r2=>
 rF eu k r2.2.2 dN l (l.length:Int) 0
def oQ:Nat→(List UInt8)→(List ah)→Int→Option (List UInt8)
 | 0,_,_,_=>none
 | k+1,x0,x1,x2=>tT (oQ k) k x0 x1 x2
def zu  (b:List UInt8) (l:List ah) (dN:Int):Option (List UInt8):=b_ (fun k (x:List UInt8×List ah×Int)=>oQ k x.1 x.2.1 x.2.2) (b,l,dN)
theorem PX (eu:qb) (k:Nat) (ET:ax Tryz.prog S (tU eu)):ax Tryz.prog S (tU (tT eu k)):=
 dD pk [Eo,RG,IW (zv eu),Ep] ⟨Gm,Wh,PZ eu ET,Mn,trivial⟩ Tryz.func41 [] k (fun k=> [(0,⟨[0,2,15,16,17],[ou,q1,jm,q1,q1],fun x=>rF eu k x.1 x.2.1 x.2.2.1 x.2.2.2.1 x.2.2.2.2,false⟩)]) ⟨fun _=>rfl,trivial⟩ (fun _=>by kernel_rfl) (fun _=>by kernel_rfl) (by kernel_rfl)
theorem PW:ax Tryz.prog S (tU (zu)):=gJ (fun k x=>oQ k x.1 x.2.1 x.2.2) (fun _=>rfl) Tryz.func41 (by kernel_rfl) (fun _=>rfl) fun k h=>PX (oQ k) k h
abbrev PT:=(List ah)→Int→Option (List UInt8)
abbrev IQ (f:PT):Entry S:=⟨20,[jm,q1],[q0],fun x=>f x.1 x.2⟩
def wH  (l:List ah) (dN:Int):Option (List UInt8):=(zu [] l (max dN 0)).bind fun r1=>(zM r1).bind fun r2=>some r2.1
theorem PS:ax Tryz.prog S (IQ (wH)):=
 bp pk [tU zu,JI] ⟨PW,Mo,trivial⟩ Tryz.func20 (by kernel_rfl) (fun _=>by kernel_rfl) (by kernel_rfl)
abbrev Vh:=(List UInt8)→Option Bool
abbrev FY (f:Vh):Entry S:=⟨101,[q0],[q3],fun x=>f x⟩
def n7  (s:List UInt8):Option Bool:=if s= [] then
 some false else
 if 24<(s.length:Int) then
 some false else
 (pg s).bind fun r1=>
 bif r1 then
 some false else
 if (0:Int)≤0 then
 if 0<(s.length:Int) then
 (n8 ((s.getD (0:Int).toNat 0).toNat:Int)).bind fun r2=>
 bif !r2.2 then
 (sY s 0).bind fun r3=>
 some (decide (r3=(s.length:Int))) else
 some false else none else none
theorem LW:ax Tryz.prog S (FY (n7)):=
 bp pk [A0 pg,A1 n8,F1 sY] ⟨FZ,F2,LX,trivial⟩ Tryz.func101 (by kernel_rfl) (fun _=>by kernel_rfl) (by kernel_rfl)
abbrev Qh:=ah→Option Bool
abbrev I3 (f:Qh):Entry S:=⟨74,[om],[q3],fun x=>f x⟩
def wL:Nat→Int→(List UInt8)→(List UInt8)→(List ai)→Int→(List ah)→(List ah)→Int→Int→Option Bool
 | 0,_,_,_,_,_,_,_,_,_=>none
 | k+1,di,bT,dh,jA,fP,iB,gQ,iA,blocks=>if 0<blocks then
  if 1<blocks then
  some true else
  some (decide ((gQ.length:Int)=0)) else
  if (iB.length:Int)=0 then
  if 1<blocks then
  some true else
  some (decide ((gQ.length:Int)=0)) else
  some false
def oS:Nat→Int→(List UInt8)→(List UInt8)→(List ai)→Int→(List ah)→(List ah)→Int→Int→Int→Int→Option Bool
 | 0,_,_,_,_,_,_,_,_,_,_,_=>none
 | k+1,di,bT,dh,jA,fP,iB,gQ,iA,least,most,blocks=>if (jA.length:Int)<least then
  some false else
  if most<(jA.length:Int) then
  some false else
  if fP≠0 then
  if di≠7 then
  some false else
  if fP<0 then
  some false else
  wL k di bT dh jA fP iB gQ iA blocks else
  wL k di bT dh jA fP iB gQ iA blocks
def jC:Nat→Int→(List UInt8)→(List UInt8)→(List ai)→Int→(List ah)→(List ah)→Int→Int→Int→Bool→Bool→Int→Option Bool
 | 0,_,_,_,_,_,_,_,_,_,_,_,_,_=>none
 | k+1,di,bT,dh,jA,fP,iB,gQ,iA,least,most,name,event,blocks=>if name≠(decide (bT≠ [])) then
  some false else
  bif name then
  (n7 bT).bind fun r1=>
  bif !r1 then
  some false else
  if event≠(decide (dh≠ [])) then
  some false else
  bif event then
  (n7 dh).bind fun r2=>
  bif !r2 then
  some false else
  oS k di bT dh jA fP iB gQ iA least most blocks else
  oS k di bT dh jA fP iB gQ iA least most blocks else
  if event≠(decide (dh≠ [])) then
  some false else
  bif event then
  (n7 dh).bind fun r3=>
  bif !r3 then
  some false else
  oS k di bT dh jA fP iB gQ iA least most blocks else
  oS k di bT dh jA fP iB gQ iA least most blocks
def zy (k:Nat) (a:ah):Option Bool:=if a.Kind=1 then
 if a.Kind=1 then
 jC k a.Kind a.Name a.Event a.X a.N a.bE a.bw a.At 1 1 true false 0 else
 if a.Kind=2 then
 jC k a.Kind a.Name a.Event a.X a.N a.bE a.bw a.At 0 1 false true 0 else
 if a.Kind=3 then
 jC k a.Kind a.Name a.Event a.X a.N a.bE a.bw a.At 0 1 true true 0 else
 if a.Kind=5 then
 jC k a.Kind a.Name a.Event a.X a.N a.bE a.bw a.At 0 0 true false 0 else
 if a.Kind=6 then
 jC k a.Kind a.Name a.Event a.X a.N a.bE a.bw a.At 1 1 false false 2 else
 if a.Kind=7 then
 jC k a.Kind a.Name a.Event a.X a.N a.bE a.bw a.At 0 0 false false 1 else
 some false else
 if a.Kind=4 then
 jC k a.Kind a.Name a.Event a.X a.N a.bE a.bw a.At 1 1 true false 0 else
 if a.Kind=2 then
 jC k a.Kind a.Name a.Event a.X a.N a.bE a.bw a.At 0 1 false true 0 else
 if a.Kind=3 then
 jC k a.Kind a.Name a.Event a.X a.N a.bE a.bw a.At 0 1 true true 0 else
 if a.Kind=5 then
 jC k a.Kind a.Name a.Event a.X a.N a.bE a.bw a.At 0 0 true false 0 else
 if a.Kind=6 then
 jC k a.Kind a.Name a.Event a.X a.N a.bE a.bw a.At 1 1 false false 2 else
 if a.Kind=7 then
 jC k a.Kind a.Name a.Event a.X a.N a.bE a.bw a.At 0 0 false false 1 else
 some false
def wK  (a:ah):Option Bool:=b_ (fun k (x:ah)=>zy k x) a
theorem Qg:ax Tryz.prog S (I3 (wK)):=ir (fun k x=>zy k x) (fun _=>rfl) fun k=>
 dD pk [FY n7] ⟨LW,trivial⟩ Tryz.func74 [3,13,16] k (fun k=> [(1,⟨[1,3,4,5,6,7],[yp,q1,q1,q3,q3,q1],fun x=>jC k x.1.1 x.1.2.1 x.1.2.2.1 x.1.2.2.2.1 x.1.2.2.2.2.1 x.1.2.2.2.2.2.1 x.1.2.2.2.2.2.2.1 x.1.2.2.2.2.2.2.2 x.2.1 x.2.2.1 x.2.2.2.1 x.2.2.2.2.1 x.2.2.2.2.2,false⟩),(3,⟨[1,3,4,7],[yp,q1,q1,q1],fun x=>oS k x.1.1 x.1.2.1 x.1.2.2.1 x.1.2.2.2.1 x.1.2.2.2.2.1 x.1.2.2.2.2.2.1 x.1.2.2.2.2.2.2.1 x.1.2.2.2.2.2.2.2 x.2.1 x.2.2.1 x.2.2.2,false⟩),(5,⟨[1,7],[yp,q1],fun x=>wL k x.1.1 x.1.2.1 x.1.2.2.1 x.1.2.2.2.1 x.1.2.2.2.2.1 x.1.2.2.2.2.2.1 x.1.2.2.2.2.2.2.1 x.1.2.2.2.2.2.2.2 x.2,false⟩)]) ⟨fun _=>rfl,fun _=>rfl,fun _=>rfl,trivial⟩ (fun _=>by kernel_rfl) (fun _=>by kernel_rfl) (by kernel_rfl)
abbrev Sc:=ai→Option Bool
abbrev J8 (f:Sc):Entry S:=⟨122,[fm],[q3],fun x=>f x⟩
def w7:Nat→Int→Int→(List UInt8)→(List ai)→Int→Option Bool
 | 0,_,_,_,_,_=>none
 | k+1,dY,eB,eC,cE,eR=>if eB=0 then some true else if dY=1 then some (decide (0<eB)) else some false
def uo:Nat→Int→Int→(List UInt8)→(List ai)→Int→Bool→Option Bool
 | 0,_,_,_,_,_,_=>none
 | k+1,dY,eB,eC,cE,eR,named=>if named≠(decide (eC≠ [])) then
  some false else
  bif named then
  (n7 eC).bind fun r3=>
  bif !r3 then
  some false else
  w7 k dY eB eC cE eR else
  w7 k dY eB eC cE eR
def Aa (k:Nat) (e:ai):Option Bool:=if e.Kind=2 then
 if e.Kind<1 then
 some false else
 if 19<e.Kind then
 some false else
 (dZ e.Kind).bind fun r1=>
 if (e.Kids.length:Int)≠(r1.length:Int) then
 some false else
 uo k e.Kind e.N e.Name e.Kids e.At true else
 if e.Kind<1 then
 some false else
 if 19<e.Kind then
 some false else
 (dZ e.Kind).bind fun r2=>
 if (e.Kids.length:Int)≠(r2.length:Int) then
 some false else
 uo k e.Kind e.N e.Name e.Kids e.At (decide (e.Kind=4))
def z_  (e:ai):Option Bool:=b_ (fun k (x:ai)=>Aa k x) e
theorem Sb:ax Tryz.prog S (J8 (z_)):=ir (fun k x=>Aa k x) (fun _=>rfl) fun k=>
 dD pk [zZ dZ,FY n7] ⟨Ew,LW,trivial⟩ Tryz.func122 [2,5] k (fun k=> [(1,⟨[1,3],[lQ,q3],fun x=>uo k x.1.1 x.1.2.1 x.1.2.2.1 x.1.2.2.2.1 x.1.2.2.2.2 x.2,false⟩),(3,⟨[1],[lQ],fun x=>w7 k x.1 x.2.1 x.2.2.1 x.2.2.2.1 x.2.2.2.2,false⟩)]) ⟨fun _=>rfl,fun _=>rfl,trivial⟩ (fun _=>by kernel_rfl) (fun _=>by kernel_rfl) (by kernel_rfl)
abbrev z8:=ai→Int→Int→Option Bool
abbrev w6 (f:z8):Entry S:=⟨103,[fm,q1,q1],[q3],fun x=>f x.1 x.2.1 x.2.2⟩
def nR (mj:z8):Nat→Int→Int→Int→(List UInt8)→(List ai)→Int→(List Int)→Int→Int→Option Bool
 | 0,_,_,_,_,_,_,_,_,_=>none
 | k+1,aR,dY,eB,eC,cE,eR,Iw,O9,rq=>if rq<O9 then
  if 0≤rq then
  if rq<(Iw.length:Int) then
  if 0≤rq then
  if rq<(cE.length:Int) then
  (mj (cE.getD rq.toNat ai.z) (Iw.getD rq.toNat 0) aR).bind fun r9=>
  bif !r9 then
  some false else
  nR mj k aR dY eB eC cE eR Iw O9 (ag (rq+1)) else none else none else none else none else
  some true
def z7 (mj:z8) (k:Nat) (e:ai) (asked:Int) (aR:Int):Option Bool:=(z_ (ai.mk e.Kind e.N e.Name e.Kids e.At)).bind fun r1=>
 bif !r1 then
 some false else
 (mM e.Kind).bind fun r2=>
 if r2<asked then
 (mM e.Kind).bind fun r3=>
 if r3=6 then
 if 12<(ag ((ag (aR+1))+1)) then
 some false else
 (dZ e.Kind).bind fun r4=>
 nR mj k (ag ((ag (aR+1))+1)) e.Kind e.N e.Name e.Kids e.At r4 (r4.length:Int) 0 else
 if 12<(ag (aR+1)) then
 some false else
 (dZ e.Kind).bind fun r5=>
 nR mj k (ag (aR+1)) e.Kind e.N e.Name e.Kids e.At r5 (r5.length:Int) 0 else
 (mM e.Kind).bind fun r6=>
 if r6=6 then
 if 12<(ag (aR+1)) then
 some false else
 (dZ e.Kind).bind fun r7=>
 nR mj k (ag (aR+1)) e.Kind e.N e.Name e.Kids e.At r7 (r7.length:Int) 0 else
 if 12<aR then
 some false else
 (dZ e.Kind).bind fun r8=>
 nR mj k aR e.Kind e.N e.Name e.Kids e.At r8 (r8.length:Int) 0
def qm:Nat→ai→Int→Int→Option Bool
 | 0,_,_,_=>none
 | k+1,x0,x1,x2=>z7 (qm k) k x0 x1 x2
def z6  (e:ai) (asked:Int) (aR:Int):Option Bool:=b_ (fun k (x:ai×Int×Int)=>qm k x.1 x.2.1 x.2.2) (e,asked,aR)
theorem Sa (mj:z8) (k:Nat) (SW:ax Tryz.prog S (w6 mj)):ax Tryz.prog S (w6 (z7 mj k)):=
 dD pk [J8 z_,zY mM,zZ dZ,w6 mj] ⟨Sb,Ev,Ew,SW,trivial⟩ Tryz.func103 [] k (fun k=> [(0,⟨[2,3,29,30,31],[q1,lQ,yo,q1,q1],fun x=>nR mj k x.1 x.2.1.1 x.2.1.2.1 x.2.1.2.2.1 x.2.1.2.2.2.1 x.2.1.2.2.2.2 x.2.2.1 x.2.2.2.1 x.2.2.2.2,false⟩)]) ⟨fun _=>rfl,trivial⟩ (fun _=>by kernel_rfl) (fun _=>by kernel_rfl) (by kernel_rfl)
theorem R_:ax Tryz.prog S (w6 (z6)):=gJ (fun k x=>qm k x.1 x.2.1 x.2.2) (fun _=>rfl) Tryz.func103 (by kernel_rfl) (fun _=>rfl) fun k h=>Sa (qm k) k h
abbrev RY:=ai→Option Bool
abbrev J3 (f:RY):Entry S:=⟨77,[fm],[q3],fun x=>f x⟩
def uh  (e:ai):Option Bool:=(z6 (ai.mk e.Kind e.N e.Name e.Kids e.At) 1 0).bind fun r1=>some r1
theorem RX:ax Tryz.prog S (J3 (uh)):=
 bp pk [w6 z6] ⟨R_,trivial⟩ Tryz.func77 (by kernel_rfl) (fun _=>by kernel_rfl) (by kernel_rfl)
abbrev Qd:=ai→Option Bool
abbrev Qb (f:Qd):Entry S:=⟨76,[fm],[q3],fun x=>f x⟩
def qc  (e:ai):Option Bool:=(uh (ai.mk e.Kind e.N e.Name e.Kids e.At)).bind fun r1=>some (!r1)
theorem Qc:ax Tryz.prog S (Qb (qc)):=
 bp pk [J3 uh] ⟨RX,trivial⟩ Tryz.func76 (by kernel_rfl) (fun _=>by kernel_rfl) (by kernel_rfl)
abbrev ZA:=(List ai)→(ai→Option Bool)→Option Int
abbrev Ol (f:ZA):Entry S:=⟨102,[kz,Gx],[q1],fun x=>f x.1 x.2⟩
def tJ:Nat→(List ai)→(ai→Option Bool)→Int→Int→Option Int
 | 0,_,_,_,_=>none
 | k+1,s,f,x7,x8=>if x8<x7 then
  if 0≤x8 then
  if x8<(s.length:Int) then
  (f (s.getD x8.toNat ai.z)).bind fun r1=>
  bif r1 then
  some x8 else
  tJ k s f x7 (ag (x8+1)) else none else none else
  some (-1)
def Oj (k:Nat) (s:List ai) (f:ai→Option Bool):Option Int:=tJ k s f (s.length:Int) 0
def Db  (s:List ai) (f:ai→Option Bool):Option Int:=b_ (fun k (x:List ai×(ai→Option Bool))=>Oj k x.1 x.2) (s,f)
theorem Zz:ax Tryz.prog S (Ol (Db)):=ir (fun k x=>Oj k x.1 x.2) (fun _=>rfl) fun k=>
 dD pk [] trivial Tryz.func102 [] k (fun k=> [(0,⟨[0,1,7,8],[kz,Gx,q1,q1],fun x=>tJ k x.1 x.2.1 x.2.2.1 x.2.2.2,false⟩)]) ⟨fun _=>rfl,trivial⟩ (fun _=>by kernel_rfl) (fun _=>by kernel_rfl) (by kernel_rfl)
abbrev Zy:=(List ai)→(ai→Option Bool)→Option Bool
abbrev Oi (f:Zy):Entry S:=⟨75,[kz,Gx],[q3],fun x=>f x.1 x.2⟩
def y4  (s:List ai) (f:ai→Option Bool):Option Bool:=(Db s f).bind fun r1=>some (decide (0≤r1))
theorem Zx:ax Tryz.prog S (Oi (y4)):=
 bp pk [Ol Db] ⟨Zz,trivial⟩ Tryz.func75 (by kernel_rfl) (fun _=>by kernel_rfl) (by kernel_rfl)
abbrev zx:=(List ah)→Int→Option Bool
abbrev wJ (f:zx):Entry S:=⟨40,[jm,q1],[q3],fun x=>f x.1 x.2⟩
def gR (ig:zx):Nat→Int→(List ah)→Int→Int→Option Bool
 | 0,_,_,_,_=>none
 | k+1,aR,eN,jY,dz=>if dz<jY then
  if 0≤dz then
  if dz<(eN.length:Int) then
  (wK (ah.mk ((eN.getD dz.toNat ah.z).Kind) ((eN.getD dz.toNat ah.z).Name) ((eN.getD dz.toNat ah.z).Event) ((eN.getD dz.toNat ah.z).X) ((eN.getD dz.toNat ah.z).N) ((eN.getD dz.toNat ah.z).bE) ((eN.getD dz.toNat ah.z).bw) ((eN.getD dz.toNat ah.z).At))).bind fun r1=>
  bif !r1 then
  some false else
  (y4 ((eN.getD dz.toNat ah.z).X) (fun y=>qc y)).bind fun r2=>
  bif r2 then
  some false else
  if ((eN.getD dz.toNat ah.z).Kind)=6 then
  (ig ((eN.getD dz.toNat ah.z).bE) (ag (aR+1))).bind fun r3=>
  bif !r3 then
  some false else
  if 0<(((eN.getD dz.toNat ah.z).bw).length:Int) then
  (ig ((eN.getD dz.toNat ah.z).bw) (ag (aR+1))).bind fun r4=>
  bif !r4 then
  some false else
  gR ig k aR eN jY (ag (dz+1)) else
  gR ig k aR eN jY (ag (dz+1)) else
  if ((eN.getD dz.toNat ah.z).Kind)=7 then
  (ig ((eN.getD dz.toNat ah.z).bE) (ag (aR+1))).bind fun r5=>
  bif !r5 then
  some false else
  if 0<(((eN.getD dz.toNat ah.z).bw).length:Int) then
  (ig ((eN.getD dz.toNat ah.z).bw) (ag (aR+1))).bind fun r6=>
  bif !r6 then
  some false else
  gR ig k aR eN jY (ag (dz+1)) else
  gR ig k aR eN jY (ag (dz+1)) else
  if 0<(((eN.getD dz.toNat ah.z).bw).length:Int) then
  (ig ((eN.getD dz.toNat ah.z).bw) (ag (aR+1))).bind fun r7=>
  bif !r7 then
  some false else
  gR ig k aR eN jY (ag (dz+1)) else
  gR ig k aR eN jY (ag (dz+1)) else none else none else
  some true
def tV (ig:zx) (k:Nat) (l:List ah) (aR:Int):Option Bool:=if 4<aR then
 some false else
 gR ig k aR l (l.length:Int) 0
def iX:Nat→(List ah)→Int→Option Bool
 | 0,_,_=>none
 | k+1,x0,x1=>tV (iX k) k x0 x1
def wI  (l:List ah) (aR:Int):Option Bool:=b_ (fun k (x:List ah×Int)=>iX k x.1 x.2) (l,aR)
theorem Qf (ig:zx) (k:Nat) (SU:ax Tryz.prog S (wJ ig)):ax Tryz.prog S (wJ (tV ig k)):=
 EF pk ⟨[I3 wK,Oi y4,wJ ig],[⟨76,[.st 1],[],[.bool],fun x c=>qc x⟩],false,false,none,[]⟩ ⟨Qg,Zx,SU,trivial⟩ (all_nil) (all_cons (gM.of (a:= [.st 1]) (c:= []) (r:= [.bool]) Qc (fun _ _ z h=>⟨z,h,rfl⟩)) all_nil) Tryz.func40 [] k (fun k=> [(0,⟨[1,10,11,12],[q1,jm,q1,q1],fun x=>gR ig k x.1 x.2.1 x.2.2.1 x.2.2.2,false⟩)]) ⟨fun _=>rfl,trivial⟩ (fun _=>by kernel_rfl) (fun _=>by kernel_rfl) (by kernel_rfl)
theorem Qe:ax Tryz.prog S (wJ (wI)):=gJ (fun k x=>iX k x.1 x.2) (fun _=>rfl) Tryz.func40 (by kernel_rfl) (fun _=>rfl) fun k h=>Qf (iX k) k h
abbrev PV:=(List ah)→Option Bool
abbrev IU (f:PV):Entry S:=⟨19,[jm],[q3],fun x=>f x⟩
def qa  (l:List ah):Option Bool:=(wI l 1).bind fun r1=>some r1
theorem PU:ax Tryz.prog S (IU (qa)):=
 bp pk [wJ wI] ⟨Qe,trivial⟩ Tryz.func19 (by kernel_rfl) (fun _=>by kernel_rfl) (by kernel_rfl)
abbrev UO:=Option Bool
abbrev LK (f:UO):Entry S:=⟨9,[],[q3],fun x=>f⟩
def sU:Option Bool:=(qy NZ).bind fun r1=>
 (qy HZ).bind fun r2=>
 bif r1.2 then
 bif !r2.2 then
 (wH r1.1 0).bind fun r3=>
 if r3=NY then
 (qa r1.1).bind fun r4=>
 bif r4 then
 (qa [ah.mk 0 [] [] [] 0 [] [] 0]).bind fun r5=>
 some (!r5) else
 some false else
 some false else
 some false else
 some false
theorem UN:ax Tryz.prog S (LK (sU)):=
 bp pk [LL qy,IQ wH,IU qa] ⟨UP,PS,PU,trivial⟩ Tryz.func9 (by kernel_rfl) (fun _=>by kernel_rfl) (by kernel_rfl)
abbrev XE:=Int→Option Bool
abbrev MV (f:XE):Entry S:=⟨49,[q2],[q3],fun x=>f x⟩
def vo  (x:Int):Option Bool:=if 97≤x then
 if x≤122 then
 some true else
 if 65≤x then
 if x≤90 then
 some true else
 some (decide (x=95)) else
 some (decide (x=95)) else
 if 65≤x then
 if x≤90 then
 some true else
 some (decide (x=95)) else
 some (decide (x=95))
theorem XD:ax Tryz.prog S (MV (vo)):=
 bp pk [] trivial Tryz.func49 (by kernel_rfl) (fun _=>by kernel_rfl) (by kernel_rfl)
abbrev XC:=Int→Option Bool
abbrev MU (f:XC):Entry S:=⟨50,[q2],[q3],fun x=>f x⟩
def td  (x:Int):Option Bool:=if 48≤x then some (decide (x≤57)) else some false
theorem XB:ax Tryz.prog S (MU (td)):=
 bp pk [] trivial Tryz.func50 (by kernel_rfl) (fun _=>by kernel_rfl) (by kernel_rfl)
abbrev Xz:=(List UInt8)→Option Bool
abbrev MT (f:Xz):Entry S:=⟨132,[q0],[q3],fun x=>f x⟩
def vn:Nat→(List UInt8)→(List UInt8×List UInt8×List UInt8×List UInt8×List UInt8×List UInt8×List UInt8×List UInt8×List UInt8×List UInt8×List UInt8×List UInt8×List UInt8×List UInt8×List UInt8×List UInt8×List UInt8×List UInt8×List UInt8×List UInt8×List UInt8×List UInt8×List UInt8×List UInt8×List UInt8×List UInt8×List UInt8×List UInt8×List UInt8×List UInt8×List UInt8×List UInt8×List UInt8×List UInt8×List UInt8)→Int→Option Bool
 | 0,_,_,_=>none
 | k+1,s,words,i=>if i<35 then
  if 0≤i then
  if i<([words.1,words.2.1,words.2.2.1,words.2.2.2.1,words.2.2.2.2.1,words.2.2.2.2.2.1,words.2.2.2.2.2.2.1,words.2.2.2.2.2.2.2.1,words.2.2.2.2.2.2.2.2.1,words.2.2.2.2.2.2.2.2.2.1,words.2.2.2.2.2.2.2.2.2.2.1,words.2.2.2.2.2.2.2.2.2.2.2.1,words.2.2.2.2.2.2.2.2.2.2.2.2.1,words.2.2.2.2.2.2.2.2.2.2.2.2.2.1,words.2.2.2.2.2.2.2.2.2.2.2.2.2.2.1,words.2.2.2.2.2.2.2.2.2.2.2.2.2.2.2.1,words.2.2.2.2.2.2.2.2.2.2.2.2.2.2.2.2.1,words.2.2.2.2.2.2.2.2.2.2.2.2.2.2.2.2.2.1,words.2.2.2.2.2.2.2.2.2.2.2.2.2.2.2.2.2.2.1,words.2.2.2.2.2.2.2.2.2.2.2.2.2.2.2.2.2.2.2.1,words.2.2.2.2.2.2.2.2.2.2.2.2.2.2.2.2.2.2.2.2.1,words.2.2.2.2.2.2.2.2.2.2.2.2.2.2.2.2.2.2.2.2.2.1,words.2.2.2.2.2.2.2.2.2.2.2.2.2.2.2.2.2.2.2.2.2.2.1,words.2.2.2.2.2.2.2.2.2.2.2.2.2.2.2.2.2.2.2.2.2.2.2.1,words.2.2.2.2.2.2.2.2.2.2.2.2.2.2.2.2.2.2.2.2.2.2.2.2.1,words.2.2.2.2.2.2.2.2.2.2.2.2.2.2.2.2.2.2.2.2.2.2.2.2.2.1,words.2.2.2.2.2.2.2.2.2.2.2.2.2.2.2.2.2.2.2.2.2.2.2.2.2.2.1,words.2.2.2.2.2.2.2.2.2.2.2.2.2.2.2.2.2.2.2.2.2.2.2.2.2.2.2.1,words.2.2.2.2.2.2.2.2.2.2.2.2.2.2.2.2.2.2.2.2.2.2.2.2.2.2.2.2.1,words.2.2.2.2.2.2.2.2.2.2.2.2.2.2.2.2.2.2.2.2.2.2.2.2.2.2.2.2.2.1,words.2.2.2.2.2.2.2.2.2.2.2.2.2.2.2.2.2.2.2.2.2.2.2.2.2.2.2.2.2.2.1,words.2.2.2.2.2.2.2.2.2.2.2.2.2.2.2.2.2.2.2.2.2.2.2.2.2.2.2.2.2.2.2.1,words.2.2.2.2.2.2.2.2.2.2.2.2.2.2.2.2.2.2.2.2.2.2.2.2.2.2.2.2.2.2.2.2.1,words.2.2.2.2.2.2.2.2.2.2.2.2.2.2.2.2.2.2.2.2.2.2.2.2.2.2.2.2.2.2.2.2.2.1,words.2.2.2.2.2.2.2.2.2.2.2.2.2.2.2.2.2.2.2.2.2.2.2.2.2.2.2.2.2.2.2.2.2.2].length:Int) then
  if ([words.1,words.2.1,words.2.2.1,words.2.2.2.1,words.2.2.2.2.1,words.2.2.2.2.2.1,words.2.2.2.2.2.2.1,words.2.2.2.2.2.2.2.1,words.2.2.2.2.2.2.2.2.1,words.2.2.2.2.2.2.2.2.2.1,words.2.2.2.2.2.2.2.2.2.2.1,words.2.2.2.2.2.2.2.2.2.2.2.1,words.2.2.2.2.2.2.2.2.2.2.2.2.1,words.2.2.2.2.2.2.2.2.2.2.2.2.2.1,words.2.2.2.2.2.2.2.2.2.2.2.2.2.2.1,words.2.2.2.2.2.2.2.2.2.2.2.2.2.2.2.1,words.2.2.2.2.2.2.2.2.2.2.2.2.2.2.2.2.1,words.2.2.2.2.2.2.2.2.2.2.2.2.2.2.2.2.2.1,words.2.2.2.2.2.2.2.2.2.2.2.2.2.2.2.2.2.2.1,words.2.2.2.2.2.2.2.2.2.2.2.2.2.2.2.2.2.2.2.1,words.2.2.2.2.2.2.2.2.2.2.2.2.2.2.2.2.2.2.2.2.1,words.2.2.2.2.2.2.2.2.2.2.2.2.2.2.2.2.2.2.2.2.2.1,words.2.2.2.2.2.2.2.2.2.2.2.2.2.2.2.2.2.2.2.2.2.2.1,words.2.2.2.2.2.2.2.2.2.2.2.2.2.2.2.2.2.2.2.2.2.2.2.1,words.2.2.2.2.2.2.2.2.2.2.2.2.2.2.2.2.2.2.2.2.2.2.2.2.1,words.2.2.2.2.2.2.2.2.2.2.2.2.2.2.2.2.2.2.2.2.2.2.2.2.2.1,words.2.2.2.2.2.2.2.2.2.2.2.2.2.2.2.2.2.2.2.2.2.2.2.2.2.2.1,words.2.2.2.2.2.2.2.2.2.2.2.2.2.2.2.2.2.2.2.2.2.2.2.2.2.2.2.1,words.2.2.2.2.2.2.2.2.2.2.2.2.2.2.2.2.2.2.2.2.2.2.2.2.2.2.2.2.1,words.2.2.2.2.2.2.2.2.2.2.2.2.2.2.2.2.2.2.2.2.2.2.2.2.2.2.2.2.2.1,words.2.2.2.2.2.2.2.2.2.2.2.2.2.2.2.2.2.2.2.2.2.2.2.2.2.2.2.2.2.2.1,words.2.2.2.2.2.2.2.2.2.2.2.2.2.2.2.2.2.2.2.2.2.2.2.2.2.2.2.2.2.2.2.1,words.2.2.2.2.2.2.2.2.2.2.2.2.2.2.2.2.2.2.2.2.2.2.2.2.2.2.2.2.2.2.2.2.1,words.2.2.2.2.2.2.2.2.2.2.2.2.2.2.2.2.2.2.2.2.2.2.2.2.2.2.2.2.2.2.2.2.2.1,words.2.2.2.2.2.2.2.2.2.2.2.2.2.2.2.2.2.2.2.2.2.2.2.2.2.2.2.2.2.2.2.2.2.2].getD i.toNat [])=s then
  some true else
  vn k s words (ag (i+1)) else none else none else
  some false
def MS (k:Nat) (s:List UInt8):Option Bool:=vn k s Ja 0
def Cg  (s:List UInt8):Option Bool:=b_ (fun k (x:List UInt8)=>MS k x) s
theorem Xy:ax Tryz.prog S (MT (Cg)):=ir (fun k x=>MS k x) (fun _=>rfl) fun k=>
 dD pk [] trivial Tryz.func132 [] k (fun k=> [(0,⟨[0,3,4],[q0,WK,q1],fun x=>vn k x.1 x.2.1 x.2.2,false⟩)]) ⟨fun _=>rfl,trivial⟩ (fun _=>by kernel_rfl) (fun _=>by kernel_rfl) (by kernel_rfl)
abbrev XZ:=Int→Option Int
abbrev HE (f:XZ):Entry S:=⟨95,[q1],[q1],fun x=>f x⟩
def tq  (k_:Int):Option Int:=if k_=19 then
 some 1 else
 if k_=18 then
 some 2 else
 if 12≤k_ then
 if k_≤17 then
 some 3 else
 if k_=10 then
 some 4 else
 if k_=11 then
 some 4 else
 if k_=7 then
 some 5 else
 if k_=8 then
 some 5 else
 if k_=9 then
 some 5 else
 if k_=5 then
 some 6 else
 if k_=6 then
 some 6 else
 some 7 else
 if k_=10 then
 some 4 else
 if k_=11 then
 some 4 else
 if k_=7 then
 some 5 else
 if k_=8 then
 some 5 else
 if k_=9 then
 some 5 else
 if k_=5 then
 some 6 else
 if k_=6 then
 some 6 else
 some 7
theorem Nh:ax Tryz.prog S (HE (tq)):=
 bp pk [] trivial Tryz.func95 (by kernel_rfl) (fun _=>by kernel_rfl) (by kernel_rfl)
abbrev Yd:=Int→Option (List UInt8)
abbrev Np (f:Yd):Entry S:=⟨32,[q1],[q0],fun x=>f x⟩
def tr:Nat→Int→(List UInt8)→Int→Option (List UInt8)
 | 0,_,_,_=>none
 | k+1,n,s,i=>if i<n then
  if s.length+tI.length≤9223372036854775807 then
  tr k n (s++tI) (ag (i+1)) else none else
  some s
def No (k:Nat) (n:Int):Option (List UInt8):=tr k n [] 0
def yQ  (n:Int):Option (List UInt8):=b_ (fun k (x:Int)=>No k x) n
theorem Yc:ax Tryz.prog S (Np (yQ)):=ir (fun k x=>No k x) (fun _=>rfl) fun k=>
 dD pk [] trivial Tryz.func32 [] k (fun k=> [(0,⟨[0,3,4],[q1,q0,q1],fun x=>tr k x.1 x.2.1 x.2.2,false⟩)]) ⟨fun _=>rfl,trivial⟩ (fun _=>by kernel_rfl) (fun _=>by kernel_rfl) (by kernel_rfl)
abbrev HC:=Int→Option (List UInt8)
abbrev vz (f:HC):Entry S:=⟨68,[q1],[q0],fun x=>f x⟩
def HB (vO:HC) (k:Nat) (n:Int):Option (List UInt8):=if n≤(-10) then
 if ¬ (10:Int)=0 then
 if ¬ (10:Int)=0 then
 (vO (ag (n.tdiv 10))).bind fun r1=>
 if 0≤(ag ((ag (0 - (n.tmod 10)))+1)) then
 if (ag ((ag (0 - (n.tmod 10)))+1))≤(lg.length:Int) then
 if 0≤(ag (0 - (n.tmod 10))) then
 if (ag (0 - (n.tmod 10)))≤(ag ((ag (0 - (n.tmod 10)))+1)) then
 if r1.length+(cut lg (ag (0 - (n.tmod 10))) (ag ((ag (0 - (n.tmod 10)))+1))).length≤9223372036854775807 then
 some (r1++(cut lg (ag (0 - (n.tmod 10))) (ag ((ag (0 - (n.tmod 10)))+1)))) else none else none else none else none else none else none else none else
 if n<0 then
 if 0≤(ag ((ag (0 - n))+1)) then
 if (ag ((ag (0 - n))+1))≤(lg.length:Int) then
 if 0≤(ag (0 - n)) then
 if (ag (0 - n))≤(ag ((ag (0 - n))+1)) then
 if dV.length+(cut lg (ag (0 - n)) (ag ((ag (0 - n))+1))).length≤9223372036854775807 then
 some (dV++(cut lg (ag (0 - n)) (ag ((ag (0 - n))+1)))) else none else none else none else none else none else
 if n<10 then
 if 0≤(ag (n+1)) then
 if (ag (n+1))≤(lg.length:Int) then
 if 0≤n then
 if n≤(ag (n+1)) then
 some (cut lg n (ag (n+1))) else none else none else none else none else
 if ¬ (10:Int)=0 then
 (vO (ag (n.tdiv 10))).bind fun r2=>
 if ¬ (10:Int)=0 then
 if ¬ (10:Int)=0 then
 if 0≤(ag ((n.tmod 10)+1)) then
 if (ag ((n.tmod 10)+1))≤(lg.length:Int) then
 if 0≤(n.tmod 10) then
 if (n.tmod 10)≤(ag ((n.tmod 10)+1)) then
 if r2.length+(cut lg (n.tmod 10) (ag ((n.tmod 10)+1))).length≤9223372036854775807 then
 some (r2++(cut lg (n.tmod 10) (ag ((n.tmod 10)+1)))) else none else none else none else none else none else none else none else none
def vv:Nat→Int→Option (List UInt8)
 | 0,_=>none
 | k+1,x0=>HB (vv k) k x0
def vu  (n:Int):Option (List UInt8):=b_ (fun k (x:Int)=>vv k x) n
theorem XN (vO:HC) (k:Nat) (S2:ax Tryz.prog S (vz vO)):ax Tryz.prog S (vz (HB vO k)):=
 bp pk [vz vO] ⟨S2,trivial⟩ Tryz.func68 (by kernel_rfl) (fun _=>by kernel_rfl) (by kernel_rfl)
theorem M9:ax Tryz.prog S (vz (vu)):=gJ (fun k x=>vv k x) (fun _=>rfl) Tryz.func68 (by kernel_rfl) (fun _=>rfl) fun k h=>XN (vv k) k h
abbrev Yb:=Int→Option (List UInt8)
abbrev Nn (f:Yb):Entry S:=⟨96,[q1],[q0],fun x=>f x⟩
def nj  (k_:Int):Option (List UInt8):=if 0≤k_ then
 if k_<(NJ.length:Int) then
 some (NJ.getD k_.toNat []) else none else none
theorem Ya:ax Tryz.prog S (Nn (nj)):=
 bp pk [] trivial Tryz.func96 (by kernel_rfl) (fun _=>by kernel_rfl) (by kernel_rfl)
abbrev yM:=ai→Option (List UInt8)
abbrev tj (f:yM):Entry S:=⟨66,[fm],[q0],fun x=>f x⟩
abbrev XW:=ai→Int→Option (List UInt8)
abbrev Nf (f:XW):Entry S:=⟨97,[fm,q1],[q0],fun x=>f x.1 x.2⟩
def kF (fM:yM)  (e:ai) (asks:Int):Option (List UInt8):=(tq e.Kind).bind fun r1=>
 if r1<asks then
 (fM (ai.mk e.Kind e.N e.Name e.Kids e.At)).bind fun r2=>
 if bM.length+r2.length≤9223372036854775807 then
 if (bM++r2).length+bD.length≤9223372036854775807 then
 some ((bM++r2)++bD) else none else none else
 (fM (ai.mk e.Kind e.N e.Name e.Kids e.At)).bind fun r3=>
 some r3
theorem XV (fM:yM) (EU:ax Tryz.prog S (tj fM)):ax Tryz.prog S (Nf (kF fM)):=
 bp pk [HE tq,tj fM] ⟨Nh,EU,trivial⟩ Tryz.func97 (by kernel_rfl) (fun _=>by kernel_rfl) (by kernel_rfl)
def kD (fM:yM) (k:Nat) (e:ai):Option (List UInt8):=(tq e.Kind).bind fun r1=>
 if e.Kind=1 then
 (vu e.N).bind fun r2=>
 some r2 else
 if e.Kind=2 then
 some e.Name else
 if e.Kind=3 then
 some kI else
 if e.Kind=4 then
 if ia.length+e.Name.length≤9223372036854775807 then
 if (ia++e.Name).length+bD.length≤9223372036854775807 then
 some ((ia++e.Name)++bD) else none else none else
 if e.Kind=5 then
 if e.Kind=5 then
 (nj e.Kind).bind fun r3=>
 if (0:Int)≤0 then
 if 0<(e.Kids.length:Int) then
 (kF fM (e.Kids.getD (0:Int).toNat ai.z) 6).bind fun r4=>
 if r3.length+r4.length≤9223372036854775807 then
 some (r3++r4) else none else none else none else
 if r1=3 then
 if (0:Int)≤0 then
 if 0<(e.Kids.length:Int) then
 (kF fM (e.Kids.getD (0:Int).toNat ai.z) 4).bind fun r5=>
 if r5.length+aT.length≤9223372036854775807 then
 (nj e.Kind).bind fun r6=>
 if (r5++aT).length+r6.length≤9223372036854775807 then
 if ((r5++aT)++r6).length+aT.length≤9223372036854775807 then
 if (0:Int)≤1 then
 if 1<(e.Kids.length:Int) then
 (kF fM (e.Kids.getD (1:Int).toNat ai.z) (ag (r1+1))).bind fun r7=>
 if (((r5++aT)++r6)++aT).length+r7.length≤9223372036854775807 then
 some ((((r5++aT)++r6)++aT)++r7) else none else none else none else none else none else none else none else none else
 if (0:Int)≤0 then
 if 0<(e.Kids.length:Int) then
 (kF fM (e.Kids.getD (0:Int).toNat ai.z) r1).bind fun r8=>
 if r8.length+aT.length≤9223372036854775807 then
 (nj e.Kind).bind fun r9=>
 if (r8++aT).length+r9.length≤9223372036854775807 then
 if ((r8++aT)++r9).length+aT.length≤9223372036854775807 then
 if (0:Int)≤1 then
 if 1<(e.Kids.length:Int) then
 (kF fM (e.Kids.getD (1:Int).toNat ai.z) (ag (r1+1))).bind fun bJ=>
 if (((r8++aT)++r9)++aT).length+bJ.length≤9223372036854775807 then
 some ((((r8++aT)++r9)++aT)++bJ) else none else none else none else none else none else none else none else none else
 if e.Kind=6 then
 (nj e.Kind).bind fun bU=>
 if (0:Int)≤0 then
 if 0<(e.Kids.length:Int) then
 (kF fM (e.Kids.getD (0:Int).toNat ai.z) 6).bind fun bS=>
 if bU.length+bS.length≤9223372036854775807 then
 some (bU++bS) else none else none else none else
 if r1=3 then
 if (0:Int)≤0 then
 if 0<(e.Kids.length:Int) then
 (kF fM (e.Kids.getD (0:Int).toNat ai.z) 4).bind fun bY=>
 if bY.length+aT.length≤9223372036854775807 then
 (nj e.Kind).bind fun bB=>
 if (bY++aT).length+bB.length≤9223372036854775807 then
 if ((bY++aT)++bB).length+aT.length≤9223372036854775807 then
 if (0:Int)≤1 then
 if 1<(e.Kids.length:Int) then
 (kF fM (e.Kids.getD (1:Int).toNat ai.z) (ag (r1+1))).bind fun dw=>
 if (((bY++aT)++bB)++aT).length+dw.length≤9223372036854775807 then
 some ((((bY++aT)++bB)++aT)++dw) else none else none else none else none else none else none else none else none else
 if (0:Int)≤0 then
 if 0<(e.Kids.length:Int) then
 (kF fM (e.Kids.getD (0:Int).toNat ai.z) r1).bind fun r16=>
 if r16.length+aT.length≤9223372036854775807 then
 (nj e.Kind).bind fun hJ=>
 if (r16++aT).length+hJ.length≤9223372036854775807 then
 if ((r16++aT)++hJ).length+aT.length≤9223372036854775807 then
 if (0:Int)≤1 then
 if 1<(e.Kids.length:Int) then
 (kF fM (e.Kids.getD (1:Int).toNat ai.z) (ag (r1+1))).bind fun iM=>
 if (((r16++aT)++hJ)++aT).length+iM.length≤9223372036854775807 then
 some ((((r16++aT)++hJ)++aT)++iM) else none else none else none else none else none else none else none else none
def kE:Nat→ai→Option (List UInt8)
 | 0,_=>none
 | k+1,x0=>kD (kE k) k x0
def vB  (e:ai):Option (List UInt8):=b_ (fun k (x:ai)=>kE k x) e
theorem XR (fM:yM) (k:Nat) (EU:ax Tryz.prog S (tj fM)):ax Tryz.prog S (tj (kD fM k)):=
 bp pk [HE tq,vz vu,Nn nj,Nf (kF fM)] ⟨Nh,M9,Ya,XV fM EU,trivial⟩ Tryz.func66 (by kernel_rfl) (fun _=>by kernel_rfl) (by kernel_rfl)
theorem Nb:ax Tryz.prog S (tj (vB)):=gJ (fun k x=>kE k x) (fun _=>rfl) Tryz.func66 (by kernel_rfl) (fun _=>rfl) fun k h=>XR (kE k) k h
abbrev Yl:=(List ai)→Option (List UInt8)
abbrev Nr (f:Yl):Entry S:=⟨67,[kz],[q0],fun x=>f x⟩
def qP  (x:List ai):Option (List UInt8):=if (x.length:Int)=0 then
 some [] else
 if (0:Int)≤0 then
 if 0<(x.length:Int) then
 (vB (x.getD (0:Int).toNat ai.z)).bind fun r1=>
 if bM.length+r1.length≤9223372036854775807 then
 if (bM++r1).length+bD.length≤9223372036854775807 then
 some ((bM++r1)++bD) else none else none else none else none
theorem Yk:ax Tryz.prog S (Nr (qP)):=
 bp pk [tj vB] ⟨Nb,trivial⟩ Tryz.func67 (by kernel_rfl) (fun _=>by kernel_rfl) (by kernel_rfl)
abbrev vI:=(List ah)→Int→Option (List UInt8)
abbrev vH (f:vI):Entry S:=⟨15,[jm,q1],[q0],fun x=>f x.1 x.2⟩
abbrev Yv:=ah→Int→Option (List UInt8)
abbrev Nv (f:Yv):Entry S:=⟨33,[om,q1],[q0],fun x=>f x.1 x.2⟩
def yU (ij:vI)  (a:ah) (dN:Int):Option (List UInt8):=if a.Kind=1 then
 if a.Name.length+jU.length≤9223372036854775807 then
 if (0:Int)≤0 then
 if 0<(a.X.length:Int) then
 (vB (a.X.getD (0:Int).toNat ai.z)).bind fun r1=>
 if (a.Name++jU).length+r1.length≤9223372036854775807 then
 if ((a.Name++jU)++r1).length+bq.length≤9223372036854775807 then
 some (((a.Name++jU)++r1)++bq) else none else none else none else none else none else
 if a.Kind=2 then
 if jv.length+a.Event.length≤9223372036854775807 then
 (qP a.X).bind fun r2=>
 if (jv++a.Event).length+r2.length≤9223372036854775807 then
 if ((jv++a.Event)++r2).length+bq.length≤9223372036854775807 then
 some (((jv++a.Event)++r2)++bq) else none else none else none else
 if a.Kind=3 then
 if fK.length+a.Name.length≤9223372036854775807 then
 if (fK++a.Name).length+aT.length≤9223372036854775807 then
 if ((fK++a.Name)++aT).length+a.Event.length≤9223372036854775807 then
 (qP a.X).bind fun r3=>
 if (((fK++a.Name)++aT)++a.Event).length+r3.length≤9223372036854775807 then
 if ((((fK++a.Name)++aT)++a.Event)++r3).length+bq.length≤9223372036854775807 then
 some (((((fK++a.Name)++aT)++a.Event)++r3)++bq) else none else none else none else none else none else
 if a.Kind=4 then
 if jS.length+a.Name.length≤9223372036854775807 then
 (qP a.X).bind fun r4=>
 if (jS++a.Name).length+r4.length≤9223372036854775807 then
 if ((jS++a.Name)++r4).length+bq.length≤9223372036854775807 then
 some (((jS++a.Name)++r4)++bq) else none else none else none else
 if a.Kind=5 then
 if l9.length+a.Name.length≤9223372036854775807 then
 if (l9++a.Name).length+bq.length≤9223372036854775807 then
 some ((l9++a.Name)++bq) else none else none else
 if a.Kind=7 then
 (vu a.N).bind fun r5=>
 if lp.length+r5.length≤9223372036854775807 then
 if (lp++r5).length+aT.length≤9223372036854775807 then
 (ij a.bE dN).bind fun r6=>
 if ((lp++r5)++aT).length+r6.length≤9223372036854775807 then
 some (((lp++r5)++aT)++r6) else none else none else none else
 (qP a.X).bind fun r7=>
 if jt.length+r7.length≤9223372036854775807 then
 if (jt++r7).length+aT.length≤9223372036854775807 then
 (ij a.bE dN).bind fun r8=>
 if ((jt++r7)++aT).length+r8.length≤9223372036854775807 then
 if 0<(a.bw.length:Int) then
 if (((jt++r7)++aT)++r8).length+qU.length≤9223372036854775807 then
 (ij a.bw dN).bind fun r9=>
 if ((((jt++r7)++aT)++r8)++qU).length+r9.length≤9223372036854775807 then
 some (((((jt++r7)++aT)++r8)++qU)++r9) else none else none else
 some (((jt++r7)++aT)++r8) else none else none else none
theorem Yu (ij:vI) (EV:ax Tryz.prog S (vH ij)):ax Tryz.prog S (Nv (yU ij)):=
 bp pk [tj vB,Nr qP,vz vu,vH ij] ⟨Nb,Yk,M9,EV,trivial⟩ Tryz.func33 (by kernel_rfl) (fun _=>by kernel_rfl) (by kernel_rfl)
def tu (ij:vI):Nat→(List ah)→Int→(List UInt8)→Int→Option (List UInt8)
 | 0,_,_,_,_=>none
 | k+1,l,n,s,i=>if i<(l.length:Int) then
  (yQ (ag (n+1))).bind fun r1=>
  if s.length+r1.length≤9223372036854775807 then
  if 0≤i then
  if i<(l.length:Int) then
  (yU ij (l.getD i.toNat ah.z) (ag (n+1))).bind fun r2=>
  if (s++r1).length+r2.length≤9223372036854775807 then
  if ((s++r1)++r2).length+NV.length≤9223372036854775807 then
  tu ij k l n (((s++r1)++r2)++NV) (ag (i+1)) else none else none else none else none else none else
  (yQ n).bind fun r3=>
  if s.length+r3.length≤9223372036854775807 then
  if (s++r3).length+dx.length≤9223372036854775807 then
  some ((s++r3)++dx) else none else none
def pK (ij:vI) (k:Nat) (l:List ah) (dN:Int):Option (List UInt8):=if (l.length:Int)=0 then
 some CX else
 tu ij k l (max dN 0) tH 0
def lY:Nat→(List ah)→Int→Option (List UInt8)
 | 0,_,_=>none
 | k+1,x0,x1=>pK (lY k) k x0 x1
def Cs  (l:List ah) (dN:Int):Option (List UInt8):=b_ (fun k (x:List ah×Int)=>lY k x.1 x.2) (l,dN)
theorem Yh (ij:vI) (k:Nat) (EV:ax Tryz.prog S (vH ij)):ax Tryz.prog S (vH (pK ij k)):=
 dD pk [Np yQ,Nv (yU ij)] ⟨Yc,Yu ij EV,trivial⟩ Tryz.func15 [] k (fun k=> [(0,⟨[0,5,6,7],[jm,q1,q0,q1],fun x=>tu ij k x.1 x.2.1 x.2.2.1 x.2.2.2,false⟩)]) ⟨fun _=>rfl,trivial⟩ (fun _=>by kernel_rfl) (fun _=>by kernel_rfl) (by kernel_rfl)
theorem Yg:ax Tryz.prog S (vH (Cs)):=gJ (fun k x=>lY k x.1 x.2) (fun _=>rfl) Tryz.func15 (by kernel_rfl) (fun _=>rfl) fun k h=>Yh (lY k) k h
abbrev UW:=Option aV
abbrev LM (f:UW):Entry S:=⟨17,[],[Gy],fun x=>f⟩
def AV:Option aV:=some (aV.mk [N3,N5] [NW] [N0] [NU])
theorem UU:ax Tryz.prog S (LM (AV)):=
 bp pk [] trivial Tryz.func17 (by kernel_rfl) (fun _=>by kernel_rfl) (by kernel_rfl)
abbrev Xo:=Int→Int→Option Int
abbrev Cd (f:Xo):Entry S:=⟨10,[q1,q1],[q1],fun x=>f x.1 x.2⟩
def kY  (v:Int) (n:Int):Option Int:=if ¬ n=0 then
 if (v.tmod n)<0 then
 some (ag ((v.tmod n)+n)) else
 some (v.tmod n) else none
theorem Hu:ax Tryz.prog S (Cd (kY)):=
 bp pk [] trivial Tryz.func10 (by kernel_rfl) (fun _=>by kernel_rfl) (by kernel_rfl)
abbrev Xp:=a_→Int→Option (Int×a_)
abbrev Ce (f:Xp):Entry S:=⟨34,[Bb,q1],[q1],fun x=>f x.1 x.2⟩
def bK  (r_:a_) (n:Int):Option (Int×a_):=if (r_.L.length:Int)≤r_.At then
 some (0,r_) else
 if 0≤(ag ((ag (r_.At+1)) - 1)) then
 if (ag ((ag (r_.At+1)) - 1))<(r_.L.length:Int) then
 (kY (r_.L.getD (ag ((ag (r_.At+1)) - 1)).toNat 0) n).bind fun r1=>
 some (r1,a_.mk r_.L (ag (r_.At+1))) else none else none
theorem Hv:ax Tryz.prog S (Ce (bK)):=
 bp pk [Cd kY] ⟨Hu,trivial⟩ Tryz.func34 (by kernel_rfl) (fun _=>by kernel_rfl) (by kernel_rfl)
abbrev Xs:=a_→(List (List UInt8))→(List UInt8)→Option (List UInt8×a_)
abbrev Hw (f:Xs):Entry S:=⟨36,[Bb,WL,q0],[q0],fun x=>f x.1 x.2.1 x.2.2⟩
def fq  (r_:a_) (l:List (List UInt8)) (or:List UInt8):Option (List UInt8×a_):=if (l.length:Int)=0 then
 some (or,r_) else
 (bK r_ (l.length:Int)).bind fun r1=>
 if 0≤r1.1 then
 if r1.1<(l.length:Int) then
 some (l.getD r1.1.toNat [],r1.2) else none else none
theorem MP:ax Tryz.prog S (Hw (fq)):=
 bp pk [Ce bK] ⟨Hv,trivial⟩ Tryz.func36 (by kernel_rfl) (fun _=>by kernel_rfl) (by kernel_rfl)
abbrev yI:=a_→aV→Int→Option (ai×a_)
abbrev yH (f:yI):Entry S:=⟨35,[Bb,Gy,q1],[fm],fun x=>f x.1 x.2.1 x.2.2⟩
def vk (gi:yI):Nat→(List Int)→Int→Int→(List (List UInt8))→(List (List UInt8))→(List (List UInt8))→(List (List UInt8))→Int→Int→(List UInt8)→(List ai)→Int→Option (ai×a_)
 | 0,_,_,_,_,_,_,_,_,_,_,_,_=>none
 | k+1,fY,fX,deep,aD,aB,ay,aC,zj,zk,zl,zi,wg=>(gi (a_.mk fY fX) (aV.mk aD aB ay aC) (ag (deep - 1))).bind fun bB=>
  (bK bB.2 13).bind fun dw=>
  (gi dw.2 (aV.mk aD aB ay aC) (ag (deep - 1))).bind fun r16=>
  some (ai.mk (ag (7+dw.1)) 0 [] [ai.mk bB.1.Kind bB.1.N bB.1.Name bB.1.Kids bB.1.At,r16.1] 0,r16.2)
def kX (gi:yI):Nat→(List Int)→Int→Int→(List (List UInt8))→(List (List UInt8))→(List (List UInt8))→(List (List UInt8))→Int→Int→(List UInt8)→(List ai)→Int→Int→Option (ai×a_)
 | 0,_,_,_,_,_,_,_,_,_,_,_,_,_=>none
 | k+1,fY,fX,deep,aD,aB,ay,aC,zj,zk,zl,zi,wg,k_=>if k_<2 then
  (bK (a_.mk fY fX) 6).bind fun r2=>
  if 0≤r2.1 then
  if r2.1<(vL.length:Int) then
  some (ai.mk 1 (vL.getD r2.1.toNat 0) [] [] 0,r2.2) else none else none else
  if k_=2 then
  if 0<(aD.length:Int) then
  (fq (a_.mk fY fX) aD []).bind fun r3=>
  some (ai.mk 2 0 r3.1 [] 0,r3.2) else
  if k_=3 then
  if 0<(aC.length:Int) then
  (fq (a_.mk fY fX) aC []).bind fun r4=>
  some (ai.mk 4 0 r4.1 [] 0,r4.2) else
  if k_<6 then
  some (ai.mk 3 0 [] [] 0,a_.mk fY fX) else
  if k_=6 then
  (bK (a_.mk fY fX) 2).bind fun r5=>
  (gi r5.2 (aV.mk aD aB ay aC) (ag (deep - 1))).bind fun r6=>
  some (ai.mk (ag (5+r5.1)) 0 [] [r6.1] 0,r6.2) else
  vk gi k fY fX deep aD aB ay aC zj zk zl zi wg else
  if k_<6 then
  some (ai.mk 3 0 [] [] 0,a_.mk fY fX) else
  if k_=6 then
  (bK (a_.mk fY fX) 2).bind fun r7=>
  (gi r7.2 (aV.mk aD aB ay aC) (ag (deep - 1))).bind fun r8=>
  some (ai.mk (ag (5+r7.1)) 0 [] [r8.1] 0,r8.2) else
  vk gi k fY fX deep aD aB ay aC zj zk zl zi wg else
  if k_=3 then
  if 0<(aC.length:Int) then
  (fq (a_.mk fY fX) aC []).bind fun r9=>
  some (ai.mk 4 0 r9.1 [] 0,r9.2) else
  if k_<6 then
  some (ai.mk 3 0 [] [] 0,a_.mk fY fX) else
  if k_=6 then
  (bK (a_.mk fY fX) 2).bind fun bJ=>
  (gi bJ.2 (aV.mk aD aB ay aC) (ag (deep - 1))).bind fun bU=>
  some (ai.mk (ag (5+bJ.1)) 0 [] [bU.1] 0,bU.2) else
  vk gi k fY fX deep aD aB ay aC zj zk zl zi wg else
  if k_<6 then
  some (ai.mk 3 0 [] [] 0,a_.mk fY fX) else
  if k_=6 then
  (bK (a_.mk fY fX) 2).bind fun bS=>
  (gi bS.2 (aV.mk aD aB ay aC) (ag (deep - 1))).bind fun bY=>
  some (ai.mk (ag (5+bS.1)) 0 [] [bY.1] 0,bY.2) else
  vk gi k fY fX deep aD aB ay aC zj zk zl zi wg
def vj (gi:yI) (k:Nat) (r_:a_) (s:aV) (deep:Int):Option (ai×a_):=(bK r_ 14).bind fun r1=>
 if deep=0 then
 if 5<r1.1 then
 if ¬ (6:Int)=0 then
 kX gi k r1.2.L r1.2.At deep s.Vars s.gO s.gE s.eV 0 0 [] [] 0 (r1.1.tmod 6) else none else
 kX gi k r1.2.L r1.2.At deep s.Vars s.gO s.gE s.eV 0 0 [] [] 0 r1.1 else
 kX gi k r1.2.L r1.2.At deep s.Vars s.gO s.gE s.eV 0 0 [] [] 0 r1.1
def lV:Nat→a_→aV→Int→Option (ai×a_)
 | 0,_,_,_=>none
 | k+1,x0,x1,x2=>vj (lV k) k x0 x1 x2
def Cc  (r_:a_) (s:aV) (deep:Int):Option (ai×a_):=b_ (fun k (x:a_×aV×Int)=>lV k x.1 x.2.1 x.2.2) (r_,s,deep)
theorem Xn (gi:yI) (k:Nat) (S1:ax Tryz.prog S (yH gi)):ax Tryz.prog S (yH (vj gi k)):=
 dD pk [Ce bK,Hw fq,yH gi] ⟨Hv,MP,S1,trivial⟩ Tryz.func35 [2,4] k (fun k=> [(1,⟨[0,2,4,6,7],[Gz,q1,GA,ym,q1],fun x=>kX gi k x.1.1 x.1.2 x.2.1 x.2.2.1.1 x.2.2.1.2.1 x.2.2.1.2.2.1 x.2.2.1.2.2.2 x.2.2.2.1.1 x.2.2.2.1.2.1 x.2.2.2.1.2.2.1 x.2.2.2.1.2.2.2.1 x.2.2.2.1.2.2.2.2 x.2.2.2.2,false⟩),(3,⟨[0,2,4,6],[Gz,q1,GA,ym],fun x=>vk gi k x.1.1 x.1.2 x.2.1 x.2.2.1.1 x.2.2.1.2.1 x.2.2.1.2.2.1 x.2.2.1.2.2.2 x.2.2.2.1 x.2.2.2.2.1 x.2.2.2.2.2.1 x.2.2.2.2.2.2.1 x.2.2.2.2.2.2.2,false⟩)]) ⟨fun _=>rfl,fun _=>rfl,trivial⟩ (fun _=>by kernel_rfl) (fun _=>by kernel_rfl) (by kernel_rfl)
theorem Xm:ax Tryz.prog S (yH (Cc)):=gJ (fun k x=>lV k x.1 x.2.1 x.2.2) (fun _=>rfl) Tryz.func35 (by kernel_rfl) (fun _=>rfl) fun k h=>Xn (lV k) k h
abbrev Xl:=Int→Option (List UInt8)
abbrev MN (f:Xl):Entry S:=⟨37,[q1],[q0],fun x=>f x⟩
def qM  (k_:Int):Option (List UInt8):=(kY k_ 8).bind fun r1=>
 if 0≤r1 then
 if r1<(NK.length:Int) then
 some (NK.getD r1.toNat []) else none else none
theorem Xk:ax Tryz.prog S (MN (qM)):=
 bp pk [Cd kY] ⟨Hu,trivial⟩ Tryz.func37 (by kernel_rfl) (fun _=>by kernel_rfl) (by kernel_rfl)
abbrev Cb:=a_→aV→Int→Option (List ah×a_)
abbrev yG (f:Cb):Entry S:=⟨16,[Bb,Gy,q1],[pF],fun x=>f x.1 x.2.1 x.2.2⟩
def aQ (aE:Cb):Nat→(List Int)→Int→Int→(List (List UInt8))→(List (List UInt8))→(List (List UInt8))→(List (List UInt8))→(List ah)→Int→Option (List ah×a_)
 | 0,_,_,_,_,_,_,_,_,_=>none
 | k+1,fY,fX,deep,aD,aB,ay,aC,out,n=>if 0<n then
  (bK (a_.mk fY fX) 10).bind fun r2=>
  (Cc r2.2 (aV.mk aD aB ay aC) 2).bind fun r3=>
  if r2.1<3 then
  if 0<(aD.length:Int) then
  (fq r3.2 aD []).bind fun r4=>
  if (out.length+ [ah.mk 1 r4.1 [] [r3.1] 0 [] [] 0].length)*128≤140737488355328 then
  aQ aE k r4.2.L r4.2.At deep aD aB ay aC (out++ [ah.mk 1 r4.1 [] [r3.1] 0 [] [] 0]) (ag (n - 1)) else none else
  if r2.1=3 then
  (bK r3.2 8).bind fun r5=>
  (qM r5.1).bind fun r6=>
  (bK r5.2 2).bind fun r7=>
  if 0≤r7.1 then
  if r7.1≤([r3.1].length:Int) then
  if (out.length+ [ah.mk 2 [] r6 (cut [r3.1] 0 r7.1) 0 [] [] 0].length)*128≤140737488355328 then
  aQ aE k r7.2.L r7.2.At deep aD aB ay aC (out++ [ah.mk 2 [] r6 (cut [r3.1] 0 r7.1) 0 [] [] 0]) (ag (n - 1)) else none else none else none else
  if r2.1<7 then
  if 0<(aB.length:Int) then
  (fq r3.2 aB []).bind fun r8=>
  (bK r8.2 3).bind fun r9=>
  (qM r9.1).bind fun bJ=>
  (bK r9.2 2).bind fun bU=>
  if 0≤bU.1 then
  if bU.1≤([r3.1].length:Int) then
  if (out.length+ [ah.mk 3 r8.1 bJ (cut [r3.1] 0 bU.1) 0 [] [] 0].length)*128≤140737488355328 then
  aQ aE k bU.2.L bU.2.At deep aD aB ay aC (out++ [ah.mk 3 r8.1 bJ (cut [r3.1] 0 bU.1) 0 [] [] 0]) (ag (n - 1)) else none else none else none else
  if r2.1=7 then
  if 0<(ay.length:Int) then
  (fq r3.2 ay []).bind fun bS=>
  (bK bS.2 3).bind fun bY=>
  if (out.length+ [ah.mk 4 bS.1 [] [ai.mk 1 (ag (1+bY.1)) [] [] 0] 0 [] [] 0].length)*128≤140737488355328 then
  aQ aE k bY.2.L bY.2.At deep aD aB ay aC (out++ [ah.mk 4 bS.1 [] [ai.mk 1 (ag (1+bY.1)) [] [] 0] 0 [] [] 0]) (ag (n - 1)) else none else
  if r2.1=8 then
  if 0<(ay.length:Int) then
  (fq r3.2 ay []).bind fun bB=>
  if (out.length+ [ah.mk 5 bB.1 [] [] 0 [] [] 0].length)*128≤140737488355328 then
  aQ aE k bB.2.L bB.2.At deep aD aB ay aC (out++ [ah.mk 5 bB.1 [] [] 0 [] [] 0]) (ag (n - 1)) else none else
  if 0<deep then
  if ¬ (2:Int)=0 then
  if (r2.1.tmod 2)=0 then
  (aE r3.2 (aV.mk aD aB ay aC) (ag (deep - 1))).bind fun dw=>
  (aE dw.2 (aV.mk aD aB ay aC) (ag (deep - 1))).bind fun r16=>
  if (out.length+ [ah.mk 6 [] [] [r3.1] 0 dw.1 r16.1 0].length)*128≤140737488355328 then
  aQ aE k r16.2.L r16.2.At deep aD aB ay aC (out++ [ah.mk 6 [] [] [r3.1] 0 dw.1 r16.1 0]) (ag (n - 1)) else none else
  if 0<deep then
  (bK r3.2 4).bind fun hJ=>
  (aE hJ.2 (aV.mk aD aB ay aC) (ag (deep - 1))).bind fun iM=>
  if (out.length+ [ah.mk 7 [] [] [] (ag (1+hJ.1)) iM.1 [] 0].length)*128≤140737488355328 then
  aQ aE k iM.2.L iM.2.At deep aD aB ay aC (out++ [ah.mk 7 [] [] [] (ag (1+hJ.1)) iM.1 [] 0]) (ag (n - 1)) else none else
  aQ aE k r3.2.L r3.2.At deep aD aB ay aC out (ag (n - 1)) else none else
  if 0<deep then
  (bK r3.2 4).bind fun lR=>
  (aE lR.2 (aV.mk aD aB ay aC) (ag (deep - 1))).bind fun kU=>
  if (out.length+ [ah.mk 7 [] [] [] (ag (1+lR.1)) kU.1 [] 0].length)*128≤140737488355328 then
  aQ aE k kU.2.L kU.2.At deep aD aB ay aC (out++ [ah.mk 7 [] [] [] (ag (1+lR.1)) kU.1 [] 0]) (ag (n - 1)) else none else
  aQ aE k r3.2.L r3.2.At deep aD aB ay aC out (ag (n - 1)) else
  if 0<deep then
  if ¬ (2:Int)=0 then
  if (r2.1.tmod 2)=0 then
  (aE r3.2 (aV.mk aD aB ay aC) (ag (deep - 1))).bind fun kA=>
  (aE kA.2 (aV.mk aD aB ay aC) (ag (deep - 1))).bind fun lS=>
  if (out.length+ [ah.mk 6 [] [] [r3.1] 0 kA.1 lS.1 0].length)*128≤140737488355328 then
  aQ aE k lS.2.L lS.2.At deep aD aB ay aC (out++ [ah.mk 6 [] [] [r3.1] 0 kA.1 lS.1 0]) (ag (n - 1)) else none else
  if 0<deep then
  (bK r3.2 4).bind fun jn=>
  (aE jn.2 (aV.mk aD aB ay aC) (ag (deep - 1))).bind fun eo=>
  if (out.length+ [ah.mk 7 [] [] [] (ag (1+jn.1)) eo.1 [] 0].length)*128≤140737488355328 then
  aQ aE k eo.2.L eo.2.At deep aD aB ay aC (out++ [ah.mk 7 [] [] [] (ag (1+jn.1)) eo.1 [] 0]) (ag (n - 1)) else none else
  aQ aE k r3.2.L r3.2.At deep aD aB ay aC out (ag (n - 1)) else none else
  if 0<deep then
  (bK r3.2 4).bind fun ov=>
  (aE ov.2 (aV.mk aD aB ay aC) (ag (deep - 1))).bind fun qI=>
  if (out.length+ [ah.mk 7 [] [] [] (ag (1+ov.1)) qI.1 [] 0].length)*128≤140737488355328 then
  aQ aE k qI.2.L qI.2.At deep aD aB ay aC (out++ [ah.mk 7 [] [] [] (ag (1+ov.1)) qI.1 [] 0]) (ag (n - 1)) else none else
  aQ aE k r3.2.L r3.2.At deep aD aB ay aC out (ag (n - 1)) else
  if r2.1=8 then
  if 0<(ay.length:Int) then
  (fq r3.2 ay []).bind fun mZ=>
  if (out.length+ [ah.mk 5 mZ.1 [] [] 0 [] [] 0].length)*128≤140737488355328 then
  aQ aE k mZ.2.L mZ.2.At deep aD aB ay aC (out++ [ah.mk 5 mZ.1 [] [] 0 [] [] 0]) (ag (n - 1)) else none else
  if 0<deep then
  if ¬ (2:Int)=0 then
  if (r2.1.tmod 2)=0 then
  (aE r3.2 (aV.mk aD aB ay aC) (ag (deep - 1))).bind fun jM=>
  (aE jM.2 (aV.mk aD aB ay aC) (ag (deep - 1))).bind fun m_=>
  if (out.length+ [ah.mk 6 [] [] [r3.1] 0 jM.1 m_.1 0].length)*128≤140737488355328 then
  aQ aE k m_.2.L m_.2.At deep aD aB ay aC (out++ [ah.mk 6 [] [] [r3.1] 0 jM.1 m_.1 0]) (ag (n - 1)) else none else
  if 0<deep then
  (bK r3.2 4).bind fun ow=>
  (aE ow.2 (aV.mk aD aB ay aC) (ag (deep - 1))).bind fun u0=>
  if (out.length+ [ah.mk 7 [] [] [] (ag (1+ow.1)) u0.1 [] 0].length)*128≤140737488355328 then
  aQ aE k u0.2.L u0.2.At deep aD aB ay aC (out++ [ah.mk 7 [] [] [] (ag (1+ow.1)) u0.1 [] 0]) (ag (n - 1)) else none else
  aQ aE k r3.2.L r3.2.At deep aD aB ay aC out (ag (n - 1)) else none else
  if 0<deep then
  (bK r3.2 4).bind fun r32=>
  (aE r32.2 (aV.mk aD aB ay aC) (ag (deep - 1))).bind fun u6=>
  if (out.length+ [ah.mk 7 [] [] [] (ag (1+r32.1)) u6.1 [] 0].length)*128≤140737488355328 then
  aQ aE k u6.2.L u6.2.At deep aD aB ay aC (out++ [ah.mk 7 [] [] [] (ag (1+r32.1)) u6.1 [] 0]) (ag (n - 1)) else none else
  aQ aE k r3.2.L r3.2.At deep aD aB ay aC out (ag (n - 1)) else
  if 0<deep then
  if ¬ (2:Int)=0 then
  if (r2.1.tmod 2)=0 then
  (aE r3.2 (aV.mk aD aB ay aC) (ag (deep - 1))).bind fun yq=>
  (aE yq.2 (aV.mk aD aB ay aC) (ag (deep - 1))).bind fun u7=>
  if (out.length+ [ah.mk 6 [] [] [r3.1] 0 yq.1 u7.1 0].length)*128≤140737488355328 then
  aQ aE k u7.2.L u7.2.At deep aD aB ay aC (out++ [ah.mk 6 [] [] [r3.1] 0 yq.1 u7.1 0]) (ag (n - 1)) else none else
  if 0<deep then
  (bK r3.2 4).bind fun yt=>
  (aE yt.2 (aV.mk aD aB ay aC) (ag (deep - 1))).bind fun qJ=>
  if (out.length+ [ah.mk 7 [] [] [] (ag (1+yt.1)) qJ.1 [] 0].length)*128≤140737488355328 then
  aQ aE k qJ.2.L qJ.2.At deep aD aB ay aC (out++ [ah.mk 7 [] [] [] (ag (1+yt.1)) qJ.1 [] 0]) (ag (n - 1)) else none else
  aQ aE k r3.2.L r3.2.At deep aD aB ay aC out (ag (n - 1)) else none else
  if 0<deep then
  (bK r3.2 4).bind fun yu=>
  (aE yu.2 (aV.mk aD aB ay aC) (ag (deep - 1))).bind fun u_=>
  if (out.length+ [ah.mk 7 [] [] [] (ag (1+yu.1)) u_.1 [] 0].length)*128≤140737488355328 then
  aQ aE k u_.2.L u_.2.At deep aD aB ay aC (out++ [ah.mk 7 [] [] [] (ag (1+yu.1)) u_.1 [] 0]) (ag (n - 1)) else none else
  aQ aE k r3.2.L r3.2.At deep aD aB ay aC out (ag (n - 1)) else
  if r2.1=7 then
  if 0<(ay.length:Int) then
  (fq r3.2 ay []).bind fun yw=>
  (bK yw.2 3).bind fun Bu=>
  if (out.length+ [ah.mk 4 yw.1 [] [ai.mk 1 (ag (1+Bu.1)) [] [] 0] 0 [] [] 0].length)*128≤140737488355328 then
  aQ aE k Bu.2.L Bu.2.At deep aD aB ay aC (out++ [ah.mk 4 yw.1 [] [ai.mk 1 (ag (1+Bu.1)) [] [] 0] 0 [] [] 0]) (ag (n - 1)) else none else
  if r2.1=8 then
  if 0<(ay.length:Int) then
  (fq r3.2 ay []).bind fun Bv=>
  if (out.length+ [ah.mk 5 Bv.1 [] [] 0 [] [] 0].length)*128≤140737488355328 then
  aQ aE k Bv.2.L Bv.2.At deep aD aB ay aC (out++ [ah.mk 5 Bv.1 [] [] 0 [] [] 0]) (ag (n - 1)) else none else
  if 0<deep then
  if ¬ (2:Int)=0 then
  if (r2.1.tmod 2)=0 then
  (aE r3.2 (aV.mk aD aB ay aC) (ag (deep - 1))).bind fun GR=>
  (aE GR.2 (aV.mk aD aB ay aC) (ag (deep - 1))).bind fun Bw=>
  if (out.length+ [ah.mk 6 [] [] [r3.1] 0 GR.1 Bw.1 0].length)*128≤140737488355328 then
  aQ aE k Bw.2.L Bw.2.At deep aD aB ay aC (out++ [ah.mk 6 [] [] [r3.1] 0 GR.1 Bw.1 0]) (ag (n - 1)) else none else
  if 0<deep then
  (bK r3.2 4).bind fun GS=>
  (aE GS.2 (aV.mk aD aB ay aC) (ag (deep - 1))).bind fun By=>
  if (out.length+ [ah.mk 7 [] [] [] (ag (1+GS.1)) By.1 [] 0].length)*128≤140737488355328 then
  aQ aE k By.2.L By.2.At deep aD aB ay aC (out++ [ah.mk 7 [] [] [] (ag (1+GS.1)) By.1 [] 0]) (ag (n - 1)) else none else
  aQ aE k r3.2.L r3.2.At deep aD aB ay aC out (ag (n - 1)) else none else
  if 0<deep then
  (bK r3.2 4).bind fun GU=>
  (aE GU.2 (aV.mk aD aB ay aC) (ag (deep - 1))).bind fun Bz=>
  if (out.length+ [ah.mk 7 [] [] [] (ag (1+GU.1)) Bz.1 [] 0].length)*128≤140737488355328 then
  aQ aE k Bz.2.L Bz.2.At deep aD aB ay aC (out++ [ah.mk 7 [] [] [] (ag (1+GU.1)) Bz.1 [] 0]) (ag (n - 1)) else none else
  aQ aE k r3.2.L r3.2.At deep aD aB ay aC out (ag (n - 1)) else
  if 0<deep then
  if ¬ (2:Int)=0 then
  if (r2.1.tmod 2)=0 then
  (aE r3.2 (aV.mk aD aB ay aC) (ag (deep - 1))).bind fun GV=>
  (aE GV.2 (aV.mk aD aB ay aC) (ag (deep - 1))).bind fun ox=>
  if (out.length+ [ah.mk 6 [] [] [r3.1] 0 GV.1 ox.1 0].length)*128≤140737488355328 then
  aQ aE k ox.2.L ox.2.At deep aD aB ay aC (out++ [ah.mk 6 [] [] [r3.1] 0 GV.1 ox.1 0]) (ag (n - 1)) else none else
  if 0<deep then
  (bK r3.2 4).bind fun GW=>
  (aE GW.2 (aV.mk aD aB ay aC) (ag (deep - 1))).bind fun BA=>
  if (out.length+ [ah.mk 7 [] [] [] (ag (1+GW.1)) BA.1 [] 0].length)*128≤140737488355328 then
  aQ aE k BA.2.L BA.2.At deep aD aB ay aC (out++ [ah.mk 7 [] [] [] (ag (1+GW.1)) BA.1 [] 0]) (ag (n - 1)) else none else
  aQ aE k r3.2.L r3.2.At deep aD aB ay aC out (ag (n - 1)) else none else
  if 0<deep then
  (bK r3.2 4).bind fun GX=>
  (aE GX.2 (aV.mk aD aB ay aC) (ag (deep - 1))).bind fun BB=>
  if (out.length+ [ah.mk 7 [] [] [] (ag (1+GX.1)) BB.1 [] 0].length)*128≤140737488355328 then
  aQ aE k BB.2.L BB.2.At deep aD aB ay aC (out++ [ah.mk 7 [] [] [] (ag (1+GX.1)) BB.1 [] 0]) (ag (n - 1)) else none else
  aQ aE k r3.2.L r3.2.At deep aD aB ay aC out (ag (n - 1)) else
  if r2.1=8 then
  if 0<(ay.length:Int) then
  (fq r3.2 ay []).bind fun BC=>
  if (out.length+ [ah.mk 5 BC.1 [] [] 0 [] [] 0].length)*128≤140737488355328 then
  aQ aE k BC.2.L BC.2.At deep aD aB ay aC (out++ [ah.mk 5 BC.1 [] [] 0 [] [] 0]) (ag (n - 1)) else none else
  if 0<deep then
  if ¬ (2:Int)=0 then
  if (r2.1.tmod 2)=0 then
  (aE r3.2 (aV.mk aD aB ay aC) (ag (deep - 1))).bind fun GY=>
  (aE GY.2 (aV.mk aD aB ay aC) (ag (deep - 1))).bind fun BD=>
  if (out.length+ [ah.mk 6 [] [] [r3.1] 0 GY.1 BD.1 0].length)*128≤140737488355328 then
  aQ aE k BD.2.L BD.2.At deep aD aB ay aC (out++ [ah.mk 6 [] [] [r3.1] 0 GY.1 BD.1 0]) (ag (n - 1)) else none else
  if 0<deep then
  (bK r3.2 4).bind fun qK=>
  (aE qK.2 (aV.mk aD aB ay aC) (ag (deep - 1))).bind fun BE=>
  if (out.length+ [ah.mk 7 [] [] [] (ag (1+qK.1)) BE.1 [] 0].length)*128≤140737488355328 then
  aQ aE k BE.2.L BE.2.At deep aD aB ay aC (out++ [ah.mk 7 [] [] [] (ag (1+qK.1)) BE.1 [] 0]) (ag (n - 1)) else none else
  aQ aE k r3.2.L r3.2.At deep aD aB ay aC out (ag (n - 1)) else none else
  if 0<deep then
  (bK r3.2 4).bind fun GZ=>
  (aE GZ.2 (aV.mk aD aB ay aC) (ag (deep - 1))).bind fun BF=>
  if (out.length+ [ah.mk 7 [] [] [] (ag (1+GZ.1)) BF.1 [] 0].length)*128≤140737488355328 then
  aQ aE k BF.2.L BF.2.At deep aD aB ay aC (out++ [ah.mk 7 [] [] [] (ag (1+GZ.1)) BF.1 [] 0]) (ag (n - 1)) else none else
  aQ aE k r3.2.L r3.2.At deep aD aB ay aC out (ag (n - 1)) else
  if 0<deep then
  if ¬ (2:Int)=0 then
  if (r2.1.tmod 2)=0 then
  (aE r3.2 (aV.mk aD aB ay aC) (ag (deep - 1))).bind fun G0=>
  (aE G0.2 (aV.mk aD aB ay aC) (ag (deep - 1))).bind fun BG=>
  if (out.length+ [ah.mk 6 [] [] [r3.1] 0 G0.1 BG.1 0].length)*128≤140737488355328 then
  aQ aE k BG.2.L BG.2.At deep aD aB ay aC (out++ [ah.mk 6 [] [] [r3.1] 0 G0.1 BG.1 0]) (ag (n - 1)) else none else
  if 0<deep then
  (bK r3.2 4).bind fun r64=>
  (aE r64.2 (aV.mk aD aB ay aC) (ag (deep - 1))).bind fun BH=>
  if (out.length+ [ah.mk 7 [] [] [] (ag (1+r64.1)) BH.1 [] 0].length)*128≤140737488355328 then
  aQ aE k BH.2.L BH.2.At deep aD aB ay aC (out++ [ah.mk 7 [] [] [] (ag (1+r64.1)) BH.1 [] 0]) (ag (n - 1)) else none else
  aQ aE k r3.2.L r3.2.At deep aD aB ay aC out (ag (n - 1)) else none else
  if 0<deep then
  (bK r3.2 4).bind fun G1=>
  (aE G1.2 (aV.mk aD aB ay aC) (ag (deep - 1))).bind fun BI=>
  if (out.length+ [ah.mk 7 [] [] [] (ag (1+G1.1)) BI.1 [] 0].length)*128≤140737488355328 then
  aQ aE k BI.2.L BI.2.At deep aD aB ay aC (out++ [ah.mk 7 [] [] [] (ag (1+G1.1)) BI.1 [] 0]) (ag (n - 1)) else none else
  aQ aE k r3.2.L r3.2.At deep aD aB ay aC out (ag (n - 1)) else
  if r2.1=3 then
  (bK r3.2 8).bind fun Mv=>
  (qM Mv.1).bind fun Mw=>
  (bK Mv.2 2).bind fun lT=>
  if 0≤lT.1 then
  if lT.1≤([r3.1].length:Int) then
  if (out.length+ [ah.mk 2 [] Mw (cut [r3.1] 0 lT.1) 0 [] [] 0].length)*128≤140737488355328 then
  aQ aE k lT.2.L lT.2.At deep aD aB ay aC (out++ [ah.mk 2 [] Mw (cut [r3.1] 0 lT.1) 0 [] [] 0]) (ag (n - 1)) else none else none else none else
  if r2.1<7 then
  if 0<(aB.length:Int) then
  (fq r3.2 aB []).bind fun G2=>
  (bK G2.2 3).bind fun vb=>
  (qM vb.1).bind fun Mx=>
  (bK vb.2 2).bind fun vc=>
  if 0≤vc.1 then
  if vc.1≤([r3.1].length:Int) then
  if (out.length+ [ah.mk 3 G2.1 Mx (cut [r3.1] 0 vc.1) 0 [] [] 0].length)*128≤140737488355328 then
  aQ aE k vc.2.L vc.2.At deep aD aB ay aC (out++ [ah.mk 3 G2.1 Mx (cut [r3.1] 0 vc.1) 0 [] [] 0]) (ag (n - 1)) else none else none else none else
  if r2.1=7 then
  if 0<(ay.length:Int) then
  (fq r3.2 ay []).bind fun G3=>
  (bK G3.2 3).bind fun BJ=>
  if (out.length+ [ah.mk 4 G3.1 [] [ai.mk 1 (ag (1+BJ.1)) [] [] 0] 0 [] [] 0].length)*128≤140737488355328 then
  aQ aE k BJ.2.L BJ.2.At deep aD aB ay aC (out++ [ah.mk 4 G3.1 [] [ai.mk 1 (ag (1+BJ.1)) [] [] 0] 0 [] [] 0]) (ag (n - 1)) else none else
  if r2.1=8 then
  if 0<(ay.length:Int) then
  (fq r3.2 ay []).bind fun BK=>
  if (out.length+ [ah.mk 5 BK.1 [] [] 0 [] [] 0].length)*128≤140737488355328 then
  aQ aE k BK.2.L BK.2.At deep aD aB ay aC (out++ [ah.mk 5 BK.1 [] [] 0 [] [] 0]) (ag (n - 1)) else none else
  if 0<deep then
  if ¬ (2:Int)=0 then
  if (r2.1.tmod 2)=0 then
  (aE r3.2 (aV.mk aD aB ay aC) (ag (deep - 1))).bind fun G4=>
  (aE G4.2 (aV.mk aD aB ay aC) (ag (deep - 1))).bind fun BL=>
  if (out.length+ [ah.mk 6 [] [] [r3.1] 0 G4.1 BL.1 0].length)*128≤140737488355328 then
  aQ aE k BL.2.L BL.2.At deep aD aB ay aC (out++ [ah.mk 6 [] [] [r3.1] 0 G4.1 BL.1 0]) (ag (n - 1)) else none else
  if 0<deep then
  (bK r3.2 4).bind fun G5=>
  (aE G5.2 (aV.mk aD aB ay aC) (ag (deep - 1))).bind fun BM=>
  if (out.length+ [ah.mk 7 [] [] [] (ag (1+G5.1)) BM.1 [] 0].length)*128≤140737488355328 then
  aQ aE k BM.2.L BM.2.At deep aD aB ay aC (out++ [ah.mk 7 [] [] [] (ag (1+G5.1)) BM.1 [] 0]) (ag (n - 1)) else none else
  aQ aE k r3.2.L r3.2.At deep aD aB ay aC out (ag (n - 1)) else none else
  if 0<deep then
  (bK r3.2 4).bind fun G6=>
  (aE G6.2 (aV.mk aD aB ay aC) (ag (deep - 1))).bind fun BN=>
  if (out.length+ [ah.mk 7 [] [] [] (ag (1+G6.1)) BN.1 [] 0].length)*128≤140737488355328 then
  aQ aE k BN.2.L BN.2.At deep aD aB ay aC (out++ [ah.mk 7 [] [] [] (ag (1+G6.1)) BN.1 [] 0]) (ag (n - 1)) else none else
  aQ aE k r3.2.L r3.2.At deep aD aB ay aC out (ag (n - 1)) else
  if 0<deep then
  if ¬ (2:Int)=0 then
  if (r2.1.tmod 2)=0 then
  (aE r3.2 (aV.mk aD aB ay aC) (ag (deep - 1))).bind fun G7=>
  (aE G7.2 (aV.mk aD aB ay aC) (ag (deep - 1))).bind fun BO=>
  if (out.length+ [ah.mk 6 [] [] [r3.1] 0 G7.1 BO.1 0].length)*128≤140737488355328 then
  aQ aE k BO.2.L BO.2.At deep aD aB ay aC (out++ [ah.mk 6 [] [] [r3.1] 0 G7.1 BO.1 0]) (ag (n - 1)) else none else
  if 0<deep then
  (bK r3.2 4).bind fun G8=>
  (aE G8.2 (aV.mk aD aB ay aC) (ag (deep - 1))).bind fun BP=>
  if (out.length+ [ah.mk 7 [] [] [] (ag (1+G8.1)) BP.1 [] 0].length)*128≤140737488355328 then
  aQ aE k BP.2.L BP.2.At deep aD aB ay aC (out++ [ah.mk 7 [] [] [] (ag (1+G8.1)) BP.1 [] 0]) (ag (n - 1)) else none else
  aQ aE k r3.2.L r3.2.At deep aD aB ay aC out (ag (n - 1)) else none else
  if 0<deep then
  (bK r3.2 4).bind fun G9=>
  (aE G9.2 (aV.mk aD aB ay aC) (ag (deep - 1))).bind fun BQ=>
  if (out.length+ [ah.mk 7 [] [] [] (ag (1+G9.1)) BQ.1 [] 0].length)*128≤140737488355328 then
  aQ aE k BQ.2.L BQ.2.At deep aD aB ay aC (out++ [ah.mk 7 [] [] [] (ag (1+G9.1)) BQ.1 [] 0]) (ag (n - 1)) else none else
  aQ aE k r3.2.L r3.2.At deep aD aB ay aC out (ag (n - 1)) else
  if r2.1=8 then
  if 0<(ay.length:Int) then
  (fq r3.2 ay []).bind fun BR=>
  if (out.length+ [ah.mk 5 BR.1 [] [] 0 [] [] 0].length)*128≤140737488355328 then
  aQ aE k BR.2.L BR.2.At deep aD aB ay aC (out++ [ah.mk 5 BR.1 [] [] 0 [] [] 0]) (ag (n - 1)) else none else
  if 0<deep then
  if ¬ (2:Int)=0 then
  if (r2.1.tmod 2)=0 then
  (aE r3.2 (aV.mk aD aB ay aC) (ag (deep - 1))).bind fun G_=>
  (aE G_.2 (aV.mk aD aB ay aC) (ag (deep - 1))).bind fun BT=>
  if (out.length+ [ah.mk 6 [] [] [r3.1] 0 G_.1 BT.1 0].length)*128≤140737488355328 then
  aQ aE k BT.2.L BT.2.At deep aD aB ay aC (out++ [ah.mk 6 [] [] [r3.1] 0 G_.1 BT.1 0]) (ag (n - 1)) else none else
  if 0<deep then
  (bK r3.2 4).bind fun He=>
  (aE He.2 (aV.mk aD aB ay aC) (ag (deep - 1))).bind fun BU=>
  if (out.length+ [ah.mk 7 [] [] [] (ag (1+He.1)) BU.1 [] 0].length)*128≤140737488355328 then
  aQ aE k BU.2.L BU.2.At deep aD aB ay aC (out++ [ah.mk 7 [] [] [] (ag (1+He.1)) BU.1 [] 0]) (ag (n - 1)) else none else
  aQ aE k r3.2.L r3.2.At deep aD aB ay aC out (ag (n - 1)) else none else
  if 0<deep then
  (bK r3.2 4).bind fun Hf=>
  (aE Hf.2 (aV.mk aD aB ay aC) (ag (deep - 1))).bind fun BV=>
  if (out.length+ [ah.mk 7 [] [] [] (ag (1+Hf.1)) BV.1 [] 0].length)*128≤140737488355328 then
  aQ aE k BV.2.L BV.2.At deep aD aB ay aC (out++ [ah.mk 7 [] [] [] (ag (1+Hf.1)) BV.1 [] 0]) (ag (n - 1)) else none else
  aQ aE k r3.2.L r3.2.At deep aD aB ay aC out (ag (n - 1)) else
  if 0<deep then
  if ¬ (2:Int)=0 then
  if (r2.1.tmod 2)=0 then
  (aE r3.2 (aV.mk aD aB ay aC) (ag (deep - 1))).bind fun Hg=>
  (aE Hg.2 (aV.mk aD aB ay aC) (ag (deep - 1))).bind fun BW=>
  if (out.length+ [ah.mk 6 [] [] [r3.1] 0 Hg.1 BW.1 0].length)*128≤140737488355328 then
  aQ aE k BW.2.L BW.2.At deep aD aB ay aC (out++ [ah.mk 6 [] [] [r3.1] 0 Hg.1 BW.1 0]) (ag (n - 1)) else none else
  if 0<deep then
  (bK r3.2 4).bind fun Hh=>
  (aE Hh.2 (aV.mk aD aB ay aC) (ag (deep - 1))).bind fun Bd=>
  if (out.length+ [ah.mk 7 [] [] [] (ag (1+Hh.1)) Bd.1 [] 0].length)*128≤140737488355328 then
  aQ aE k Bd.2.L Bd.2.At deep aD aB ay aC (out++ [ah.mk 7 [] [] [] (ag (1+Hh.1)) Bd.1 [] 0]) (ag (n - 1)) else none else
  aQ aE k r3.2.L r3.2.At deep aD aB ay aC out (ag (n - 1)) else none else
  if 0<deep then
  (bK r3.2 4).bind fun GC=>
  (aE GC.2 (aV.mk aD aB ay aC) (ag (deep - 1))).bind fun Be=>
  if (out.length+ [ah.mk 7 [] [] [] (ag (1+GC.1)) Be.1 [] 0].length)*128≤140737488355328 then
  aQ aE k Be.2.L Be.2.At deep aD aB ay aC (out++ [ah.mk 7 [] [] [] (ag (1+GC.1)) Be.1 [] 0]) (ag (n - 1)) else none else
  aQ aE k r3.2.L r3.2.At deep aD aB ay aC out (ag (n - 1)) else
  if r2.1=7 then
  if 0<(ay.length:Int) then
  (fq r3.2 ay []).bind fun GD=>
  (bK GD.2 3).bind fun Bf=>
  if (out.length+ [ah.mk 4 GD.1 [] [ai.mk 1 (ag (1+Bf.1)) [] [] 0] 0 [] [] 0].length)*128≤140737488355328 then
  aQ aE k Bf.2.L Bf.2.At deep aD aB ay aC (out++ [ah.mk 4 GD.1 [] [ai.mk 1 (ag (1+Bf.1)) [] [] 0] 0 [] [] 0]) (ag (n - 1)) else none else
  if r2.1=8 then
  if 0<(ay.length:Int) then
  (fq r3.2 ay []).bind fun Bg=>
  if (out.length+ [ah.mk 5 Bg.1 [] [] 0 [] [] 0].length)*128≤140737488355328 then
  aQ aE k Bg.2.L Bg.2.At deep aD aB ay aC (out++ [ah.mk 5 Bg.1 [] [] 0 [] [] 0]) (ag (n - 1)) else none else
  if 0<deep then
  if ¬ (2:Int)=0 then
  if (r2.1.tmod 2)=0 then
  (aE r3.2 (aV.mk aD aB ay aC) (ag (deep - 1))).bind fun GF=>
  (aE GF.2 (aV.mk aD aB ay aC) (ag (deep - 1))).bind fun Bh=>
  if (out.length+ [ah.mk 6 [] [] [r3.1] 0 GF.1 Bh.1 0].length)*128≤140737488355328 then
  aQ aE k Bh.2.L Bh.2.At deep aD aB ay aC (out++ [ah.mk 6 [] [] [r3.1] 0 GF.1 Bh.1 0]) (ag (n - 1)) else none else
  if 0<deep then
  (bK r3.2 4).bind fun GG=>
  (aE GG.2 (aV.mk aD aB ay aC) (ag (deep - 1))).bind fun Bi=>
  if (out.length+ [ah.mk 7 [] [] [] (ag (1+GG.1)) Bi.1 [] 0].length)*128≤140737488355328 then
  aQ aE k Bi.2.L Bi.2.At deep aD aB ay aC (out++ [ah.mk 7 [] [] [] (ag (1+GG.1)) Bi.1 [] 0]) (ag (n - 1)) else none else
  aQ aE k r3.2.L r3.2.At deep aD aB ay aC out (ag (n - 1)) else none else
  if 0<deep then
  (bK r3.2 4).bind fun GH=>
  (aE GH.2 (aV.mk aD aB ay aC) (ag (deep - 1))).bind fun Bj=>
  if (out.length+ [ah.mk 7 [] [] [] (ag (1+GH.1)) Bj.1 [] 0].length)*128≤140737488355328 then
  aQ aE k Bj.2.L Bj.2.At deep aD aB ay aC (out++ [ah.mk 7 [] [] [] (ag (1+GH.1)) Bj.1 [] 0]) (ag (n - 1)) else none else
  aQ aE k r3.2.L r3.2.At deep aD aB ay aC out (ag (n - 1)) else
  if 0<deep then
  if ¬ (2:Int)=0 then
  if (r2.1.tmod 2)=0 then
  (aE r3.2 (aV.mk aD aB ay aC) (ag (deep - 1))).bind fun GI=>
  (aE GI.2 (aV.mk aD aB ay aC) (ag (deep - 1))).bind fun Bk=>
  if (out.length+ [ah.mk 6 [] [] [r3.1] 0 GI.1 Bk.1 0].length)*128≤140737488355328 then
  aQ aE k Bk.2.L Bk.2.At deep aD aB ay aC (out++ [ah.mk 6 [] [] [r3.1] 0 GI.1 Bk.1 0]) (ag (n - 1)) else none else
  if 0<deep then
  (bK r3.2 4).bind fun GJ=>
  (aE GJ.2 (aV.mk aD aB ay aC) (ag (deep - 1))).bind fun Bl=>
  if (out.length+ [ah.mk 7 [] [] [] (ag (1+GJ.1)) Bl.1 [] 0].length)*128≤140737488355328 then
  aQ aE k Bl.2.L Bl.2.At deep aD aB ay aC (out++ [ah.mk 7 [] [] [] (ag (1+GJ.1)) Bl.1 [] 0]) (ag (n - 1)) else none else
  aQ aE k r3.2.L r3.2.At deep aD aB ay aC out (ag (n - 1)) else none else
  if 0<deep then
  (bK r3.2 4).bind fun GK=>
  (aE GK.2 (aV.mk aD aB ay aC) (ag (deep - 1))).bind fun Bm=>
  if (out.length+ [ah.mk 7 [] [] [] (ag (1+GK.1)) Bm.1 [] 0].length)*128≤140737488355328 then
  aQ aE k Bm.2.L Bm.2.At deep aD aB ay aC (out++ [ah.mk 7 [] [] [] (ag (1+GK.1)) Bm.1 [] 0]) (ag (n - 1)) else none else
  aQ aE k r3.2.L r3.2.At deep aD aB ay aC out (ag (n - 1)) else
  if r2.1=8 then
  if 0<(ay.length:Int) then
  (fq r3.2 ay []).bind fun Bn=>
  if (out.length+ [ah.mk 5 Bn.1 [] [] 0 [] [] 0].length)*128≤140737488355328 then
  aQ aE k Bn.2.L Bn.2.At deep aD aB ay aC (out++ [ah.mk 5 Bn.1 [] [] 0 [] [] 0]) (ag (n - 1)) else none else
  if 0<deep then
  if ¬ (2:Int)=0 then
  if (r2.1.tmod 2)=0 then
  (aE r3.2 (aV.mk aD aB ay aC) (ag (deep - 1))).bind fun GL=>
  (aE GL.2 (aV.mk aD aB ay aC) (ag (deep - 1))).bind fun Bo=>
  if (out.length+ [ah.mk 6 [] [] [r3.1] 0 GL.1 Bo.1 0].length)*128≤140737488355328 then
  aQ aE k Bo.2.L Bo.2.At deep aD aB ay aC (out++ [ah.mk 6 [] [] [r3.1] 0 GL.1 Bo.1 0]) (ag (n - 1)) else none else
  if 0<deep then
  (bK r3.2 4).bind fun GM=>
  (aE GM.2 (aV.mk aD aB ay aC) (ag (deep - 1))).bind fun Bp=>
  if (out.length+ [ah.mk 7 [] [] [] (ag (1+GM.1)) Bp.1 [] 0].length)*128≤140737488355328 then
  aQ aE k Bp.2.L Bp.2.At deep aD aB ay aC (out++ [ah.mk 7 [] [] [] (ag (1+GM.1)) Bp.1 [] 0]) (ag (n - 1)) else none else
  aQ aE k r3.2.L r3.2.At deep aD aB ay aC out (ag (n - 1)) else none else
  if 0<deep then
  (bK r3.2 4).bind fun GN=>
  (aE GN.2 (aV.mk aD aB ay aC) (ag (deep - 1))).bind fun Bq=>
  if (out.length+ [ah.mk 7 [] [] [] (ag (1+GN.1)) Bq.1 [] 0].length)*128≤140737488355328 then
  aQ aE k Bq.2.L Bq.2.At deep aD aB ay aC (out++ [ah.mk 7 [] [] [] (ag (1+GN.1)) Bq.1 [] 0]) (ag (n - 1)) else none else
  aQ aE k r3.2.L r3.2.At deep aD aB ay aC out (ag (n - 1)) else
  if 0<deep then
  if ¬ (2:Int)=0 then
  if (r2.1.tmod 2)=0 then
  (aE r3.2 (aV.mk aD aB ay aC) (ag (deep - 1))).bind fun GO=>
  (aE GO.2 (aV.mk aD aB ay aC) (ag (deep - 1))).bind fun Br=>
  if (out.length+ [ah.mk 6 [] [] [r3.1] 0 GO.1 Br.1 0].length)*128≤140737488355328 then
  aQ aE k Br.2.L Br.2.At deep aD aB ay aC (out++ [ah.mk 6 [] [] [r3.1] 0 GO.1 Br.1 0]) (ag (n - 1)) else none else
  if 0<deep then
  (bK r3.2 4).bind fun GP=>
  (aE GP.2 (aV.mk aD aB ay aC) (ag (deep - 1))).bind fun Bs=>
  if (out.length+ [ah.mk 7 [] [] [] (ag (1+GP.1)) Bs.1 [] 0].length)*128≤140737488355328 then
  aQ aE k Bs.2.L Bs.2.At deep aD aB ay aC (out++ [ah.mk 7 [] [] [] (ag (1+GP.1)) Bs.1 [] 0]) (ag (n - 1)) else none else
  aQ aE k r3.2.L r3.2.At deep aD aB ay aC out (ag (n - 1)) else none else
  if 0<deep then
  (bK r3.2 4).bind fun GQ=>
  (aE GQ.2 (aV.mk aD aB ay aC) (ag (deep - 1))).bind fun Bt=>
  if (out.length+ [ah.mk 7 [] [] [] (ag (1+GQ.1)) Bt.1 [] 0].length)*128≤140737488355328 then
  aQ aE k Bt.2.L Bt.2.At deep aD aB ay aC (out++ [ah.mk 7 [] [] [] (ag (1+GQ.1)) Bt.1 [] 0]) (ag (n - 1)) else none else
  aQ aE k r3.2.L r3.2.At deep aD aB ay aC out (ag (n - 1)) else
  some (out,a_.mk fY fX)
def Ca (aE:Cb) (k:Nat) (r_:a_) (s:aV) (deep:Int):Option (List ah×a_):=(bK r_ 3).bind fun r1=>
 aQ aE k r1.2.L r1.2.At deep s.Vars s.gO s.gE s.eV [] r1.1
def jQ:Nat→a_→aV→Int→Option (List ah×a_)
 | 0,_,_,_=>none
 | k+1,x0,x1,x2=>Ca (jQ k) k x0 x1 x2
def B_  (r_:a_) (s:aV) (deep:Int):Option (List ah×a_):=b_ (fun k (x:a_×aV×Int)=>jQ k x.1 x.2.1 x.2.2) (r_,s,deep)
theorem Xj (aE:Cb) (k:Nat) (S0:ax Tryz.prog S (yG aE)):ax Tryz.prog S (yG (Ca aE k)):=
 dD pk [Ce bK,yH Cc,Hw fq,MN qM,yG aE] ⟨Hv,Xm,MP,Xk,S0,trivial⟩ Tryz.func16 [] k (fun k=> [(0,⟨[0,2,4,7,8],[Gz,q1,GA,pF,q1],fun x=>aQ aE k x.1.1 x.1.2 x.2.1 x.2.2.1.1 x.2.2.1.2.1 x.2.2.1.2.2.1 x.2.2.1.2.2.2 x.2.2.2.1 x.2.2.2.2,false⟩)]) ⟨fun _=>rfl,trivial⟩ (fun _=>by kernel_rfl) (fun _=>by kernel_rfl) (by kernel_rfl)
theorem Xi:ax Tryz.prog S (yG (B_)):=gJ (fun k x=>jQ k x.1 x.2.1 x.2.2) (fun _=>rfl) Tryz.func16 (by kernel_rfl) (fun _=>rfl) fun k h=>Xj (jQ k) k h
abbrev XK:=(List UInt8)→Int→Option Int
abbrev MZ (f:XK):Entry S:=⟨25,[q0,q1],[q1],fun x=>f x.1 x.2⟩
mutual
def kZ:Nat→(List UInt8)→Int→Option Int
 | 0,_,_=>none
 | k+1,s,i=>if i<(s.length:Int) then
  if 0≤i then
  if i<(s.length:Int) then
  if ((s.getD i.toNat 0).toNat:Int)=32 then
  kZ k s (ag (i+1)) else
  if 0≤i then
  if i<(s.length:Int) then
  if ((s.getD i.toNat 0).toNat:Int)=9 then
  kZ k s (ag (i+1)) else
  if 0≤i then
  if i<(s.length:Int) then
  if ((s.getD i.toNat 0).toNat:Int)=10 then
  kZ k s (ag (i+1)) else
  if 0≤i then
  if i<(s.length:Int) then
  if ((s.getD i.toNat 0).toNat:Int)=13 then
  kZ k s (ag (i+1)) else
  if 0≤i then
  if i<(s.length:Int) then
  if ((s.getD i.toNat 0).toNat:Int)=35 then
  qN k s i else
  some i else none else none else none else none else none else none else none else none else none else none else
  some i
def qN:Nat→(List UInt8)→Int→Option Int
 | 0,_,_=>none
 | k+1,s,i=>if i<(s.length:Int) then
  if 0≤i then
  if i<(s.length:Int) then
  if ((s.getD i.toNat 0).toNat:Int)≠10 then
  qN k s (ag (i+1)) else
  kZ k s i else none else none else
  kZ k s i
end
def MY (k:Nat) (s:List UInt8) (i:Int):Option Int:=kZ k s i
def yL  (s:List UInt8) (i:Int):Option Int:=b_ (fun k (x:List UInt8×Int)=>MY k x.1 x.2) (s,i)
theorem XJ:ax Tryz.prog S (MZ (yL)):=ir (fun k x=>MY k x.1 x.2) (fun _=>rfl) fun k=>
 dD pk [] trivial Tryz.func25 [] k (fun k=> [(0,⟨[0,1],[q0,q1],fun x=>kZ k x.1 x.2,false⟩),(2,⟨[0,1],[q0,q1],fun x=>qN k x.1 x.2,false⟩)]) ⟨fun _=>rfl,fun _=>rfl,trivial⟩ (fun _=>by kernel_rfl) (fun _=>by kernel_rfl) (by kernel_rfl)
abbrev XI:=(List UInt8)→Int→Option Int
abbrev MX (f:XI):Entry S:=⟨52,[q0,q1],[q1],fun x=>f x.1 x.2⟩
def tg:Nat→(List UInt8)→Int→(List UInt8)→Int→Option Int
 | 0,_,_,_,_=>none
 | k+1,s,i,one,k_=>if k_<(one.length:Int) then
  if 0≤i then
  if i<(s.length:Int) then
  if 0≤k_ then
  if k_<(one.length:Int) then
  if ((s.getD i.toNat 0).toNat:Int)=((one.getD k_.toNat 0).toNat:Int) then
  some 1 else
  tg k s i one (ag (k_+1)) else none else none else none else none else
  some 0
def vq:Nat→(List UInt8)→Int→(List UInt8×List UInt8×List UInt8×List UInt8×List UInt8×List UInt8×List UInt8)→Int→Option Int
 | 0,_,_,_,_=>none
 | k+1,s,i,two,k_=>if k_<7 then
  if (ag (i+1))<(s.length:Int) then
  if 0≤(ag (i+2)) then
  if (ag (i+2))≤(s.length:Int) then
  if 0≤i then
  if i≤(ag (i+2)) then
  if 0≤k_ then
  if k_<([two.1,two.2.1,two.2.2.1,two.2.2.2.1,two.2.2.2.2.1,two.2.2.2.2.2.1,two.2.2.2.2.2.2].length:Int) then
  if (cut s i (ag (i+2)))=([two.1,two.2.1,two.2.2.1,two.2.2.2.1,two.2.2.2.2.1,two.2.2.2.2.2.1,two.2.2.2.2.2.2].getD k_.toNat []) then
  some 2 else
  vq k s i two (ag (k_+1)) else none else none else none else none else none else none else
  vq k s i two (ag (k_+1)) else
  tg k s i ic 0
def Ck (k:Nat) (s:List UInt8) (i:Int):Option Int:=vq k s i D0 0
def Cj  (s:List UInt8) (i:Int):Option Int:=b_ (fun k (x:List UInt8×Int)=>Ck k x.1 x.2) (s,i)
theorem XH:ax Tryz.prog S (MX (Cj)):=ir (fun k x=>Ck k x.1 x.2) (fun _=>rfl) fun k=>
 dD pk [] trivial Tryz.func52 [] k (fun k=> [(0,⟨[0,1,5,6],[q0,q1,WM,q1],fun x=>vq k x.1 x.2.1 x.2.2.1 x.2.2.2,false⟩),(2,⟨[0,1,7,8],[q0,q1,q0,q1],fun x=>tg k x.1 x.2.1 x.2.2.1 x.2.2.2,false⟩)]) ⟨fun _=>rfl,fun _=>rfl,trivial⟩ (fun _=>by kernel_rfl) (fun _=>by kernel_rfl) (by kernel_rfl)
abbrev XM:=(List UInt8)→Option (Int×Bool)
abbrev M8 (f:XM):Entry S:=⟨51,[q0],[q1,q3],fun x=>f x⟩
def vt:Nat→(List UInt8)→Int→Int→Option (Int×Bool)
 | 0,_,_,_=>none
 | k+1,s,n,i=>if i<(s.length:Int) then
  if 0≤i then
  if i<(s.length:Int) then
  if ¬ (10:Int)=0 then
  if (ag ((ag (9223372036854775807 - (ag (Dr (((s.getD i.toNat 0).toNat:Int) - 48))))).tdiv 10))<n then
  some (0,false) else
  vt k s (ag ((ag (10*n))+(ag (Dr (((s.getD i.toNat 0).toNat:Int) - 48))))) (ag (i+1)) else none else none else none else
  some (n,true)
def M7 (k:Nat) (s:List UInt8):Option (Int×Bool):=vt k s 0 0
def oB  (s:List UInt8):Option (Int×Bool):=b_ (fun k (x:List UInt8)=>M7 k x) s
theorem XL:ax Tryz.prog S (M8 (oB)):=ir (fun k x=>M7 k x) (fun _=>rfl) fun k=>
 dD pk [] trivial Tryz.func51 [] k (fun k=> [(0,⟨[0,4,5],[q0,q1,q1],fun x=>vt k x.1 x.2.1 x.2.2,false⟩)]) ⟨fun _=>rfl,trivial⟩ (fun _=>by kernel_rfl) (fun _=>by kernel_rfl) (by kernel_rfl)
abbrev XG:=(List UInt8)→Int→Option (ak×Int)
abbrev MW (f:XG):Entry S:=⟨26,[q0,q1],[q4,q1],fun x=>f x.1 x.2⟩
def tf:Nat→(List UInt8)→Int→Int→Int→Int→(List UInt8)→Int→Int→Int→Int→Int→(List UInt8)→Int→Option (ak×Int)
 | 0,_,_,_,_,_,_,_,_,_,_,_,_,_=>none
 | k+1,s,i,nA,nw,Ds,Dt,nB,j,Df,oE,De,Dg,vU=>if j<(s.length:Int) then
  if 0≤j then
  if j<(s.length:Int) then
  (vo ((s.getD j.toNat 0).toNat:Int)).bind fun r4=>
  bif r4 then
  tf k s i nA nw Ds Dt nB (ag (j+1)) Df oE De Dg vU else
  if 0≤j then
  if j<(s.length:Int) then
  (td ((s.getD j.toNat 0).toNat:Int)).bind fun r5=>
  bif r5 then
  tf k s i nA nw Ds Dt nB (ag (j+1)) Df oE De Dg vU else
  if 24<(ag (j - i)) then
  some (ak.mk 0 0 0 [] 0,13) else
  if 0≤j then
  if j≤(s.length:Int) then
  if 0≤i then
  if i≤j then
  some (ak.mk 1 oE j (cut s i j) vU,0) else none else none else none else none else none else none else none else none else
  if 24<(ag (j - i)) then
  some (ak.mk 0 0 0 [] 0,13) else
  if 0≤j then
  if j≤(s.length:Int) then
  if 0≤i then
  if i≤j then
  some (ak.mk 1 oE j (cut s i j) vU,0) else none else none else none else none
def vp:Nat→(List UInt8)→Int→Int→Int→Int→(List UInt8)→Int→Int→Int→Int→Int→(List UInt8)→Int→Option (ak×Int)
 | 0,_,_,_,_,_,_,_,_,_,_,_,_,_=>none
 | k+1,s,i,nA,nw,Ds,Dt,nB,j,Df,oE,De,Dg,vU=>if j<(s.length:Int) then
  if 0≤j then
  if j<(s.length:Int) then
  (td ((s.getD j.toNat 0).toNat:Int)).bind fun r6=>
  bif r6 then
  vp k s i nA nw Ds Dt nB (ag (j+1)) Df oE De Dg vU else
  if 1<(ag (j - i)) then
  if 0≤i then
  if i<(s.length:Int) then
  if ((s.getD i.toNat 0).toNat:Int)=48 then
  some (ak.mk 0 0 0 [] 0,11) else
  if 0≤j then
  if j≤(s.length:Int) then
  if 0≤i then
  if i≤j then
  (oB (cut s i j)).bind fun r7=>
  bif !r7.2 then
  some (ak.mk 0 0 0 [] 0,16) else
  if 0≤j then
  if j≤(s.length:Int) then
  if 0≤i then
  if i≤j then
  some (ak.mk 2 oE j (cut s i j) r7.1,0) else none else none else none else none else none else none else none else none else none else none else
  if 0≤j then
  if j≤(s.length:Int) then
  if 0≤i then
  if i≤j then
  (oB (cut s i j)).bind fun r8=>
  bif !r8.2 then
  some (ak.mk 0 0 0 [] 0,16) else
  if 0≤j then
  if j≤(s.length:Int) then
  if 0≤i then
  if i≤j then
  some (ak.mk 2 oE j (cut s i j) r8.1,0) else none else none else none else none else none else none else none else none else none else none else
  if 1<(ag (j - i)) then
  if 0≤i then
  if i<(s.length:Int) then
  if ((s.getD i.toNat 0).toNat:Int)=48 then
  some (ak.mk 0 0 0 [] 0,11) else
  if 0≤j then
  if j≤(s.length:Int) then
  if 0≤i then
  if i≤j then
  (oB (cut s i j)).bind fun r9=>
  bif !r9.2 then
  some (ak.mk 0 0 0 [] 0,16) else
  if 0≤j then
  if j≤(s.length:Int) then
  if 0≤i then
  if i≤j then
  some (ak.mk 2 oE j (cut s i j) r9.1,0) else none else none else none else none else none else none else none else none else none else none else
  if 0≤j then
  if j≤(s.length:Int) then
  if 0≤i then
  if i≤j then
  (oB (cut s i j)).bind fun bJ=>
  bif !bJ.2 then
  some (ak.mk 0 0 0 [] 0,16) else
  if 0≤j then
  if j≤(s.length:Int) then
  if 0≤i then
  if i≤j then
  some (ak.mk 2 oE j (cut s i j) bJ.1,0) else none else none else none else none else none else none else none else none
def HA (k:Nat) (s:List UInt8) (i:Int):Option (ak×Int):=if 0≤i then
 if i<(s.length:Int) then
 (vo ((s.getD i.toNat 0).toNat:Int)).bind fun r1=>
 bif r1 then
 tf k s i 0 0 0 [] 0 i 0 i 0 [] 0 else
 if 0≤i then
 if i<(s.length:Int) then
 (td ((s.getD i.toNat 0).toNat:Int)).bind fun r2=>
 bif r2 then
 vp k s i 0 0 0 [] 0 i 0 i 0 [] 0 else
 (Cj s i).bind fun r3=>
 if r3=0 then
 some (ak.mk 0 0 0 [] 0,10) else
 if 0≤(ag (i+r3)) then
 if (ag (i+r3))≤(s.length:Int) then
 if 0≤i then
 if i≤(ag (i+r3)) then
 some (ak.mk 3 i (ag (i+r3)) (cut s i (ag (i+r3))) 0,0) else none else none else none else none else none else none else none else none
def Ci  (s:List UInt8) (i:Int):Option (ak×Int):=b_ (fun k (x:List UInt8×Int)=>HA k x.1 x.2) (s,i)
theorem XF:ax Tryz.prog S (MW (Ci)):=ir (fun k x=>HA k x.1 x.2) (fun _=>rfl) fun k=>
 dD pk [MV vo,MU td,MX Cj,M8 oB] ⟨XD,XB,XH,XL,trivial⟩ Tryz.func26 [] k (fun k=> [(0,⟨[0,1,4,6,7],[q0,q1,Bc,q1,Bc],fun x=>tf k x.1 x.2.1 x.2.2.1.1 x.2.2.1.2.1 x.2.2.1.2.2.1 x.2.2.1.2.2.2.1 x.2.2.1.2.2.2.2 x.2.2.2.1 x.2.2.2.2.1 x.2.2.2.2.2.1 x.2.2.2.2.2.2.1 x.2.2.2.2.2.2.2.1 x.2.2.2.2.2.2.2.2,false⟩),(2,⟨[0,1,4,6,7],[q0,q1,Bc,q1,Bc],fun x=>vp k x.1 x.2.1 x.2.2.1.1 x.2.2.1.2.1 x.2.2.1.2.2.1 x.2.2.1.2.2.2.1 x.2.2.1.2.2.2.2 x.2.2.2.1 x.2.2.2.2.1 x.2.2.2.2.2.1 x.2.2.2.2.2.2.1 x.2.2.2.2.2.2.2.1 x.2.2.2.2.2.2.2.2,false⟩)]) ⟨fun _=>rfl,fun _=>rfl,trivial⟩ (fun _=>by kernel_rfl) (fun _=>by kernel_rfl) (by kernel_rfl)
abbrev Xu:=(List UInt8)→Option (List ak×aL)
abbrev MQ (f:Xu):Entry S:=⟨8,[q0],[q5,q6],fun x=>f x⟩
def s_:Nat→(List UInt8)→Int→Int→(List ak)→Int→Option (List ak×aL)
 | 0,_,_,_,_,_=>none
 | k+1,s,Iy,Ix,out,i=>if i<(s.length:Int) then
  (Ci s i).bind fun r2=>
  if r2.2≠0 then
  some ([],aL.mk r2.2 i) else
  if (out.length+ [r2.1].length)*48≤140737488355328 then
  (yL s r2.1.End).bind fun r3=>
  s_ k s Iy Ix (out++ [r2.1]) r3 else none else
  if (out.length+ [ak.mk 4 (s.length:Int) (s.length:Int) [] 0].length)*48≤140737488355328 then
  some (out++ [ak.mk 4 (s.length:Int) (s.length:Int) [] 0],aL.mk 0 0) else none
def Hx (k:Nat) (s:List UInt8):Option (List ak×aL):=if 16384<(s.length:Int) then
 some ([],aL.mk 13 16384) else
 (yL s 0).bind fun r1=>
 s_ k s 0 0 [] r1
def Cf  (s:List UInt8):Option (List ak×aL):=b_ (fun k (x:List UInt8)=>Hx k x) s
theorem Xt:ax Tryz.prog S (MQ (Cf)):=ir (fun k x=>Hx k x) (fun _=>rfl) fun k=>
 dD pk [MZ yL,MW Ci] ⟨XJ,XF,trivial⟩ Tryz.func8 [] k (fun k=> [(0,⟨[0,3,4,5],[q0,q7,q5,q1],fun x=>s_ k x.1 x.2.1.1 x.2.1.2 x.2.2.1 x.2.2.2,false⟩)]) ⟨fun _=>rfl,trivial⟩ (fun _=>by kernel_rfl) (fun _=>by kernel_rfl) (by kernel_rfl)
abbrev Xw:=(List ak)→Int→(List UInt8)→Option Bool
abbrev tc (f:Xw):Entry S:=⟨59,[g_,q1,q0],[q3],fun x=>f x.1 x.2.1 x.2.2⟩
def eT  (l:List ak) (an:Int) (s:List UInt8):Option Bool:=if an<(l.length:Int) then
 if 0≤an then
 if an<(l.length:Int) then
 if ((l.getD an.toNat ak.z).Kind)=3 then
 if 0≤an then
 if an<(l.length:Int) then
 some (decide (((l.getD an.toNat ak.z).Text)=s)) else none else none else
 if 0≤an then
 if an<(l.length:Int) then
 if ((l.getD an.toNat ak.z).Kind)=1 then
 if 0≤an then
 if an<(l.length:Int) then
 some (decide (((l.getD an.toNat ak.z).Text)=s)) else none else none else
 some false else none else none else none else none else
 some false
theorem vm:ax Tryz.prog S (tc (eT)):=
 bp pk [] trivial Tryz.func59 (by kernel_rfl) (fun _=>by kernel_rfl) (by kernel_rfl)
abbrev Xv:=(List ak)→Int→Option aL
abbrev vl (f:Xv):Entry S:=⟨60,[g_,q1],[q6],fun x=>f x.1 x.2⟩
def kC  (l:List ak) (an:Int):Option aL:=if 0≤an then
 if an<(l.length:Int) then
 if ((l.getD an.toNat ak.z).Kind)=4 then
 if 0≤an then
 if an<(l.length:Int) then
 some (aL.mk 12 ((l.getD an.toNat ak.z).At)) else none else none else
 if 0≤an then
 if an<(l.length:Int) then
 some (aL.mk 11 ((l.getD an.toNat ak.z).At)) else none else none else none else none
theorem yK:ax Tryz.prog S (vl (kC)):=
 bp pk [] trivial Tryz.func60 (by kernel_rfl) (fun _=>by kernel_rfl) (by kernel_rfl)
abbrev XA:=(List ak)→Int→(List UInt8)→Option (Int×aL)
abbrev Ch (f:XA):Entry S:=⟨94,[g_,q1,q0],[q1,q6],fun x=>f x.1 x.2.1 x.2.2⟩
def jR  (l:List ak) (an:Int) (s:List UInt8):Option (Int×aL):=(eT l an s).bind fun r1=>
 bif !r1 then
 (kC l an).bind fun r2=>
 some (0,r2) else
 some (ag (an+1),aL.mk 0 0)
theorem Hz:ax Tryz.prog S (Ch (jR)):=
 bp pk [tc eT,vl kC] ⟨vm,yK,trivial⟩ Tryz.func94 (by kernel_rfl) (fun _=>by kernel_rfl) (by kernel_rfl)
abbrev X3:=aU→(List UInt8)→Option (Bool×aU)
abbrev Cq (f:X3):Entry S:=⟨164,[s6,q0],[q3],fun x=>f x.1 x.2⟩
def k9  (r_:aU) (s:List UInt8):Option (Bool×aU):=(eT r_.l r_.an s).bind fun r1=>some (r1,r_)
theorem HG:ax Tryz.prog S (Cq (k9)):=
 bp pk [tc eT] ⟨vm,trivial⟩ Tryz.func164 (by kernel_rfl) (fun _=>by kernel_rfl) (by kernel_rfl)
abbrev X_:=aU→Option (ai×aU)
abbrev HJ (f:X_):Entry S:=⟨175,[s6],[fm],fun x=>f x⟩
def pJ  (r_:aU):Option (ai×aU):=if r_.bad.Code=0 then
 (kC r_.l r_.an).bind fun r1=>
 some (ai.mk 0 0 [] [] 0,aU.mk r_.l r_.an r_.aR r1) else
 some (ai.mk 0 0 [] [] 0,r_)
theorem Nl:ax Tryz.prog S (HJ (pJ)):=
 bp pk [vl kC] ⟨yK,trivial⟩ Tryz.func175 (by kernel_rfl) (fun _=>by kernel_rfl) (by kernel_rfl)
abbrev X9:=aU→(List UInt8)→Option aU
abbrev Nk (f:X9):Entry S:=⟨174,[s6,q0],[],fun x=>f x.1 x.2⟩
def jq  (r_:aU) (s:List UInt8):Option aU:=if r_.bad.Code≠0 then
 some r_ else
 (k9 r_ s).bind fun r1=>
 bif !r1.1 then
 (pJ r1.2).bind fun r2=>
 some r2.2 else
 some (aU.mk r1.2.l (ag (r1.2.an+1)) r1.2.aR r1.2.bad)
theorem X8:ax Tryz.prog S (Nk (jq)):=
 bp pk [Cq k9,HJ pJ] ⟨HG,Nl,trivial⟩ Tryz.func174 (by kernel_rfl) (fun _=>by kernel_rfl) (by kernel_rfl)
abbrev Xx:=(List ak)→Int→Option Bool
abbrev Hy (f:Xx):Entry S:=⟨117,[g_,q1],[q3],fun x=>f x.1 x.2⟩
def ni  (l:List ak) (an:Int):Option Bool:=if an<(l.length:Int) then
 if 0≤an then
 if an<(l.length:Int) then
 if ((l.getD an.toNat ak.z).Kind)=1 then
 if 0≤an then
 if an<(l.length:Int) then
 (Cg ((l.getD an.toNat ak.z).Text)).bind fun r1=>
 some (!r1) else none else none else
 some false else none else none else
 some false
theorem MR:ax Tryz.prog S (Hy (ni)):=
 bp pk [MT Cg] ⟨Xy,trivial⟩ Tryz.func117 (by kernel_rfl) (fun _=>by kernel_rfl) (by kernel_rfl)
abbrev X2:=aU→Option (Bool×aU)
abbrev HF (f:X2):Entry S:=⟨166,[s6],[q3],fun x=>f x⟩
def jo  (r_:aU):Option (Bool×aU):=if r_.aR=12 then
 if 0≤r_.an then
 if r_.an<(r_.l.length:Int) then
 some (false,aU.mk r_.l r_.an r_.aR (aL.mk 14 ((r_.l.getD r_.an.toNat ak.z).At))) else none else none else
 some (true,aU.mk r_.l (ag (r_.an+1)) (ag (r_.aR+1)) r_.bad)
theorem Ni:ax Tryz.prog S (HF (jo)):=
 bp pk [] trivial Tryz.func166 (by kernel_rfl) (fun _=>by kernel_rfl) (by kernel_rfl)
abbrev lW:=aU→Int→Option (ai×aU)
abbrev pH (f:lW):Entry S:=⟨136,[s6,q1],[fm],fun x=>f x.1 x.2⟩
abbrev X5:=aU→Option (ai×aU)
abbrev Nj (f:X5):Entry S:=⟨165,[s6],[fm],fun x=>f x⟩
def kG (ct:lW)  (r_:aU):Option (ai×aU):=if 0≤r_.an then
 if r_.an<(r_.l.length:Int) then
 if ((r_.l.getD r_.an.toNat ak.z).Kind)=2 then
 some (ai.mk 1 ((r_.l.getD r_.an.toNat ak.z).N) [] [] ((r_.l.getD r_.an.toNat ak.z).At),aU.mk r_.l (ag (r_.an+1)) r_.aR r_.bad) else
 (k9 r_ kI).bind fun r1=>
 bif r1.1 then
 some (ai.mk 3 0 [] [] ((r_.l.getD r_.an.toNat ak.z).At),aU.mk r1.2.l (ag (r1.2.an+1)) r1.2.aR r1.2.bad) else
 (k9 r1.2 iR).bind fun r2=>
 bif r2.1 then
 (jq (aU.mk r2.2.l (ag (r2.2.an+1)) r2.2.aR r2.2.bad) bM).bind fun r3=>
 if r3.bad.Code≠0 then
 some (ai.mk 0 0 [] [] 0,r3) else
 (ni r3.l r3.an).bind fun r4=>
 bif !r4 then
 (pJ r3).bind fun r5=>
 some (ai.mk r5.1.Kind r5.1.N r5.1.Name r5.1.Kids r5.1.At,r5.2) else
 if 0≤r3.an then
 if r3.an<(r3.l.length:Int) then
 (jq (aU.mk r3.l (ag (r3.an+1)) r3.aR r3.bad) bD).bind fun r6=>
 some (ai.mk 4 0 ((r3.l.getD r3.an.toNat ak.z).Text) [] ((r_.l.getD r_.an.toNat ak.z).At),r6) else none else none else
 (k9 r2.2 bM).bind fun r7=>
 bif r7.1 then
 (jo r7.2).bind fun r8=>
 bif !r8.1 then
 some (ai.mk 0 0 [] [] 0,r8.2) else
 (ct r8.2 1).bind fun r9=>
 (jq r9.2 bD).bind fun bJ=>
 some (ai.mk r9.1.Kind r9.1.N r9.1.Name r9.1.Kids r9.1.At,aU.mk bJ.l bJ.an (ag (bJ.aR - 1)) bJ.bad) else
 (ni r7.2.l r7.2.an).bind fun bU=>
 bif bU then
 some (ai.mk 2 0 ((r_.l.getD r_.an.toNat ak.z).Text) [] ((r_.l.getD r_.an.toNat ak.z).At),aU.mk r7.2.l (ag (r7.2.an+1)) r7.2.aR r7.2.bad) else
 (pJ r7.2).bind fun bS=>
 some (ai.mk bS.1.Kind bS.1.N bS.1.Name bS.1.Kids bS.1.At,bS.2) else none else none
theorem X4 (ct:lW) (qp:ax Tryz.prog S (pH ct)):ax Tryz.prog S (Nj (kG ct)):=
 bp pk [Cq k9,Nk jq,Hy ni,HJ pJ,HF jo,pH ct] ⟨HG,X8,MR,Nl,Ni,qp,trivial⟩ Tryz.func165 (by kernel_rfl) (fun _=>by kernel_rfl) (by kernel_rfl)
abbrev HH:=aU→Option (ai×aU)
abbrev yP (f:HH):Entry S:=⟨149,[s6],[fm],fun x=>f x⟩
def Cr (qV:HH) (ct:lW) (k:Nat) (r_:aU):Option (ai×aU):=(k9 r_ dV).bind fun r1=>
 bif r1.1 then
 (k9 r1.2 jr).bind fun r2=>
 bif r2.1 then
 if (6:Int)=0 then
 (kG ct r2.2).bind fun r3=>
 some (ai.mk r3.1.Kind r3.1.N r3.1.Name r3.1.Kids r3.1.At,r3.2) else
 if 0≤r2.2.an then
 if r2.2.an<(r2.2.l.length:Int) then
 (jo r2.2).bind fun r4=>
 bif !r4.1 then
 some (ai.mk 0 0 [] [] 0,r4.2) else
 (qV r4.2).bind fun r5=>
 some (ai.mk 6 0 [] [ai.mk r5.1.Kind r5.1.N r5.1.Name r5.1.Kids r5.1.At] ((r2.2.l.getD r2.2.an.toNat ak.z).At),aU.mk r5.2.l r5.2.an (ag (r5.2.aR - 1)) r5.2.bad) else none else none else
 if (5:Int)=0 then
 (kG ct r2.2).bind fun r6=>
 some (ai.mk r6.1.Kind r6.1.N r6.1.Name r6.1.Kids r6.1.At,r6.2) else
 if 0≤r2.2.an then
 if r2.2.an<(r2.2.l.length:Int) then
 (jo r2.2).bind fun r7=>
 bif !r7.1 then
 some (ai.mk 0 0 [] [] 0,r7.2) else
 (qV r7.2).bind fun r8=>
 some (ai.mk 5 0 [] [ai.mk r8.1.Kind r8.1.N r8.1.Name r8.1.Kids r8.1.At] ((r2.2.l.getD r2.2.an.toNat ak.z).At),aU.mk r8.2.l r8.2.an (ag (r8.2.aR - 1)) r8.2.bad) else none else none else
 (k9 r1.2 jr).bind fun r9=>
 bif r9.1 then
 if (6:Int)=0 then
 (kG ct r9.2).bind fun bJ=>
 some (ai.mk bJ.1.Kind bJ.1.N bJ.1.Name bJ.1.Kids bJ.1.At,bJ.2) else
 if 0≤r9.2.an then
 if r9.2.an<(r9.2.l.length:Int) then
 (jo r9.2).bind fun bU=>
 bif !bU.1 then
 some (ai.mk 0 0 [] [] 0,bU.2) else
 (qV bU.2).bind fun bS=>
 some (ai.mk 6 0 [] [ai.mk bS.1.Kind bS.1.N bS.1.Name bS.1.Kids bS.1.At] ((r9.2.l.getD r9.2.an.toNat ak.z).At),aU.mk bS.2.l bS.2.an (ag (bS.2.aR - 1)) bS.2.bad) else none else none else
 if (0:Int)=0 then
 (kG ct r9.2).bind fun bY=>
 some (ai.mk bY.1.Kind bY.1.N bY.1.Name bY.1.Kids bY.1.At,bY.2) else
 if 0≤r9.2.an then
 if r9.2.an<(r9.2.l.length:Int) then
 (jo r9.2).bind fun bB=>
 bif !bB.1 then
 some (ai.mk 0 0 [] [] 0,bB.2) else
 (qV bB.2).bind fun dw=>
 some (ai.mk 0 0 [] [ai.mk dw.1.Kind dw.1.N dw.1.Name dw.1.Kids dw.1.At] ((r9.2.l.getD r9.2.an.toNat ak.z).At),aU.mk dw.2.l dw.2.an (ag (dw.2.aR - 1)) dw.2.bad) else none else none
def lX (ct:lW):Nat→aU→Option (ai×aU)
 | 0,_=>none
 | k+1,x0=>Cr (lX ct k) ct k x0
def vF (ct:lW)  (r_:aU):Option (ai×aU):=b_ (fun k (x:aU)=>lX ct k x) r_
theorem X7 (qV:HH) (ct:lW) (k:Nat) (S4:ax Tryz.prog S (yP qV)) (qp:ax Tryz.prog S (pH ct)):ax Tryz.prog S (yP (Cr qV ct k)):=
 bp pk [Cq k9,Nj (kG ct),HF jo,yP qV] ⟨HG,X4 ct qp,Ni,S4,trivial⟩ Tryz.func149 (by kernel_rfl) (fun _=>by kernel_rfl) (by kernel_rfl)
theorem X6 (ct:lW) (qp:ax Tryz.prog S (pH ct)):ax Tryz.prog S (yP (vF ct)):=gJ (fun k x=>lX ct k x) (fun _=>rfl) Tryz.func149 (by kernel_rfl) (fun _=>rfl) fun k h=>X7 (lX ct k) ct k h qp
abbrev XU:=Int→Int→Int→Option Int
abbrev Nd (f:XU):Entry S:=⟨167,[q1,q1,q1],[q1],fun x=>f x.1 x.2.1 x.2.2⟩
def iQ  (level:Int) (own:Int) (kind:Int):Option Int:=if level=own then some kind else some 0
theorem XT:ax Tryz.prog S (Nd (iQ)):=
 bp pk [] trivial Tryz.func167 (by kernel_rfl) (fun _=>by kernel_rfl) (by kernel_rfl)
abbrev XY:=Int→(List UInt8)→Option Int
abbrev Ng (f:XY):Entry S:=⟨150,[q1,q0],[q1],fun x=>f x.1 x.2⟩
def yN  (level:Int) (s:List UInt8):Option Int:=if s=fB then
 (iQ level 1 19).bind fun r1=>
 some r1 else
 if s=fy then
 (iQ level 2 18).bind fun r2=>
 some r2 else
 if s=mb then
 (iQ level 3 12).bind fun r3=>
 some r3 else
 if s=fE then
 (iQ level 3 13).bind fun r4=>
 some r4 else
 if s=l_ then
 (iQ level 3 14).bind fun r5=>
 some r5 else
 if s=fD then
 (iQ level 3 15).bind fun r6=>
 some r6 else
 if s=fC then
 (iQ level 3 16).bind fun r7=>
 some r7 else
 if s=fA then
 (iQ level 3 17).bind fun r8=>
 some r8 else
 if s=me then
 (iQ level 4 10).bind fun r9=>
 some r9 else
 if s=dV then
 (iQ level 4 11).bind fun bJ=>
 some bJ else
 if s=mh then
 (iQ level 5 7).bind fun bU=>
 some bU else
 if s=mg then
 (iQ level 5 8).bind fun bS=>
 some bS else
 if s=mc then
 (iQ level 5 9).bind fun bY=>
 some bY else
 some 0
theorem XX:ax Tryz.prog S (Ng (yN)):=
 bp pk [Nd iQ] ⟨XT,trivial⟩ Tryz.func150 (by kernel_rfl) (fun _=>by kernel_rfl) (by kernel_rfl)
mutual
def pI (ct:lW):Nat→(List ak)→Int→Int→Int→Int→Int→Int→Int→(List UInt8)→(List ai)→Int→Int→Int→(List UInt8)→(List ai)→Int→Option (ai×aU)
 | 0,_,_,_,_,_,_,_,_,_,_,_,_,_,_,_,_=>none
 | k+1,jN,hO,kV,qL,s7,level,nA,nB,we,zh,nw,dY,eB,eC,cE,eR=>if qL=0 then
  if hO<(jN.length:Int) then
  if 0≤hO then
  if hO<(jN.length:Int) then
  if ((jN.getD hO.toNat ak.z).Kind)=3 then
  Cp ct k jN hO kV qL s7 level nA nB we zh nw dY eB eC cE eR else
  some (ai.mk dY eB eC cE eR,aU.mk jN hO kV (aL.mk qL s7)) else none else none else
  some (ai.mk dY eB eC cE eR,aU.mk jN hO kV (aL.mk qL s7)) else
  some (ai.mk dY eB eC cE eR,aU.mk jN hO kV (aL.mk qL s7))
def Cp (ct:lW):Nat→(List ak)→Int→Int→Int→Int→Int→Int→Int→(List UInt8)→(List ai)→Int→Int→Int→(List UInt8)→(List ai)→Int→Option (ai×aU)
 | 0,_,_,_,_,_,_,_,_,_,_,_,_,_,_,_,_=>none
 | k+1,jN,hO,kV,qL,s7,level,nA,nB,we,zh,nw,dY,eB,eC,cE,eR=>if 0≤hO then
  if hO<(jN.length:Int) then
  (yN level ((jN.getD hO.toNat ak.z).Text)).bind fun r3=>
  if r3=0 then
  some (ai.mk dY eB eC cE eR,aU.mk jN hO kV (aL.mk qL s7)) else
  if 0≤hO then
  if hO<(jN.length:Int) then
  (ct (aU.mk jN (ag (hO+1)) kV (aL.mk qL s7)) (ag (level+1))).bind fun r4=>
  if level=3 then
  some (ai.mk r3 0 [] [ai.mk dY eB eC cE eR,ai.mk r4.1.Kind r4.1.N r4.1.Name r4.1.Kids r4.1.At] ((jN.getD hO.toNat ak.z).At),r4.2) else
  pI ct k r4.2.l r4.2.an r4.2.aR r4.2.bad.Code r4.2.bad.At level nA nB we zh nw r3 0 [] [ai.mk dY eB eC cE eR,ai.mk r4.1.Kind r4.1.N r4.1.Name r4.1.Kids r4.1.At] ((jN.getD hO.toNat ak.z).At) else none else none else none else none
end
def qO (ct:lW) (k:Nat) (r_:aU) (level:Int):Option (ai×aU):=if level=6 then
 (vF ct r_).bind fun r1=>
 some (ai.mk r1.1.Kind r1.1.N r1.1.Name r1.1.Kids r1.1.At,r1.2) else
 (ct r_ (ag (level+1))).bind fun r2=>
 pI ct k r2.2.l r2.2.an r2.2.aR r2.2.bad.Code r2.2.bad.At level 0 0 [] [] 0 r2.1.Kind r2.1.N r2.1.Name r2.1.Kids r2.1.At
def f_:Nat→aU→Int→Option (ai×aU)
 | 0,_,_=>none
 | k+1,x0,x1=>qO (f_ k) k x0 x1
def yO  (r_:aU) (level:Int):Option (ai×aU):=b_ (fun k (x:aU×Int)=>f_ k x.1 x.2) (r_,level)
theorem X1 (ct:lW) (k:Nat) (qp:ax Tryz.prog S (pH ct)):ax Tryz.prog S (pH (qO ct k)):=
 dD pk [yP (vF ct),pH ct,Ng yN] ⟨X6 ct qp,qp,XX,trivial⟩ Tryz.func136 [6] k (fun k=> [(0,⟨[0,1,4,5],[yl,q1,ym,lQ],fun x=>pI ct k x.1.1 x.1.2.1 x.1.2.2.1 x.1.2.2.2.1 x.1.2.2.2.2 x.2.1 x.2.2.1.1 x.2.2.1.2.1 x.2.2.1.2.2.1 x.2.2.1.2.2.2.1 x.2.2.1.2.2.2.2 x.2.2.2.1 x.2.2.2.2.1 x.2.2.2.2.2.1 x.2.2.2.2.2.2.1 x.2.2.2.2.2.2.2,false⟩),(1,⟨[0,1,4,5],[yl,q1,ym,lQ],fun x=>Cp ct k x.1.1 x.1.2.1 x.1.2.2.1 x.1.2.2.2.1 x.1.2.2.2.2 x.2.1 x.2.2.1.1 x.2.2.1.2.1 x.2.2.1.2.2.1 x.2.2.1.2.2.2.1 x.2.2.1.2.2.2.2 x.2.2.2.1 x.2.2.2.2.1 x.2.2.2.2.2.1 x.2.2.2.2.2.2.1 x.2.2.2.2.2.2.2,false⟩)]) ⟨fun _=>rfl,fun _=>rfl,trivial⟩ (fun _=>by kernel_rfl) (fun _=>by kernel_rfl) (by kernel_rfl)
theorem X0:ax Tryz.prog S (pH (yO)):=gJ (fun k x=>f_ k x.1 x.2) (fun _=>rfl) Tryz.func136 (by kernel_rfl) (fun _=>rfl) fun k h=>X1 (f_ k) k h
abbrev XQ:=(List ak)→Int→Option (ai×Int×aL)
abbrev HD (f:XQ):Entry S:=⟨116,[g_,q1],[fm,q1,q6],fun x=>f x.1 x.2⟩
def k8  (l:List ak) (an:Int):Option (ai×Int×aL):=(yO (aU.mk l an 0 (aL.mk 0 0)) 1).bind fun r1=>
 if r1.2.bad.Code≠0 then
 some (ai.mk 0 0 [] [] 0,0,r1.2.bad) else
 some (ai.mk r1.1.Kind r1.1.N r1.1.Name r1.1.Kids r1.1.At,r1.2.an,aL.mk 0 0)
theorem Na:ax Tryz.prog S (HD (k8)):=
 bp pk [pH yO] ⟨X0,trivial⟩ Tryz.func116 (by kernel_rfl) (fun _=>by kernel_rfl) (by kernel_rfl)
abbrev Yo:=(List ak)→Int→Option (List ai×Int×aL)
abbrev Cx (f:Yo):Entry S:=⟨90,[g_,q1],[kz,q1,q6],fun x=>f x.1 x.2⟩
def ld  (l:List ak) (an:Int):Option (List ai×Int×aL):=(jR l an bM).bind fun r1=>
 if r1.2.Code≠0 then
 some ([],0,r1.2) else
 (k8 l r1.1).bind fun r2=>
 if r2.2.2.Code≠0 then
 some ([],0,r2.2.2) else
 (jR l r2.2.1 bD).bind fun r3=>
 some ([ai.mk r2.1.Kind r2.1.N r2.1.Name r2.1.Kids r2.1.At],r3.1,r3.2)
theorem HK:ax Tryz.prog S (Cx (ld)):=
 bp pk [Ch jR,HD k8] ⟨Hz,Na,trivial⟩ Tryz.func90 (by kernel_rfl) (fun _=>by kernel_rfl) (by kernel_rfl)
abbrev Yt:=(List ak)→Int→Option (List UInt8×Int×aL)
abbrev HL (f:Yt):Entry S:=⟨91,[g_,q1],[q0,q1,q6],fun x=>f x.1 x.2⟩
def gC  (l:List ak) (an:Int):Option (List UInt8×Int×aL):=(ni l an).bind fun r1=>
 bif !r1 then
 (kC l an).bind fun r2=>
 some ([],0,r2) else
 if 0≤an then
 if an<(l.length:Int) then
 some ((l.getD an.toNat ak.z).Text,ag (an+1),aL.mk 0 0) else none else none
theorem Nu:ax Tryz.prog S (HL (gC)):=
 bp pk [Hy ni,vl kC] ⟨MR,yK,trivial⟩ Tryz.func91 (by kernel_rfl) (fun _=>by kernel_rfl) (by kernel_rfl)
abbrev Ys:=(List ak)→Int→Option (List ai×Int×aL)
abbrev Nt (f:Ys):Entry S:=⟨92,[g_,q1],[kz,q1,q6],fun x=>f x.1 x.2⟩
def pL  (l:List ak) (an:Int):Option (List ai×Int×aL):=(eT l an bM).bind fun r1=>
 bif !r1 then
 some ([],an,aL.mk 0 0) else
 (ld l an).bind fun r2=>
 some (r2.1,r2.2.1,r2.2.2)
theorem Yr:ax Tryz.prog S (Nt (pL)):=
 bp pk [tc eT,Cx ld] ⟨vm,HK,trivial⟩ Tryz.func92 (by kernel_rfl) (fun _=>by kernel_rfl) (by kernel_rfl)
abbrev Yz:=(List ak)→Int→Option (ah×Int×aL)
abbrev Nx (f:Yz):Entry S:=⟨93,[g_,q1],[om,q1,q6],fun x=>f x.1 x.2⟩
def pM  (l:List ak) (an:Int):Option (ah×Int×aL):=if 0≤an then
 if an<(l.length:Int) then
 (gC l an).bind fun r1=>
 if r1.2.2.Code≠0 then
 some (ah.mk 1 [] [] [] 0 [] [] ((l.getD an.toNat ak.z).At),0,r1.2.2) else
 (jR l r1.2.1 pS).bind fun r2=>
 if r2.2.Code≠0 then
 some (ah.mk 1 r1.1 [] [] 0 [] [] ((l.getD an.toNat ak.z).At),0,r2.2) else
 (k8 l r2.1).bind fun r3=>
 some (ah.mk 1 r1.1 [] [ai.mk r3.1.Kind r3.1.N r3.1.Name r3.1.Kids r3.1.At] 0 [] [] ((l.getD an.toNat ak.z).At),r3.2.1,r3.2.2) else none else none
theorem Yy:ax Tryz.prog S (Nx (pM)):=
 bp pk [HL gC,Ch jR,HD k8] ⟨Nu,Hz,Na,trivial⟩ Tryz.func93 (by kernel_rfl) (fun _=>by kernel_rfl) (by kernel_rfl)
abbrev YB:=(List ak)→Int→Option (ah×Int×aL)
abbrev Ny (f:YB):Entry S:=⟨63,[g_,q1],[om,q1,q6],fun x=>f x.1 x.2⟩
def lf:Nat→(List ak)→Int→Int→(List UInt8)→(List UInt8)→(List ai)→Int→(List ah)→(List ah)→Int→Int→Int→Int→(List UInt8)→(List UInt8)→(List ai)→Int→(List ah)→(List ah)→Int→Int→Int→Option (ah×Int×aL)
 | 0,_,_,_,_,_,_,_,_,_,_,_,_,_,_,_,_,_,_,_,_,_,_=>none
 | k+1,l,an,nA,we,abr,abu,nB,abt,abq,nw,abv,wg,di,bT,dh,jA,fP,iB,gQ,iA,Jf,QL=>if Jf≠0 then
  some (ah.mk 0 [] [] [] 0 [] [] 0,0,aL.mk Jf QL) else
  (jR l an bq).bind fun dw=>
  some (ah.mk di bT dh jA fP iB gQ iA,dw.1,dw.2)
def Cy (k:Nat) (l:List ak) (an:Int):Option (ah×Int×aL):=if 0≤an then
 if an<(l.length:Int) then
 (eT l an gh).bind fun r1=>
 bif r1 then
 (gC l (ag (an+1))).bind fun r2=>
 if r2.2.2.Code=0 then
 (pL l r2.2.1).bind fun r3=>
 lf k l r3.2.1 0 [] [] [] 0 [] [] 0 0 0 2 [] r2.1 r3.1 0 [] [] ((l.getD an.toNat ak.z).At) r3.2.2.Code r3.2.2.At else
 lf k l r2.2.1 0 [] [] [] 0 [] [] 0 0 0 2 [] r2.1 [] 0 [] [] ((l.getD an.toNat ak.z).At) r2.2.2.Code r2.2.2.At else
 (eT l an gH).bind fun r4=>
 bif r4 then
 (gC l (ag (an+1))).bind fun r5=>
 if r5.2.2.Code=0 then
 (gC l r5.2.1).bind fun r6=>
 if r6.2.2.Code=0 then
 (pL l r6.2.1).bind fun r7=>
 lf k l r7.2.1 0 [] [] [] 0 [] [] 0 0 0 3 r5.1 r6.1 r7.1 0 [] [] ((l.getD an.toNat ak.z).At) r7.2.2.Code r7.2.2.At else
 lf k l r6.2.1 0 [] [] [] 0 [] [] 0 0 0 3 r5.1 r6.1 [] 0 [] [] ((l.getD an.toNat ak.z).At) r6.2.2.Code r6.2.2.At else
 if r5.2.2.Code=0 then
 (pL l r5.2.1).bind fun r8=>
 lf k l r8.2.1 0 [] [] [] 0 [] [] 0 0 0 3 r5.1 [] r8.1 0 [] [] ((l.getD an.toNat ak.z).At) r8.2.2.Code r8.2.2.At else
 lf k l r5.2.1 0 [] [] [] 0 [] [] 0 0 0 3 r5.1 [] [] 0 [] [] ((l.getD an.toNat ak.z).At) r5.2.2.Code r5.2.2.At else
 (eT l an hY).bind fun r9=>
 bif r9 then
 (gC l (ag (an+1))).bind fun bJ=>
 if bJ.2.2.Code=0 then
 (ld l bJ.2.1).bind fun bU=>
 lf k l bU.2.1 0 [] [] [] 0 [] [] 0 0 0 4 bJ.1 [] bU.1 0 [] [] ((l.getD an.toNat ak.z).At) bU.2.2.Code bU.2.2.At else
 lf k l bJ.2.1 0 [] [] [] 0 [] [] 0 0 0 4 bJ.1 [] [] 0 [] [] ((l.getD an.toNat ak.z).At) bJ.2.2.Code bJ.2.2.At else
 (eT l an js).bind fun bS=>
 bif bS then
 (gC l (ag (an+1))).bind fun bY=>
 lf k l bY.2.1 0 [] [] [] 0 [] [] 0 0 0 5 bY.1 [] [] 0 [] [] ((l.getD an.toNat ak.z).At) bY.2.2.Code bY.2.2.At else
 (pM l an).bind fun bB=>
 lf k l bB.2.1 0 [] [] [] 0 [] [] 0 0 0 bB.1.Kind bB.1.Name bB.1.Event bB.1.X bB.1.N bB.1.bE bB.1.bw bB.1.At bB.2.2.Code bB.2.2.At else none else none
def pN  (l:List ak) (an:Int):Option (ah×Int×aL):=b_ (fun k (x:List ak×Int)=>Cy k x.1 x.2) (l,an)
theorem YA:ax Tryz.prog S (Ny (pN)):=ir (fun k x=>Cy k x.1 x.2) (fun _=>rfl) fun k=>
 dD pk [tc eT,HL gC,Nt pL,Cx ld,Nx pM,Ch jR] ⟨vm,Nu,Yr,HK,Yy,Hz,trivial⟩ Tryz.func63 [3] k (fun k=> [(1,⟨[0,1,4,6,7,8],[g_,q1,WN,q7,yp,q7],fun x=>lf k x.1 x.2.1 x.2.2.1.1 x.2.2.1.2.1 x.2.2.1.2.2.1 x.2.2.1.2.2.2.1 x.2.2.1.2.2.2.2.1 x.2.2.1.2.2.2.2.2.1 x.2.2.1.2.2.2.2.2.2.1 x.2.2.1.2.2.2.2.2.2.2 x.2.2.2.1.1 x.2.2.2.1.2 x.2.2.2.2.1.1 x.2.2.2.2.1.2.1 x.2.2.2.2.1.2.2.1 x.2.2.2.2.1.2.2.2.1 x.2.2.2.2.1.2.2.2.2.1 x.2.2.2.2.1.2.2.2.2.2.1 x.2.2.2.2.1.2.2.2.2.2.2.1 x.2.2.2.2.1.2.2.2.2.2.2.2 x.2.2.2.2.2.1 x.2.2.2.2.2.2,false⟩)]) ⟨fun _=>rfl,trivial⟩ (fun _=>by kernel_rfl) (fun _=>by kernel_rfl) (by kernel_rfl)
abbrev qS:=(List ak)→Int→Int→Option (List ah×Int×aL)
abbrev qR (f:qS):Entry S:=⟨29,[g_,q1,q1],[pF,q1,q6],fun x=>f x.1 x.2.1 x.2.2⟩
abbrev Yq:=(List ak)→Int→Int→Option (ah×Int×aL)
abbrev Ns (f:Yq):Entry S:=⟨61,[g_,q1,q1],[om,q1,q6],fun x=>f x.1 x.2.1 x.2.2⟩
def yT (ew:qS)  (l:List ak) (an:Int) (deep:Int):Option (ah×Int×aL):=if 0≤an then
 if an<(l.length:Int) then
 (ld l (ag (an+1))).bind fun r1=>
 if r1.2.2.Code≠0 then
 some (ah.mk 6 [] [] [] 0 [] [] ((l.getD an.toNat ak.z).At),0,r1.2.2) else
 (ew l r1.2.1 deep).bind fun r2=>
 if r2.2.2.Code=0 then
 (eT l r2.2.1 jT).bind fun r3=>
 bif r3 then
 (ew l (ag (r2.2.1+1)) deep).bind fun r4=>
 some (ah.mk 6 [] [] r1.1 0 r2.1 r4.1 ((l.getD an.toNat ak.z).At),r4.2.1,r4.2.2) else
 some (ah.mk 6 [] [] r1.1 0 r2.1 [] ((l.getD an.toNat ak.z).At),r2.2.1,r2.2.2) else
 some (ah.mk 6 [] [] r1.1 0 r2.1 [] ((l.getD an.toNat ak.z).At),r2.2.1,r2.2.2) else none else none
theorem Yp (ew:qS) (ux:ax Tryz.prog S (qR ew)):ax Tryz.prog S (Ns (yT ew)):=
 bp pk [Cx ld,qR ew,tc eT] ⟨HK,ux,vm,trivial⟩ Tryz.func61 (by kernel_rfl) (fun _=>by kernel_rfl) (by kernel_rfl)
abbrev Yx:=(List ak)→Int→Int→Option (ah×Int×aL)
abbrev Nw (f:Yx):Entry S:=⟨62,[g_,q1,q1],[om,q1,q6],fun x=>f x.1 x.2.1 x.2.2⟩
def yV (ew:qS)  (l:List ak) (an:Int) (deep:Int):Option (ah×Int×aL):=if 0≤an then
 if an<(l.length:Int) then
 if 0≤(ag (an+1)) then
 if (ag (an+1))<(l.length:Int) then
 if ((l.getD (ag (an+1)).toNat ak.z).Kind)≠2 then
 (kC l (ag (an+1))).bind fun r1=>
 some (ah.mk 7 [] [] [] 0 [] [] ((l.getD an.toNat ak.z).At),0,r1) else
 if 0≤(ag (an+1)) then
 if (ag (an+1))<(l.length:Int) then
 (ew l (ag ((ag (an+1))+1)) deep).bind fun r2=>
 some (ah.mk 7 [] [] [] ((l.getD (ag (an+1)).toNat ak.z).N) r2.1 [] ((l.getD an.toNat ak.z).At),r2.2.1,r2.2.2) else none else none else none else none else none else none
theorem Yw (ew:qS) (ux:ax Tryz.prog S (qR ew)):ax Tryz.prog S (Nw (yV ew)):=
 bp pk [vl kC,qR ew] ⟨yK,ux,trivial⟩ Tryz.func62 (by kernel_rfl) (fun _=>by kernel_rfl) (by kernel_rfl)
def lZ (ew:qS):Nat→(List ak)→Int→Int→Int→Int→(List ah)→Option (List ah×Int×aL)
 | 0,_,_,_,_,_,_=>none
 | k+1,l,an,deep,IA,Iz,out=>(eT l an dx).bind fun r3=>
  bif !r3 then
  (eT l an h_).bind fun r4=>
  bif r4 then
  (yT ew l an (ag (deep+1))).bind fun r5=>
  if r5.2.2.Code≠0 then
  some ([],0,r5.2.2) else
  if (out.length+ [ah.mk r5.1.Kind r5.1.Name r5.1.Event r5.1.X r5.1.N r5.1.bE r5.1.bw r5.1.At].length)*128≤140737488355328 then
  lZ ew k l r5.2.1 deep IA Iz (out++ [ah.mk r5.1.Kind r5.1.Name r5.1.Event r5.1.X r5.1.N r5.1.bE r5.1.bw r5.1.At]) else none else
  (eT l an gf).bind fun r6=>
  bif r6 then
  (yV ew l an (ag (deep+1))).bind fun r7=>
  if r7.2.2.Code≠0 then
  some ([],0,r7.2.2) else
  if (out.length+ [ah.mk r7.1.Kind r7.1.Name r7.1.Event r7.1.X r7.1.N r7.1.bE r7.1.bw r7.1.At].length)*128≤140737488355328 then
  lZ ew k l r7.2.1 deep IA Iz (out++ [ah.mk r7.1.Kind r7.1.Name r7.1.Event r7.1.X r7.1.N r7.1.bE r7.1.bw r7.1.At]) else none else
  (pN l an).bind fun r8=>
  if r8.2.2.Code≠0 then
  some ([],0,r8.2.2) else
  if (out.length+ [ah.mk r8.1.Kind r8.1.Name r8.1.Event r8.1.X r8.1.N r8.1.bE r8.1.bw r8.1.At].length)*128≤140737488355328 then
  lZ ew k l r8.2.1 deep IA Iz (out++ [ah.mk r8.1.Kind r8.1.Name r8.1.Event r8.1.X r8.1.N r8.1.bE r8.1.bw r8.1.At]) else none else
  some (out,ag (an+1),aL.mk 0 0)
def qQ (ew:qS) (k:Nat) (l:List ak) (an:Int) (deep:Int):Option (List ah×Int×aL):=(eT l an ju).bind fun r1=>
 bif !r1 then
 (kC l an).bind fun r2=>
 some ([],0,r2) else
 if deep=4 then
 if 0≤an then
 if an<(l.length:Int) then
 some ([],0,aL.mk 14 ((l.getD an.toNat ak.z).At)) else none else none else
 lZ ew k l (ag (an+1)) deep 0 0 []
def gB:Nat→(List ak)→Int→Int→Option (List ah×Int×aL)
 | 0,_,_,_=>none
 | k+1,x0,x1,x2=>qQ (gB k) k x0 x1 x2
def yS  (l:List ak) (an:Int) (deep:Int):Option (List ah×Int×aL):=b_ (fun k (x:List ak×Int×Int)=>gB k x.1 x.2.1 x.2.2) (l,an,deep)
theorem Yn (ew:qS) (k:Nat) (ux:ax Tryz.prog S (qR ew)):ax Tryz.prog S (qR (qQ ew k)):=
 dD pk [tc eT,vl kC,Ns (yT ew),Nw (yV ew),Ny pN] ⟨vm,yK,Yp ew ux,Yw ew ux,YA,trivial⟩ Tryz.func29 [] k (fun k=> [(0,⟨[0,1,2,8,9],[g_,q1,q1,q7,pF],fun x=>lZ ew k x.1 x.2.1 x.2.2.1 x.2.2.2.1.1 x.2.2.2.1.2 x.2.2.2.2,false⟩)]) ⟨fun _=>rfl,trivial⟩ (fun _=>by kernel_rfl) (fun _=>by kernel_rfl) (by kernel_rfl)
theorem Ym:ax Tryz.prog S (qR (yS)):=gJ (fun k x=>gB k x.1 x.2.1 x.2.2) (fun _=>rfl) Tryz.func29 (by kernel_rfl) (fun _=>rfl) fun k h=>Yn (gB k) k h
abbrev Yf:=(List ak)→Int→Option (List ah×Int×aL)
abbrev Nq (f:Yf):Entry S:=⟨12,[g_,q1],[pF,q1,q6],fun x=>f x.1 x.2⟩
def vG  (l:List ak) (an:Int):Option (List ah×Int×aL):=(yS l an 0).bind fun r1=>some (r1.1,r1.2.1,r1.2.2)
theorem Ye:ax Tryz.prog S (Nq (vG)):=
 bp pk [qR yS] ⟨Ym,trivial⟩ Tryz.func12 (by kernel_rfl) (fun _=>by kernel_rfl) (by kernel_rfl)
abbrev Co:=ai→ai→Option Bool
abbrev vD (f:Co):Entry S:=⟨65,[fm,fm],[q3],fun x=>f x.1 x.2⟩
def vE (pU:Co):Nat→Int→Int→(List UInt8)→(List ai)→Int→Int→Int→(List UInt8)→(List ai)→Int→Int→Option Bool
 | 0,_,_,_,_,_,_,_,_,_,_,_=>none
 | k+1,di,fP,bT,nJ,iA,zI,zJ,zK,qf,zH,i=>if i<(nJ.length:Int) then
  if 0≤i then
  if i<(nJ.length:Int) then
  if 0≤i then
  if i<(qf.length:Int) then
  (pU (nJ.getD i.toNat ai.z) (qf.getD i.toNat ai.z)).bind fun r1=>
  bif !r1 then
  some false else
  vE pU k di fP bT nJ iA zI zJ zK qf zH (ag (i+1)) else none else none else none else none else
  some true
def Cn (pU:Co) (k:Nat) (a:ai) (b:ai):Option Bool:=if a.Kind≠b.Kind then
 some false else
 if a.N≠b.N then
 some false else
 if a.Name≠b.Name then
 some false else
 if (a.Kids.length:Int)≠(b.Kids.length:Int) then
 some false else
 vE pU k a.Kind a.N a.Name a.Kids a.At b.Kind b.N b.Name b.Kids b.At 0
def tn:Nat→ai→ai→Option Bool
 | 0,_,_=>none
 | k+1,x0,x1=>Cn (tn k) k x0 x1
def vC  (a:ai) (b:ai):Option Bool:=b_ (fun k (x:ai×ai)=>tn k x.1 x.2) (a,b)
theorem XS (pU:Co) (k:Nat) (S3:ax Tryz.prog S (vD pU)):ax Tryz.prog S (vD (Cn pU k)):=
 dD pk [vD pU] ⟨S3,trivial⟩ Tryz.func65 [] k (fun k=> [(0,⟨[2,3,5],[lQ,lQ,q1],fun x=>vE pU k x.1.1 x.1.2.1 x.1.2.2.1 x.1.2.2.2.1 x.1.2.2.2.2 x.2.1.1 x.2.1.2.1 x.2.1.2.2.1 x.2.1.2.2.2.1 x.2.1.2.2.2.2 x.2.2,false⟩)]) ⟨fun _=>rfl,trivial⟩ (fun _=>by kernel_rfl) (fun _=>by kernel_rfl) (by kernel_rfl)
theorem Nc:ax Tryz.prog S (vD (vC)):=gJ (fun k x=>tn k x.1 x.2) (fun _=>rfl) Tryz.func65 (by kernel_rfl) (fun _=>rfl) fun k h=>XS (tn k) k h
abbrev XP:=(List ai)→(List ai)→Option Bool
abbrev M_ (f:XP):Entry S:=⟨64,[kz,kz],[q3],fun x=>f x.1 x.2⟩
def vA:Nat→(List ai)→(List ai)→Int→Option Bool
 | 0,_,_,_=>none
 | k+1,a,b,i=>if i<(a.length:Int) then
  if 0≤i then
  if i<(a.length:Int) then
  if 0≤i then
  if i<(b.length:Int) then
  (vC (a.getD i.toNat ai.z) (b.getD i.toNat ai.z)).bind fun r1=>
  bif !r1 then
  some false else
  vA k a b (ag (i+1)) else none else none else none else none else
  some true
def Cm (k:Nat) (a:List ai) (b:List ai):Option Bool:=if (a.length:Int)≠(b.length:Int) then some false else vA k a b 0
def Cl  (a:List ai) (b:List ai):Option Bool:=b_ (fun k (x:List ai×List ai)=>Cm k x.1 x.2) (a,b)
theorem XO:ax Tryz.prog S (M_ (Cl)):=ir (fun k x=>Cm k x.1 x.2) (fun _=>rfl) fun k=>
 dD pk [vD vC] ⟨Nc,trivial⟩ Tryz.func64 [] k (fun k=> [(0,⟨[0,1,5],[kz,kz,q1],fun x=>vA k x.1 x.2.1 x.2.2,false⟩)]) ⟨fun _=>rfl,trivial⟩ (fun _=>by kernel_rfl) (fun _=>by kernel_rfl) (by kernel_rfl)
abbrev Cw:=(List ah)→(List ah)→Option Bool
abbrev yR (f:Cw):Entry S:=⟨30,[jm,jm],[q3],fun x=>f x.1 x.2⟩
def vJ (oD:Cw):Nat→(List ah)→(List ah)→Int→Option Bool
 | 0,_,_,_=>none
 | k+1,a,b,i=>if i<(a.length:Int) then
  if 0≤i then
  if i<(a.length:Int) then
  if 0≤i then
  if i<(b.length:Int) then
  if ((a.getD i.toNat ah.z).Kind)≠((b.getD i.toNat ah.z).Kind) then
  some false else
  if ((a.getD i.toNat ah.z).Name)≠((b.getD i.toNat ah.z).Name) then
  some false else
  if ((a.getD i.toNat ah.z).Event)≠((b.getD i.toNat ah.z).Event) then
  some false else
  if ((a.getD i.toNat ah.z).N)≠((b.getD i.toNat ah.z).N) then
  some false else
  (Cl ((a.getD i.toNat ah.z).X) ((b.getD i.toNat ah.z).X)).bind fun r1=>
  bif !r1 then
  some false else
  (oD ((a.getD i.toNat ah.z).bE) ((b.getD i.toNat ah.z).bE)).bind fun r2=>
  bif !r2 then
  some false else
  (oD ((a.getD i.toNat ah.z).bw) ((b.getD i.toNat ah.z).bw)).bind fun r3=>
  bif !r3 then
  some false else
  vJ oD k a b (ag (i+1)) else none else none else none else none else
  some true
def Cu (oD:Cw) (k:Nat) (a:List ah) (b:List ah):Option Bool:=if (a.length:Int)≠(b.length:Int) then
 some false else
 vJ oD k a b 0
def tv:Nat→(List ah)→(List ah)→Option Bool
 | 0,_,_=>none
 | k+1,x0,x1=>Cu (tv k) k x0 x1
def Ct  (a:List ah) (b:List ah):Option Bool:=b_ (fun k (x:List ah×List ah)=>tv k x.1 x.2) (a,b)
theorem Yj (oD:Cw) (k:Nat) (S5:ax Tryz.prog S (yR oD)):ax Tryz.prog S (yR (Cu oD k)):=
 dD pk [M_ Cl,yR oD] ⟨XO,S5,trivial⟩ Tryz.func30 [] k (fun k=> [(0,⟨[0,1,5],[jm,jm,q1],fun x=>vJ oD k x.1 x.2.1 x.2.2,false⟩)]) ⟨fun _=>rfl,trivial⟩ (fun _=>by kernel_rfl) (fun _=>by kernel_rfl) (by kernel_rfl)
theorem Yi:ax Tryz.prog S (yR (Ct)):=gJ (fun k x=>tv k x.1 x.2) (fun _=>rfl) Tryz.func30 (by kernel_rfl) (fun _=>rfl) fun k h=>Yj (tv k) k h
abbrev AR:=ai→ai→Option Bool
abbrev xV (f:AR):Entry S:=⟨31,[fm,fm],[q3],fun x=>f x.1 x.2⟩
def uQ (pT:AR):Nat→Int→Int→(List UInt8)→(List ai)→Int→Int→Int→(List UInt8)→(List ai)→Int→Int→Option Bool
 | 0,_,_,_,_,_,_,_,_,_,_,_=>none
 | k+1,di,fP,bT,nJ,iA,zI,zJ,zK,qf,zH,i=>if i<(nJ.length:Int) then
  if 0≤i then
  if i<(nJ.length:Int) then
  if 0≤i then
  if i<(qf.length:Int) then
  (pT (nJ.getD i.toNat ai.z) (qf.getD i.toNat ai.z)).bind fun r1=>
  bif !r1 then
  some false else
  uQ pT k di fP bT nJ iA zI zJ zK qf zH (ag (i+1)) else none else none else none else none else
  (vC (ai.mk di fP bT nJ iA) (ai.mk zI zJ zK qf zH)).bind fun r2=>
  some r2
def AQ (pT:AR) (k:Nat) (a:ai) (b:ai):Option Bool:=if a.At≠b.At then
 some false else
 if (a.Kids.length:Int)≠(b.Kids.length:Int) then
 some false else
 uQ pT k a.Kind a.N a.Name a.Kids a.At b.Kind b.N b.Name b.Kids b.At 0
def sS:Nat→ai→ai→Option Bool
 | 0,_,_=>none
 | k+1,x0,x1=>AQ (sS k) k x0 x1
def AP  (a:ai) (b:ai):Option Bool:=b_ (fun k (x:ai×ai)=>sS k x.1 x.2) (a,b)
theorem UM (pT:AR) (k:Nat) (SY:ax Tryz.prog S (xV pT)):ax Tryz.prog S (xV (AQ pT k)):=
 dD pk [xV pT,vD vC] ⟨SY,Nc,trivial⟩ Tryz.func31 [] k (fun k=> [(0,⟨[2,3,5],[lQ,lQ,q1],fun x=>uQ pT k x.1.1 x.1.2.1 x.1.2.2.1 x.1.2.2.2.1 x.1.2.2.2.2 x.2.1.1 x.2.1.2.1 x.2.1.2.2.1 x.2.1.2.2.2.1 x.2.1.2.2.2.2 x.2.2,false⟩)]) ⟨fun _=>rfl,trivial⟩ (fun _=>by kernel_rfl) (fun _=>by kernel_rfl) (by kernel_rfl)
theorem UL:ax Tryz.prog S (xV (AP)):=gJ (fun k x=>sS k x.1 x.2) (fun _=>rfl) Tryz.func31 (by kernel_rfl) (fun _=>rfl) fun k h=>UM (sS k) k h
abbrev AU:=(List ah)→(List ah)→Option Bool
abbrev xW (f:AU):Entry S:=⟨13,[jm,jm],[q3],fun x=>f x.1 x.2⟩
def sW (lq:AU):Nat→(List ah)→(List ah)→Int→Option Bool
 | 0,_,_,_=>none
 | k+1,a,b,i=>if i<(a.length:Int) then
  if 0≤i then
  if i<(a.length:Int) then
  if 0≤i then
  if i<(b.length:Int) then
  if ((a.getD i.toNat ah.z).At)≠((b.getD i.toNat ah.z).At) then
  some false else
  if (((a.getD i.toNat ah.z).X).length:Int)=1 then
  if (0:Int)≤0 then
  if 0<(((a.getD i.toNat ah.z).X).length:Int) then
  if (0:Int)≤0 then
  if 0<(((b.getD i.toNat ah.z).X).length:Int) then
  (AP (((a.getD i.toNat ah.z).X).getD (0:Int).toNat ai.z) (((b.getD i.toNat ah.z).X).getD (0:Int).toNat ai.z)).bind fun r2=>
  bif !r2 then
  some false else
  (lq ((a.getD i.toNat ah.z).bE) ((b.getD i.toNat ah.z).bE)).bind fun r3=>
  bif !r3 then
  some false else
  (lq ((a.getD i.toNat ah.z).bw) ((b.getD i.toNat ah.z).bw)).bind fun r4=>
  bif !r4 then
  some false else
  sW lq k a b (ag (i+1)) else none else none else none else none else
  (lq ((a.getD i.toNat ah.z).bE) ((b.getD i.toNat ah.z).bE)).bind fun r5=>
  bif !r5 then
  some false else
  (lq ((a.getD i.toNat ah.z).bw) ((b.getD i.toNat ah.z).bw)).bind fun r6=>
  bif !r6 then
  some false else
  sW lq k a b (ag (i+1)) else none else none else none else none else
  some true
def AT (lq:AU) (k:Nat) (a:List ah) (b:List ah):Option Bool:=(Ct a b).bind fun r1=>
 bif !r1 then
 some false else
 sW lq k a b 0
def sV:Nat→(List ah)→(List ah)→Option Bool
 | 0,_,_=>none
 | k+1,x0,x1=>AT (sV k) k x0 x1
def AS  (a:List ah) (b:List ah):Option Bool:=b_ (fun k (x:List ah×List ah)=>sV k x.1 x.2) (a,b)
theorem UT (lq:AU) (k:Nat) (SZ:ax Tryz.prog S (xW lq)):ax Tryz.prog S (xW (AT lq k)):=
 dD pk [yR Ct,xV AP,xW lq] ⟨Yi,UL,SZ,trivial⟩ Tryz.func13 [] k (fun k=> [(0,⟨[0,1,5],[jm,jm,q1],fun x=>sW lq k x.1 x.2.1 x.2.2,false⟩)]) ⟨fun _=>rfl,trivial⟩ (fun _=>by kernel_rfl) (fun _=>by kernel_rfl) (by kernel_rfl)
theorem UR:ax Tryz.prog S (xW (AS)):=gJ (fun k x=>sV k x.1 x.2) (fun _=>rfl) Tryz.func13 (by kernel_rfl) (fun _=>rfl) fun k h=>UT (sV k) k h
abbrev Xr:=(List UInt8)→Int→Option (List UInt8)
abbrev MO (f:Xr):Entry S:=⟨14,[q0,q1],[q0],fun x=>f x.1 x.2⟩
def yJ  (s:List UInt8) (v:Int):Option (List UInt8):=(kY v 1099511627776).bind fun r1=>
 if ¬ (3:Int)=0 then
 if (r1.tmod 3)=0 then
 some s else
 if (s.length:Int)=0 then
 some s else
 if ¬ (3:Int)=0 then
 if ¬ (s.length:Int)=0 then
 if ¬ (30000:Int)=0 then
 if ¬ (dU.length:Int)=0 then
 if ¬ (30000:Int)=0 then
 if ¬ (dU.length:Int)=0 then
 if 0≤(ag (((ag (r1.tdiv 30000)).tmod (dU.length:Int))+1)) then
 if (ag (((ag (r1.tdiv 30000)).tmod (dU.length:Int))+1))≤(dU.length:Int) then
 if 0≤((ag (r1.tdiv 30000)).tmod (dU.length:Int)) then
 if ((ag (r1.tdiv 30000)).tmod (dU.length:Int))≤(ag (((ag (r1.tdiv 30000)).tmod (dU.length:Int))+1)) then
 if ¬ (3000:Int)=0 then
 if ¬ (3:Int)=0 then
 if ((ag (r1.tdiv 3000)).tmod 3)=0 then
 if 0≤((ag (r1.tdiv 3)).tmod (s.length:Int)) then
 if ((ag (r1.tdiv 3)).tmod (s.length:Int))≤(s.length:Int) then
 if 0≤(ag (((ag (r1.tdiv 3)).tmod (s.length:Int))+1)) then
 if (ag (((ag (r1.tdiv 3)).tmod (s.length:Int))+1))≤(s.length:Int) then
 if (cut s 0 ((ag (r1.tdiv 3)).tmod (s.length:Int))).length+(cutFrom s (ag (((ag (r1.tdiv 3)).tmod (s.length:Int))+1))).length≤9223372036854775807 then
 some ((cut s 0 ((ag (r1.tdiv 3)).tmod (s.length:Int)))++(cutFrom s (ag (((ag (r1.tdiv 3)).tmod (s.length:Int))+1)))) else none else none else none else none else none else
 if ((ag (r1.tdiv 3000)).tmod 3)=1 then
 if 0≤((ag (r1.tdiv 3)).tmod (s.length:Int)) then
 if ((ag (r1.tdiv 3)).tmod (s.length:Int))≤(s.length:Int) then
 if (cut s 0 ((ag (r1.tdiv 3)).tmod (s.length:Int))).length+(cut dU ((ag (r1.tdiv 30000)).tmod (dU.length:Int)) (ag (((ag (r1.tdiv 30000)).tmod (dU.length:Int))+1))).length≤9223372036854775807 then
 if 0≤((ag (r1.tdiv 3)).tmod (s.length:Int)) then
 if ((ag (r1.tdiv 3)).tmod (s.length:Int))≤(s.length:Int) then
 if ((cut s 0 ((ag (r1.tdiv 3)).tmod (s.length:Int)))++(cut dU ((ag (r1.tdiv 30000)).tmod (dU.length:Int)) (ag (((ag (r1.tdiv 30000)).tmod (dU.length:Int))+1)))).length+(cutFrom s ((ag (r1.tdiv 3)).tmod (s.length:Int))).length≤9223372036854775807 then
 some (((cut s 0 ((ag (r1.tdiv 3)).tmod (s.length:Int)))++(cut dU ((ag (r1.tdiv 30000)).tmod (dU.length:Int)) (ag (((ag (r1.tdiv 30000)).tmod (dU.length:Int))+1))))++(cutFrom s ((ag (r1.tdiv 3)).tmod (s.length:Int)))) else none else none else none else none else none else none else
 if 0≤((ag (r1.tdiv 3)).tmod (s.length:Int)) then
 if ((ag (r1.tdiv 3)).tmod (s.length:Int))≤(s.length:Int) then
 if (cut s 0 ((ag (r1.tdiv 3)).tmod (s.length:Int))).length+(cut dU ((ag (r1.tdiv 30000)).tmod (dU.length:Int)) (ag (((ag (r1.tdiv 30000)).tmod (dU.length:Int))+1))).length≤9223372036854775807 then
 if 0≤(ag (((ag (r1.tdiv 3)).tmod (s.length:Int))+1)) then
 if (ag (((ag (r1.tdiv 3)).tmod (s.length:Int))+1))≤(s.length:Int) then
 if ((cut s 0 ((ag (r1.tdiv 3)).tmod (s.length:Int)))++(cut dU ((ag (r1.tdiv 30000)).tmod (dU.length:Int)) (ag (((ag (r1.tdiv 30000)).tmod (dU.length:Int))+1)))).length+(cutFrom s (ag (((ag (r1.tdiv 3)).tmod (s.length:Int))+1))).length≤9223372036854775807 then
 some (((cut s 0 ((ag (r1.tdiv 3)).tmod (s.length:Int)))++(cut dU ((ag (r1.tdiv 30000)).tmod (dU.length:Int)) (ag (((ag (r1.tdiv 30000)).tmod (dU.length:Int))+1))))++(cutFrom s (ag (((ag (r1.tdiv 3)).tmod (s.length:Int))+1)))) else none else none else none else none else none else none else none else none else none else none else none else none else none else none else none else none else none else none else none
theorem Xq:ax Tryz.prog S (MO (yJ)):=
 bp pk [Cd kY] ⟨Hu,trivial⟩ Tryz.func14 (by kernel_rfl) (fun _=>by kernel_rfl) (by kernel_rfl)
abbrev UK:=(List Int)→Int→Option Bool
abbrev UI (f:UK):Entry S:=⟨4,[yo,q1],[q3],fun x=>f x.1 x.2⟩
def AO  (v:List Int) (k_:Int):Option Bool:=if 150<(v.length:Int) then
 (sU).bind fun r1=>
 some r1 else
 (AV).bind fun r2=>
 (B_ (a_.mk v 0) r2 3).bind fun r3=>
 (Cs r3.1 0).bind fun r4=>
 (yJ r4 k_).bind fun r5=>
 (Cf r5).bind fun r6=>
 if r6.2.Code≠0 then
 (sU).bind fun r7=>
 some r7 else
 (mD r6.1 0).bind fun r8=>
 (vG r6.1 0).bind fun r9=>
 if r8.2.1=r9.2.1 then
 if r8.2.2.Code=r9.2.2.Code∧r8.2.2.At=r9.2.2.At then
 (AS r8.1 r9.1).bind fun bJ=>
 bif bJ then
 (sU).bind fun bU=>
 some bU else
 some false else
 some false else
 some false
theorem UJ:ax Tryz.prog S (UI (AO)):=
 bp pk [LK sU,LM AV,yG B_,vH Cs,MO yJ,MQ Cf,DL mD,Nq vG,xW AS] ⟨UN,UU,Xi,Yg,Xq,Xt,IP,Ye,UR,trivial⟩ Tryz.func4 (by kernel_rfl) (fun _=>by kernel_rfl) (by kernel_rfl)
end
end Go.Sy.Ex
namespace Go.Sy.Ex
open Go Go.Sy Go.Proofs Go.Proofs.YtabknfplmamfmaaGreatDoor
abbrev L7:List (String×DataW Unit):= [("math/bits.deBruijn32tab",Rows.laid_math_bits_deBruijn32tab),("math/bits.deBruijn64tab",Rows.laid_math_bits_deBruijn64tab),("internal/strconv.uint64pow10",Rows.laid_internal_strconv_uint64pow10),("strconv.ErrRange",Rows.laid_strconv_ErrRange),("strconv.ErrSyntax",Rows.laid_strconv_ErrSyntax)]
theorem Kq:Tryz.prog.globalNamed "strconv.ErrRange" =some 2:=by kernel_rfl
theorem Kr:Tryz.prog.globalNamed "strconv.ErrSyntax" =some 1:=by kernel_rfl
theorem ZM:(Tryz.prog.globals[2]?).map (·.type)=some 117:=by kernel_rfl
theorem ZN:(Tryz.prog.globals[1]?).map (·.type)=some 117:=by kernel_rfl
theorem star: "*" ++ "errors.errorString" = "*errors.errorString" :=by decide
theorem NG (u:TypeId) (h:Tryz.prog.typeName? 3 u=some "*errors.errorString"):u=197:=
 typeName_ptr_named (nm:= "errors.errorString") (by rw [star]; kernel_rfl) (by kernel_rfl) (by decide) u (by rw [star]; exact h)
theorem Ku:Tryz.prog.globalNamed "internal/strconv.uint64pow10" =some 3:=by kernel_rfl
theorem ZO:(Tryz.prog.globals[3]?).map (·.type)=some 202:=by kernel_rfl
theorem VK {W:World} (h:W.ShapedOpen Tryz.prog): ∃ m,W.cell? ⟨0,0,none⟩=some (.int .i64 m):=
 cell_of_shapedOpen_int (t:=3) (zero:= #[.int .i64 0]) h (of_decide_eq_true (by kernel_rfl)) (by kernel_rfl) rfl (by kernel_rfl) (by kernel_rfl) Tryz.underlying3
theorem SE {W:World} {M:St} (hM:iU M) (hL:laidMetH Tryz.prog L7 W) (hsh:W.ShapedOpen Tryz.prog):jx S W M:=by
 rw [MakeChecks.laidMetH_plain _ _ _ (by kernel_rfl)] at hL
 have hT:Lib.TabIs Tryz.prog W "internal/strconv.uint64pow10" .u64 Lib.pow10Tab:=Lib.tabIs_of_head Ku ZO Tryz.underlying202 Tryz.underlying157 (by kernel_rfl) (by kernel_rfl) hL.tail.tail
 obtain ⟨a0,s0,hv0, -, -, -⟩:=laid_sentinel hL.tail.tail.tail Kq ZM Tryz.underlying117 NG Tryz.underlying197 Tryz.underlying199 rfl rfl Tryz.underlying9 (by kernel_rfl) (by kernel_rfl)
 have c1:=World.var?_cell Kq hv0 0
 obtain ⟨a1,s1,hv1, -, -, -⟩:=laid_sentinel hL.tail.tail.tail.tail Kr ZN Tryz.underlying117 NG Tryz.underlying197 Tryz.underlying199 rfl rfl Tryz.underlying9 (by kernel_rfl) (by kernel_rfl)
 have c0:=World.var?_cell Kr hv1 0
 obtain ⟨m,c3⟩:=VK hsh
 refine ⟨fun g hg=> ?_,fun g hg=> ?_⟩
 · simp only [List.mem_cons,List.not_mem_nil,or_false] at hg
   rcases hg with rfl | rfl | rfl
   · exact ⟨World.block_lt_of_cell? _ _ c3,hM _ _,_,c3,m,rfl⟩
   · exact ⟨World.block_lt_of_cell? _ _ (by simpa using c1),hM _ _,_,by simpa using c1, .inr ⟨_,_,rfl⟩⟩
   · exact ⟨World.block_lt_of_cell? _ _ (by simpa using c0),hM _ _,_,by simpa using c0, .inr ⟨_,_,rfl⟩⟩
 · simp only [List.mem_cons,List.not_mem_nil,or_false] at hg
   subst hg
   unfold Lib.TabIs World.var? at hT
   rw [Ku] at hT
   simp only [Option.bind_some] at hT
   split at hT
   · rename_i cs t f hb
     cases hT
     exact ⟨(Array.getElem?_eq_some_iff.1 hb).1,fun o=>hM _ _,_,hb,t,f,rfl⟩
   · cases hT
end Go.Sy.Ex
namespace Go.Sy.Ex
open Go Go.Sy Go.Proofs Go.Proofs.YtabknfplmamfmaaGreatDoor Go.ChangeShapes Go.WideShapes Go.RowKit
theorem YI {H:Type} {enc:TypeId×Value→H} {a:Assume} {C:Checked} {os:Os} {f:FuncId} {fn:Func} {s:ChangeSpec} {conds:List PathCond} {apart fresh handsOn again:Bool} {X:World→Array Value→Prop}
 (hX: ∀ (w w':World) (args:Array Value),w.heap=w'.heap→X w args→X w' args)
 (own:ownKnob C.prog.godebug=none) (started:os.Started) (noInit:C.prog.inits.idxOf? f=none) (hfn:C.prog.funcs[f]? =some fn)
 (witness: ∃ (w:World) (tape:Tape) (i:Input),w.os=os∧(w.forCall tape i).Shaped C.prog∧i.vars= []∧Input.okWide C.prog (w.forCall tape i) .any w.heap.size f i∧
  ((s.pre enc C.prog fn conds apart (w.forCall tape i).memory i.args∧X (w.forCall tape i).memory i.args)∧sizedMet enc C.prog fn (OpenSpec.ofChange s) apart (w.forCall tape i).memory i.args)∧a.holds C.prog (lone (Frame.enter C.prog f i.args .normal) [] (w.forCall tape i)))
 (contract: ∀ (W:World) (base:Nat) (args:Array Value) (ds gs:List (DataW H)) (before:List MemPlace),
  (∀ (j:Nat) t v,fn.params[j]? =some t→args[j]? =some v→Value.okWide C.prog W .any base t v)→
  DataW.Whole enc C.prog fn.params.toList s.vars apart W args.toList ds gs before→
  conds.all (PathCond.test C.prog ⟨fn.params.toList,ds,s.plain.varTypes C.prog,gs⟩)=true→
  (DataW.weightsEach C.prog (fn.params.toList++s.plain.varTypes C.prog) (ds++gs)).all (· ≤reachBytes)=true→X W args→W.ShapedOpen C.prog→
  a.holds C.prog (lone (Frame.enter C.prog f args .normal) [] W)→
  Calls C.prog f args W fun e W'=> ∃ v,e= .returned v∧s.post enc C.prog fn apart fresh handsOn again W args v W'):
 ReturnsInHanded a C os f .any (fun w args=>(s.pre enc C.prog fn conds apart w args∧X w args)∧sizedMet enc C.prog fn (OpenSpec.ofChange s) apart w args) (s.post enc C.prog fn apart fresh handsOn again):=by
 refine returnsInHanded_of_calls own started noInit witness ?_
 intro w tape i _ hsh _ hok hpre hholds
 obtain ⟨_,_,_,fn',Tz,_,_,_,_,hval⟩:=hok
 have e:fn'=fn:=Option.some.inj (Tz.symm.trans hfn)
 subst e
 obtain ⟨⟨⟨ds,gs,before,hw,hc⟩,hx⟩,hz⟩:=hpre
 have hw':=DataW.Whole.of_heap (w':=w.forCall tape i) (by rfl) hw
 refine (contract (w.forCall tape i) w.heap.size i.args ds gs before hval hw' hc (hz.weights hw) (hX _ _ _ (by rfl) hx) hsh hholds).mono fun e W' ⟨v,he,hp⟩=> ?_
 subst he
 exact ChangeSpec.post_blind hp
set_option maxRecDepth 100000 in
theorem Rx (os:Os) (args:Array Value):laidMetH Tryz.prog L7 ((World.laidAll Tryz.prog os L7).forCall (fun _ _=>0) ⟨#[],args,[]⟩).memory:=by
 rw [MakeChecks.laidMetH_plain _ _ _ (by kernel_rfl)]
 exact laidMet_laidAll _ (by kernel_rfl) (by kernel_rfl)
end Go.Sy.Ex
namespace Go.Sy.Ex
open Go.Sy
theorem OV (b:UInt8):((b.toNat:Nat):Int).toNat.toUInt8=b:=by
 rw [Int.toNat_natCast]; exact UInt8.ofNat_toNat
theorem QV (b:UInt8):(0≤Lib.indexByte C3 b)↔((b.toNat:Int)=32∨(b.toNat:Int)=9∨(b.toNat:Int)=10∨(b.toNat:Int)=13):=by
 have h: ∀ n,n<256→((0≤Lib.indexByte C3 (Nat.toUInt8 n))↔(((Nat.toUInt8 n).toNat:Int)=32∨((Nat.toUInt8 n).toNat:Int)=9∨((Nat.toUInt8 n).toNat:Int)=10∨((Nat.toUInt8 n).toNat:Int)=13)):=by decide+kernel
 have :=h b.toNat b.toNat_lt
 rwa [show Nat.toUInt8 b.toNat=b from UInt8.ofNat_toNat] at this
def isDigit (c:Int):Bool:=decide (48≤c∧c≤57)
def kR (c:Int):Bool:=decide ((97≤c∧c≤122)∨(65≤c∧c≤90)∨c=95)
theorem AK (c:Int):n8 c=some (kR c||isDigit c,isDigit c):=by
 have fin: ∀ a b:Bool,((a=true)↔((97≤c∧c≤122)∨(65≤c∧c≤90)∨c=95)∨(48≤c∧c≤57))→((b=true)↔(48≤c∧c≤57))→some (a,b)=some (kR c||isDigit c,isDigit c):=by
  intro a b ha hb
  have e1:a=(kR c||isDigit c):=by
   rw [Bool.eq_iff_iff,ha]; simp [kR,isDigit]
  have e2:b=isDigit c:=by
   rw [Bool.eq_iff_iff,hb]; simp [isDigit]
  rw [e1,e2]
 unfold n8
 repeat' split
 all_goals
  refine fin _ _ ?_ ?_
  · constructor
    · intro h; first | omega | (cases h)
    · intro h; first | rfl | (exfalso; omega)
  · constructor
    · intro h; first | omega | (cases h)
    · intro h; first | rfl | (exfalso; omega)
def cg:Bool→List UInt8→Nat→Nat
 | _,[],n=>n
 | true,b::t,n=>if b=10 then cg false t (n+1) else cg true t (n+1)
 | false,b::t,n=>if b=32∨b=9∨b=10∨b=13 then cg false t (n+1) else if b=35 then cg true t (n+1) else n
theorem qW: ∀ (t:List UInt8) (r:Bool) (n:Nat),n≤cg r t n∧cg r t n≤n+t.length:=by
 intro t
 induction t with
 | nil=>intro r n; cases r <;> exact ⟨Nat.le_refl _,Nat.le_refl _⟩
 | cons b t ih=>
  intro r n
  have h1:=ih true (n+1)
  have h2:=ih false (n+1)
  cases r
  · simp only [cg,List.length_cons]
    split
    · omega
    · split
      · omega
      · omega
  · simp only [cg,List.length_cons]
    split <;> omega
theorem lB (b:UInt8) (n:Nat) (hn:n<256):((b.toNat:Int)=(n:Int))↔b=Nat.toUInt8 n:=by
 constructor
 · intro h
   refine UInt8.toNat_inj.1 ?_
   have :(Nat.toUInt8 n).toNat=n:=by
    show n % 256=n
    omega
   omega
 · rintro rfl
   have :(Nat.toUInt8 n).toNat=n:=by
    show n % 256=n
    omega
   omega
theorem Zt (t:List UInt8) (hl:t.length<200000000000000): ∀ m n,n+m=t.length→(∀ k,3*m+1≤k→n9 k t ((n:Nat):Int)=some ((cg false (t.drop n) n:Nat):Int))∧ ∀ k,3*m+2≤k→qA k t ((n:Nat):Int)=some ((cg true (t.drop n) n:Nat):Int):=by
 intro m
 induction m with
 | zero=>
  intro n h
  have hd:t.drop n= []:=List.drop_eq_nil_of_le (by omega)
  have h0: ∀ k,1≤k→n9 k t ((n:Nat):Int)=some ((cg false (t.drop n) n:Nat):Int):=by
   intro k hk
   obtain ⟨k,rfl⟩: ∃ j,k=j+1:=⟨k - 1,by omega⟩
   simp only [n9]
   rw [if_neg (by omega),hd]; rfl
  refine ⟨fun k hk=>h0 k (by omega),fun k hk=> ?_⟩
  obtain ⟨k,rfl⟩: ∃ j,k=j+1:=⟨k - 1,by omega⟩
  simp only [qA]
  rw [if_neg (by omega),h0 k (by omega),hd]; rfl
 | succ m ih=>
  intro n h
  have hlt:n<t.length:=by omega
  obtain ⟨i0,i1⟩:=ih (n+1) (by omega)
  have e:ag ((n:Int)+1)=((n+1:Nat):Int):=by rw [bl (by omega) (by omega)]; omega
  have hd:t.drop n=t[n]::t.drop (n+1):=List.drop_eq_getElem_cons hlt
  have kM:((t[n].toNat:Nat):Int)=10↔t[n]=10:=lB t[n] 10 (by decide)
  have zQ:((t[n].toNat:Nat):Int)=32↔t[n]=32:=lB t[n] 32 (by decide)
  have c9:((t[n].toNat:Nat):Int)=9↔t[n]=9:=lB t[n] 9 (by decide)
  have zP:((t[n].toNat:Nat):Int)=13↔t[n]=13:=lB t[n] 13 (by decide)
  have wQ:((t[n].toNat:Nat):Int)=35↔t[n]=35:=lB t[n] 35 (by decide)
  have h0: ∀ k,3*(m+1)+1≤k→n9 k t ((n:Nat):Int)=some ((cg false (t.drop n) n:Nat):Int):=by
   intro k hk
   obtain ⟨k,rfl⟩: ∃ j,k=j+1:=⟨k - 1,by omega⟩
   have g1:(n:Int)<(t.length:Int):=by omega
   have g0:0≤(n:Int):=by omega
   have l1:t[n]=35→qA k t ((n:Nat):Int)=some ((cg true (t.drop (n+1)) (n+1):Nat):Int):=by
    intro hb
    obtain ⟨k,rfl⟩: ∃ j,k=j+1:=⟨k - 1,by omega⟩
    simp only [qA]
    rw [if_pos g1,if_pos g0,if_pos g1,Int.toNat_natCast,cF _ hlt,if_pos (by rw [hb]; decide),e]
    exact i1 k (by omega)
   simp only [n9,qD,aa,OV]
   simp only [g0,g1,if_true,Int.toNat_natCast,cF _ hlt,e]
   rw [hd,i0 k (by omega)]
   simp only [cg]
   have hb:=QV t[n]
   rw [zQ,c9,kM,zP] at hb
   by_cases hx:0≤Lib.indexByte C3 t[n]
   · rw [if_pos hx,if_pos (hb.1 hx)]
   · rw [if_neg hx,if_neg (fun q=>hx (hb.2 q))]
     by_cases mF:t[n]=35
     · rw [if_pos (wQ.2 mF),if_pos mF,l1 mF]
     · rw [if_neg (fun q=>mF (wQ.1 q)),if_neg mF]
  refine ⟨h0,fun k hk=> ?_⟩
  obtain ⟨k,rfl⟩: ∃ j,k=j+1:=⟨k - 1,by omega⟩
  simp only [qA]
  rw [if_pos (by omega),if_pos (by omega),if_pos (by omega),Int.toNat_natCast,cF _ hlt,e]
  by_cases iZ:t[n]=10
  · rw [if_neg (fun q=>q (kM.2 iZ)),h0 k (by omega),hd]
    simp only [cg]
    rw [if_pos (.inr (.inr (.inl iZ))),if_pos iZ]
  · rw [if_pos (fun q=>iZ (kM.1 q)),i1 k (by omega),hd]
    simp only [cg]
    rw [if_neg iZ]
def dg (b:UInt8):Bool:=isDigit (b.toNat:Int)
def lt (b:UInt8):Bool:=kR (b.toNat:Int)
def nm (b:UInt8):Bool:=lt b||dg b
def cR (p:UInt8→Bool) (t:List UInt8) (n:Nat):Nat:=n+((t.drop n).takeWhile p).length
theorem HR {p:UInt8→Bool} {t:List UInt8} {n:Nat} (h:t.length≤n):cR p t n=n:=by
 unfold cR; rw [List.drop_eq_nil_of_le h]; rfl
theorem vM {p:UInt8→Bool} {t:List UInt8} {n:Nat} (h:n<t.length) (hp:p t[n]=true):cR p t n=cR p t (n+1):=by
 unfold cR; rw [List.drop_eq_getElem_cons h,List.takeWhile_cons_of_pos hp]; simp only [List.length_cons]; omega
theorem HQ {p:UInt8→Bool} {t:List UInt8} {n:Nat} (h:n<t.length) (hp:p t[n]=false):cR p t n=n:=by
 unfold cR; rw [List.drop_eq_getElem_cons h,List.takeWhile_cons_of_neg (by simp [hp])]; rfl
theorem vW (p:UInt8→Bool): ∀ l:List UInt8,(l.takeWhile p).length≤l.length:=fun l=>by
 induction l with
 | nil=>exact Nat.le_refl _
 | cons a l ih=>rw [List.takeWhile_cons]; split <;> simp <;> omega
theorem tE (p:UInt8→Bool) (t:List UInt8) (n:Nat) (h:n≤t.length):n≤cR p t n∧cR p t n≤t.length:=by
 unfold cR
 have :=vW p (t.drop n)
 rw [List.length_drop] at this
 omega
theorem ud (p:UInt8→Bool) (t:List UInt8) (n:Nat):cut t ((n:Nat):Int) ((cR p t n:Nat):Int)=(t.drop n).takeWhile p:=by
 unfold cut cR
 rw [Int.toNat_natCast,Int.toNat_natCast,List.drop_take,Nat.add_sub_cancel_left]
 generalize t.drop n=l
 induction l with
 | nil=>rfl
 | cons a l ih => rw [List.takeWhile_cons]; split
                  · rw [List.length_cons,List.take_succ_cons,ih]
                  · rfl
theorem RN (t:List UInt8) (f:Bool) (hl:t.length<200000000000000): ∀ m n,n+m=t.length→ ∀ k,m+1≤k→sZ k t ((n:Nat):Int) f=some ((cR (fun b=>bif f then dg b else nm b) t n:Nat):Int):=by
 intro m
 induction m with
 | zero=>
  intro n h k hk
  obtain ⟨k,rfl⟩: ∃ j,k=j+1:=⟨k - 1,by omega⟩
  simp only [sZ]
  rw [if_neg (by omega),HR (by omega)]
 | succ m ih=>
  intro n h k hk
  obtain ⟨k,rfl⟩: ∃ j,k=j+1:=⟨k - 1,by omega⟩
  have hlt:n<t.length:=by omega
  have e:ag ((n:Int)+1)=((n+1:Nat):Int):=by rw [bl (by omega) (by omega)]; omega
  simp only [sZ,AK,aa]
  rw [if_pos (by omega),if_pos (by omega),if_pos (by omega),Int.toNat_natCast,cF _ hlt,e,ih (n+1) (by omega) k (by omega)]
  have key: ∀ a b:Bool,lt t[n]=a→dg t[n]=b→(bif !(a||b) then some ((n:Nat):Int) else bif f then bif !b then some ((n:Nat):Int) else some ((cR (fun b=>bif f then dg b else nm b) t (n+1):Nat):Int) else some ((cR (fun b=>bif f then dg b else nm b) t (n+1):Nat):Int))=some ((cR (fun b=>bif f then dg b else nm b) t n:Nat):Int):=by
   intro a b ha hb
   cases f <;> cases a <;> cases b <;> simp only [Bool.or_self,Bool.not_true,Bool.not_false,Bool.or_true,Bool.true_or,Bool.or_false,Bool.false_or,cond_true,cond_false]
   all_goals
    first
     | (rw [HQ hlt ?_]; simp [nm,ha,hb]; done)
     | (rw [vM hlt ?_]; simp [nm,ha,hb]; done)
  exact key _ _ rfl rfl
theorem JQ (t:List UInt8) (n:Nat) (hl:t.length<200000000000000) (h:n<t.length):sY t ((n:Nat):Int)=some ((cR (fun b=>bif dg t[n] then dg b else nm b) t n:Nat):Int):=by
 refine b6 (t.length - n+1) fun k hk=> ?_
 simp only [F0,AK,aa]
 rw [if_pos (by omega),if_pos (by omega),Int.toNat_natCast,cF _ h]
 exact RN t _ hl (t.length - n) n (by omega) k (by omega)
def oJ (acc:Nat):List UInt8→Option Nat
 | []=>some acc
 | c::r=>if (9223372036854775807 - (c.toNat - 48)) / 10<acc then none else oJ (10*acc+(c.toNat - 48)) r
theorem wV (b:UInt8):dg b=true↔48≤b.toNat∧b.toNat≤57:=by
 unfold dg isDigit
 rw [decide_eq_true_eq]
 omega
theorem QS: ∀ (l:List UInt8) (acc:Nat),(∀ c ∈ l,dg c=true)→9223372036854775808≤acc→Lib.parseUintM (2 ^ 64 - 1) acc l= .range∨ ∃ u,9223372036854775808≤u∧Lib.parseUintM (2 ^ 64 - 1) acc l= .ok u:=by
 intro l acc hd ha
 cases l with
 | nil=>exact .inr ⟨acc,ha,rfl⟩
 | cons c r=>
  refine .inl ?_
  have :=(wV c).1 (hd c (by simp))
  unfold Lib.parseUintM
  rw [if_pos this,if_pos (by omega)]
theorem aaJ: ∀ (l:List UInt8) (acc:Nat),(∀ c ∈ l,dg c=true)→acc<9223372036854775808→
 (∀ v,oJ acc l=some v→v<9223372036854775808∧Lib.parseUintM (2 ^ 64 - 1) acc l= .ok v)∧(oJ acc l=none→Lib.parseUintM (2 ^ 64 - 1) acc l= .range∨ ∃ u,9223372036854775808≤u∧Lib.parseUintM (2 ^ 64 - 1) acc l= .ok u):=by
 intro l
 induction l with
 | nil=>intro acc _ ha; exact ⟨fun v h=>by cases h; exact ⟨ha,rfl⟩,fun h=>by cases h⟩
 | cons c r ih=>
  intro acc hd ha
  have hc:=(wV c).1 (hd c (by simp))
  have hr: ∀ c ∈ r,dg c=true:=fun x hx=>hd x (by simp [hx])
  unfold oJ Lib.parseUintM
  rw [if_pos hc]
  by_cases h:(9223372036854775807 - (c.toNat - 48)) / 10<acc
  · rw [if_pos h]
    refine ⟨fun v h=>by (cases h),fun _=> ?_⟩
    by_cases h1:1844674407370955162≤acc
    · rw [if_pos h1]; exact .inl rfl
    · rw [if_neg h1]
      by_cases h2:2 ^ 64 - 1<acc*10+(c.toNat - 48)
      · rw [if_pos h2]; exact .inl rfl
      · rw [if_neg h2]
        exact QS r _ hr (by omega)
  · rw [if_neg h,if_neg (by omega),if_neg (by omega),show acc*10+(c.toNat - 48)=10*acc+(c.toNat - 48) by omega]
    exact ih _ hr (by omega)
def oe (l:List UInt8):Int×Int:=if 1<l.length∧l.getD 0 0=48 then (0,11) else match oJ 0 l with | some v=>((v:Int),0) | none=>(0,16)
def numOf (l:List UInt8):Int×Int:=
 if (1<l.length∧l.getD 0 0=48) then (0,11) else match Lib.parseIntB 64 l with
  | .ok v=>(v,0)
  | _=>(0,16)
theorem VZ (l:List UInt8) (hl:l.length≤281474976710656):xY l=some (numOf l):=by
 have key:((qF l 10 64).bind fun r1=>bif !r1.2 then some ((0:Int),(16:Int)) else some (r1.1,0))=some (match Lib.parseIntB 64 l with
  | .ok v=>(v,0)
  | _=>(0,16)):=by
  unfold qF
  rw [if_pos ⟨hl,rfl,rfl⟩,aa]
  cases Lib.parseIntB 64 l <;> rfl
 have h0:(((l.getD (0:Int).toNat 0).toNat:Nat):Int)=48↔l.getD 0 0=48:=lB _ 48 (by decide)
 unfold xY numOf
 by_cases h1:1<l.length
 · rw [if_pos (by omega),if_pos (by omega),if_pos (by omega)]
   by_cases h2:l.getD 0 0=48
   · rw [if_pos (h0.2 h2),if_pos ⟨h1,h2⟩]
   · rw [if_neg (fun q=>h2 (h0.1 q)),if_neg (fun q=>h2 q.2),key]
 · rw [if_neg (by omega),if_neg (fun q=>h1 q.1),key]
theorem Mf (l:List UInt8) (h0:l≠ []) (hd: ∀ c ∈ l,dg c=true):numOf l=oe l:=by
 unfold numOf oe
 by_cases h:1<l.length∧l.getD 0 0=48
 · rw [if_pos h,if_pos h]
 · rw [if_neg h,if_neg h]
   obtain ⟨c,r,rfl⟩: ∃ c r,l=c::r:=by cases l with
    | nil=>exact absurd rfl h0
    | cons c r=>exact ⟨c,r,rfl⟩
   have hc:=(wV c).1 (hd c (by simp))
   obtain ⟨v1,v2⟩:=aaJ (c::r) 0 hd (by omega)
   have e:(∀ u,Lib.parseUintM (2 ^ 64 - 1) 0 (c::r)= .ok u→Lib.parseIntB 64 (c::r)=if 9223372036854775808≤u then .range else .ok (u:Int))∧(Lib.parseUintM (2 ^ 64 - 1) 0 (c::r)= .range→Lib.parseIntB 64 (c::r)= .range):=by
    unfold Lib.parseIntB Lib.parseUintB
    simp only []
    rw [if_neg (show ¬ (c.toNat=43∨c.toNat=45) by omega),if_neg (by simp)]
    constructor
    · intro u hu
      rw [hu]
      simp only [show ¬ c.toNat=45 by omega,not_false_eq_true,true_and,false_and,if_false]
    · intro hu
      rw [hu]
   cases hv:oJ 0 (c::r) with
   | some v=>
    obtain ⟨a,b⟩:=v1 v hv
    rw [e.1 v b,if_neg (by omega)]
   | none=>
    rcases v2 hv with b | ⟨u,a,b⟩
    · rw [e.2 b]
    · rw [e.1 u b,if_pos a]
def iL:List (List UInt8):= [[45,62],[61,61],[33,61],[60,61],[62,61],[38,38],[124,124]]
def dL:List UInt8→Nat
 | []=>0
 | [b]=>if b ∈ ic then 1 else 0
 | b::c::_=>if [b,c] ∈ iL then 2 else if b ∈ ic then 1 else 0
theorem Uy (l:List UInt8) (c:UInt8):0≤Lib.indexByte l c↔c ∈ l:=by
 induction l with
 | nil=>simp [Lib.indexByte]
 | cons b l ih=>
  unfold Lib.indexByte
  have hge:=Lib.indexByte_ge l c
  by_cases h:b=c
  · subst h; simp
  · rw [if_neg (by simpa using h)]
    rw [List.mem_cons]
    by_cases h1:Lib.indexByte l c= -1
    · rw [if_pos (by simp [h1])]
      constructor
      · intro x; omega
      · rintro (rfl | x)
        · exact absurd rfl h
        · have :=ih.2 x; omega
    · rw [if_neg (by simpa using h1)]
      constructor
      · intro x; exact .inr (ih.1 (by omega))
      · rintro (rfl | x)
        · exact absurd rfl h
        · have :=ih.2 x; omega
theorem contains_iff (s sub:List UInt8):Lib.contains s sub=true↔ ∃ i,i≤s.length∧Lib.occAt s sub i=true:=by
 unfold Lib.contains
 rw [decide_eq_true_eq]
 rcases Lib.index_spec s sub with ⟨h1,h2⟩ | ⟨i,h1,h2,h3,_⟩
 · constructor
   · intro h; omega
   · rintro ⟨i,hi,h⟩; rw [h2 i hi] at h; cases h
 · exact ⟨fun _=>⟨i,h2,h3⟩,fun _=>by omega⟩
theorem Wj (b c:UInt8) (hb:b≠32) (hc:c≠32):Lib.contains N4 [b,c]=decide ([b,c] ∈ iL):=by
 rw [Bool.eq_iff_iff,contains_iff,decide_eq_true_eq]
 constructor
 · rintro ⟨i,hi,h⟩
   have hi':i=0∨i=1∨i=2∨i=3∨i=4∨i=5∨i=6∨i=7∨i=8∨i=9∨i=10∨i=11∨i=12∨i=13∨i=14∨i=15∨i=16∨i=17∨i=18∨i=19∨i=20:=by
    have :i≤20:=hi
    omega
   clear hi
   rcases hi' with rfl | rfl | rfl | rfl | rfl | rfl | rfl | rfl | rfl | rfl | rfl | rfl | rfl | rfl | rfl | rfl | rfl | rfl | rfl | rfl | rfl
   all_goals
    simp only [Lib.occAt,List.drop_succ_cons,List.drop_zero,List.drop_nil,List.isPrefixOf,Bool.and_true,Bool.and_eq_true,beq_iff_eq,Bool.and_false,Bool.false_eq_true,and_false] at h
   all_goals
    first
     | exact absurd h.1 hb
     | exact absurd h.2 hc
     | (obtain ⟨rfl,rfl⟩:=h; decide)
 · intro h
   simp only [iL,List.mem_cons,List.cons.injEq,and_true,List.not_mem_nil,or_false] at h
   rcases h with ⟨rfl,rfl⟩ | ⟨rfl,rfl⟩ | ⟨rfl,rfl⟩ | ⟨rfl,rfl⟩ | ⟨rfl,rfl⟩ | ⟨rfl,rfl⟩ | ⟨rfl,rfl⟩
   · exact ⟨0,by decide,by decide⟩
   · exact ⟨3,by decide,by decide⟩
   · exact ⟨6,by decide,by decide⟩
   · exact ⟨9,by decide,by decide⟩
   · exact ⟨12,by decide,by decide⟩
   · exact ⟨15,by decide,by decide⟩
   · exact ⟨18,by decide,by decide⟩
theorem JA (t:List UInt8) (n:Nat) (h:n+1<t.length):cut t ((n:Nat):Int) ((n+2:Nat):Int)= [t[n],t[n+1]]:=by
 unfold cut
 rw [Int.toNat_natCast,Int.toNat_natCast,List.drop_take,Nat.add_sub_cancel_left,List.drop_eq_getElem_cons (by omega:n<t.length),List.drop_eq_getElem_cons h]
 rfl
theorem Oe (t:List UInt8) (n:Nat) (h:n+1<t.length):dL (t.drop n)=if [t[n],t[n+1]] ∈ iL then 2 else if t[n] ∈ ic then 1 else 0:=by
 rw [List.drop_eq_getElem_cons (by omega:n<t.length),List.drop_eq_getElem_cons h]; rfl
theorem Od (t:List UInt8) (n:Nat) (h:n+1=t.length):dL (t.drop n)=if t[n] ∈ ic then 1 else 0:=by
 rw [List.drop_eq_getElem_cons (by omega:n<t.length),List.drop_eq_nil_of_le (by omega)]; rfl
theorem VT (b:UInt8): [b,(32:UInt8)] ∉ iL:=by
 simp only [iL,List.mem_cons,List.cons.injEq,and_true,List.not_mem_nil,or_false]
 rintro (⟨_,h⟩ | ⟨_,h⟩ | ⟨_,h⟩ | ⟨_,h⟩ | ⟨_,h⟩ | ⟨_,h⟩ | ⟨_,h⟩) <;> revert h <;> decide
theorem aaF (b:UInt8):b.toNat.toUInt8=b:=UInt8.ofNat_toNat
theorem VE (t:List UInt8) (n:Nat) (hl:t.length<200000000000000) (h:n<t.length) (hb:t[n]≠32):xZ t ((n:Nat):Int)=some ((n+dL (t.drop n):Nat):Int):=by
 have e1:ag ((n:Int)+1)=((n+1:Nat):Int):=by rw [bl (by omega) (by omega)]; omega
 have e2:ag ((n:Int)+2)=((n+2:Nat):Int):=by rw [bl (by omega) (by omega)]; omega
 unfold xZ
 simp only [qD,uV,aa,OV,e1,e2,Int.toNat_natCast,cF _ h,Uy,aaF]
 have hone:(if t[n] ∈ ic then some ((n+1:Nat):Int) else some ((n:Nat):Int))=some ((n+(if t[n] ∈ ic then 1 else 0):Nat):Int):=by
  split <;> rfl
 by_cases h1:n+1<t.length
 · rw [if_pos (by omega),if_pos (by omega),if_pos (by omega),cF _ h1,Oe t n h1]
   by_cases hc:t[n+1]=32
   · rw [if_neg (by rw [hc]; decide),if_pos (by omega),if_pos (by omega),hc,if_neg (VT _),hone]
   · have iH:((t[n+1].toNat:Nat):Int)≠32:=fun q=>hc ((lB _ 32 (by decide)).1 q)
     rw [if_pos iH,if_pos (by omega),if_pos (by omega),if_pos (by omega),if_pos (by omega),JA t n h1,if_pos (by decide),aa,Wj _ _ hb hc]
     by_cases hp: [t[n],t[n+1]] ∈ iL
     · rw [if_pos hp,decide_eq_true hp]; rfl
     · rw [if_neg hp,decide_eq_false hp,cond_false,if_pos (by omega),if_pos (by omega),hone]
 · rw [if_neg (by omega),if_pos (by omega),if_pos (by omega),Od t n (by omega),hone]
def ez (t:List UInt8) (n:Nat):ak×Int:=
 if dg (t.getD n 0) then
  (let r:=oe ((t.drop n).takeWhile dg)
   if r.2≠0 then (ak.mk 0 0 0 [] 0,r.2) else (ak.mk 2 n (cR dg t n:Nat) ((t.drop n).takeWhile dg) r.1,0))
 else if lt (t.getD n 0) then
  (if n+24<cR nm t n then (ak.mk 0 0 0 [] 0,13) else (ak.mk 1 n (cR nm t n:Nat) ((t.drop n).takeWhile nm) 0,0))
 else if dL (t.drop n)=0 then (ak.mk 0 0 0 [] 0,10)
 else (ak.mk 3 n (n+dL (t.drop n):Nat) ((t.drop n).take (dL (t.drop n))) 0,0)
theorem vR (t:List UInt8):dL t≤t.length:=by
 unfold dL
 split
 · exact Nat.le_refl _
 · split <;> simp
 · split
   · simp
   · split <;> simp
theorem Ee (t:List UInt8) (n j:Nat):cut t ((n:Nat):Int) ((n+j:Nat):Int)=(t.drop n).take j:=by
 unfold cut
 rw [Int.toNat_natCast,Int.toNat_natCast,List.drop_take,Nat.add_sub_cancel_left]
theorem Dl (p:UInt8→Bool): ∀ l:List UInt8, ∀ c ∈ l.takeWhile p,p c=true:=by
 intro l
 induction l with
 | nil=>intro c hc; cases hc
 | cons a l ih=>
  intro c hc
  rw [List.takeWhile_cons] at hc
  split at hc
  · rcases List.mem_cons.1 hc with rfl | h
    · assumption
    · exact ih c h
  · cases hc
theorem VX (t:List UInt8) (n:Nat) (h:n<t.length) (hd:dg t[n]=true):numOf ((t.drop n).takeWhile dg)=oe ((t.drop n).takeWhile dg):=by
 refine Mf _ ?_ ?_
 · rw [List.drop_eq_getElem_cons h,List.takeWhile_cons_of_pos hd]; exact List.cons_ne_nil _ _
 · intro c hc; exact Dl _ _ c hc
theorem VF (t:List UInt8) (n:Nat) (hl:t.length<200000000000000) (h:n<t.length) (hb:t[n]≠32):x5 t ((n:Nat):Int)=some (ez t n):=by
 unfold x5 ez
 simp only [AK,aa,Int.toNat_natCast,cF _ h,JQ t n hl h,VE t n hl h hb]
 have g0:(0:Int)≤(n:Int):=by omega
 have g1:(n:Int)<(t.length:Int):=by omega
 rw [if_pos g0,if_pos g1]
 have oZ:isDigit ((t[n].toNat:Nat):Int)=dg t[n]:=rfl
 have hlt:kR ((t[n].toNat:Nat):Int)=lt t[n]:=rfl
 rw [oZ,hlt]
 cases hd:dg t[n] with
 | true=>
  have r:=tE dg t n (by omega)
  simp only [cond_true,if_true]
  rw [show (fun b=>dg b)=dg from rfl,if_pos (by omega),if_pos (by omega),if_pos (by omega),if_pos (by omega)]
  have hc:cut t ((n:Nat):Int) ((cR dg t n:Nat):Int)=(t.drop n).takeWhile dg:=ud dg t n
  have hlen:((t.drop n).takeWhile dg).length≤281474976710656:=by
   have :=vW dg (t.drop n); rw [List.length_drop] at this; omega
  rw [hc,VZ _ hlen,aa,VX t n h hd]
  by_cases hz:(oe ((t.drop n).takeWhile dg)).2≠0
  · rw [if_pos hz,if_pos hz]
  · rw [if_neg hz,if_neg hz,if_pos (by omega),if_pos (by omega),if_pos (by omega),if_pos (by omega)]
 | false=>
  simp only [cond_false,Bool.or_false,if_false,Bool.false_eq_true]
  cases hL:lt t[n] with
  | true=>
   have r:=tE nm t n (by omega)
   have hc:cut t ((n:Nat):Int) ((cR nm t n:Nat):Int)=(t.drop n).takeWhile nm:=ud nm t n
   simp only [cond_true,if_true]
   rw [show (fun b=>nm b)=nm from rfl,hc,bl (by omega) (by omega)]
   by_cases lF:n+24<cR nm t n
   · rw [if_pos (by omega),if_pos lF]
   · rw [if_neg (by omega),if_neg lF,if_pos (by omega),if_pos (by omega),if_pos (by omega),if_pos (by omega)]
  | false=>
   simp only [cond_false,if_false,Bool.false_eq_true]
   have hs:=vR (t.drop n)
   rw [List.length_drop] at hs
   rw [Ee]
   by_cases hz:dL (t.drop n)=0
   · rw [if_pos (by omega),if_pos hz]
   · rw [if_neg (by omega),if_neg hz,if_pos (by omega),if_pos (by omega),if_pos (by omega),if_pos (by omega)]
theorem Ek (b:UInt8) (h:lt b=true):dg b=false:=by
 unfold lt kR at h
 unfold dg isDigit
 rw [decide_eq_true_eq] at h
 rw [decide_eq_false_iff_not]
 omega
theorem L8 (t:List UInt8) (n:Nat) (hl:t.length<200000000000000) (h:n≤t.length):x4 t ((n:Nat):Int)=some ((cg false (t.drop n) n:Nat):Int):=
 b6 (3*(t.length - n)+1) fun k hk=>(Zt t hl (t.length - n) n (by omega)).1 k hk
theorem Zq: ∀ (u:List UInt8) (r:Bool) (n j:Nat),cg r u n=n+j→j<u.length→u.getD j 0≠32:=by
 intro u
 induction u with
 | nil=>intro r n j _ h; simp at h
 | cons b u ih=>
  intro r n j hj h
  have go: ∀ r',cg r' u (n+1)=n+j→(b::u).getD j 0≠32:=by
   intro r' h'
   have :=(qW u r' (n+1)).1
   obtain ⟨j,rfl⟩: ∃ i,j=i+1:=⟨j - 1,by omega⟩
   rw [List.getD_cons_succ]
   refine ih r' (n+1) j (by omega) (by simpa using h)
  cases r with
  | true=>
   simp only [cg] at hj
   split at hj
   · exact go _ hj
   · exact go _ hj
  | false=>
   simp only [cg] at hj
   split at hj
   · exact go _ hj
   · split at hj
     · exact go _ hj
     · rename_i h1 h2
       obtain rfl:j=0:=by omega
       intro q
       exact h1 (.inl q)
theorem Dk (t:List UInt8) (n:Nat) (h:n<t.length) (hz:(ez t n).2=0): ∃ e:Nat,(ez t n).1.End=(e:Int)∧n<e∧e≤t.length∧(ez t n).1.At=(n:Int)∧(ez t n).1.Text=cut t ((n:Nat):Int) ((e:Nat):Int)∧(ez t n).1.Kind≠4:=by
 revert hz
 unfold ez
 rw [cF _ h]
 by_cases hD:dg t[n]=true
 · rw [if_pos hD]
   simp only []
   split
   · intro hz; rename_i q; exact absurd hz q
   · intro _
     refine ⟨cR dg t n,rfl, ?_,(tE dg t n (by omega)).2,rfl,(ud dg t n).symm,fun q=>absurd (show (2:Int)=4 from q) (by decide)⟩
     rw [vM h hD]; exact (tE dg t (n+1) (by omega)).1
 · rw [if_neg hD]
   by_cases hL:lt t[n]=true
   · rw [if_pos hL]
     split
     · intro hz; exact absurd hz (by decide)
     · intro _
       refine ⟨cR nm t n,rfl, ?_,(tE nm t n (by omega)).2,rfl,(ud nm t n).symm,fun q=>absurd (show (1:Int)=4 from q) (by decide)⟩
       rw [vM h (by simp [nm,hL])]; exact (tE nm t (n+1) (by omega)).1
   · rw [if_neg hL]
     have hs:=vR (t.drop n)
     rw [List.length_drop] at hs
     split
     · intro hz; exact absurd hz (by decide)
     · intro _
       exact ⟨n+dL (t.drop n),rfl,by omega,by omega,rfl,(Ee t n _).symm,fun q=>absurd (show (3:Int)=4 from q) (by decide)⟩
def gF:Nat→List UInt8→List ak→Nat→List ak×aL
 | 0,_,_,_=>([],aL.mk 0 0)
 | k+1,t,l,n=>if n<t.length then
  (if (ez t n).2≠0 then ([],aL.mk (ez t n).2 n) else gF k t (l++ [(ez t n).1]) (cg false (t.drop (ez t n).1.End.toNat) (ez t n).1.End.toNat))
  else (l++ [ak.mk 4 n n [] 0],aL.mk 0 0)
def iY (t:List UInt8):List ak×aL:=
 if 16384<t.length then ([],aL.mk 13 16384) else gF (t.length+1) t [] (cg false t 0)
theorem Ae (t:List UInt8) (n:Nat) (h:n≤t.length) (hs:cg false (t.drop n) n<t.length):t[cg false (t.drop n) n]≠32:=by
 have h1:=(qW (t.drop n) false n).1
 have :=Zq (t.drop n) false n (cg false (t.drop n) n - n) (by omega) (by rw [List.length_drop]; omega)
 rw [cF _ (by rw [List.length_drop]; omega),List.getElem_drop] at this
 have e:n+(cg false (t.drop n) n - n)=cg false (t.drop n) n:=by omega
 simpa only [e] using this
theorem Qr (t:List UInt8) (hl:t.length≤16384): ∀ m n,t.length≤n+m→n≤t.length→(∀ h:n<t.length,t[n]≠32)→ ∀ l:List ak,l.length≤n→ ∀ k k',m+1≤k→m+1≤k'→
 sX k t 0 0 l ((n:Nat):Int)=some (gF k' t l n):=by
 intro m
 induction m with
 | zero=>
  intro n h hn _ l Fg k k' hk hk'
  obtain ⟨k,rfl⟩: ∃ j,k=j+1:=⟨k - 1,by omega⟩
  obtain ⟨k',rfl⟩: ∃ j,k'=j+1:=⟨k' - 1,by omega⟩
  simp only [sX,gF,List.length_cons,List.length_nil]
  rw [if_neg (by omega),if_pos (by omega),if_neg (by omega)]
 | succ m ih=>
  intro n h hn hb l Fg k k' hk hk'
  obtain ⟨k,rfl⟩: ∃ j,k=j+1:=⟨k - 1,by omega⟩
  obtain ⟨k',rfl⟩: ∃ j,k'=j+1:=⟨k' - 1,by omega⟩
  by_cases hlt:n<t.length
  · have hi:(n:Int)<(t.length:Int):=by omega
    have E1:(l.length+(0+1))*48≤140737488355328:=by omega
    simp only [sX,gF,List.length_cons,List.length_nil,hi,hlt,if_true,VF t n (by omega) hlt (hb hlt),aa,E1]
    by_cases hz:(ez t n).2=0
    · simp only [hz,ne_eq,not_true_eq_false,if_false]
      obtain ⟨e,he,h1,h2,_⟩:=Dk t n hlt hz
      simp only [he,L8 t e (by omega) h2,aa,Int.toNat_natCast]
      have hg:=qW (t.drop e) false e
      rw [List.length_drop] at hg
      exact ih _ (by omega) (by omega) (fun hh=>Ae t e h2 hh) _ (by rw [List.length_append,List.length_singleton]; omega) k k' (by omega) (by omega)
    · simp only [hz,ne_eq,not_false_eq_true,if_true]
  · simp only [sX,gF,List.length_cons,List.length_nil]
    rw [if_neg (by omega),if_pos (by omega),if_neg hlt]
theorem LH (t:List UInt8):AZ t=some (iY t):=by
 refine b6 (t.length+1) fun k hk=> ?_
 unfold FX iY
 by_cases hl:16384<t.length
 · rw [if_pos (by omega),if_pos hl]
 · have hg:=qW t false 0
   rw [if_neg (by omega),if_neg hl,show (0:Int)=((0:Nat):Int) from rfl,L8 t 0 (by omega) (Nat.zero_le _),aa]
   exact (Qr t (by omega) t.length _ (by omega) (by rw [List.drop_zero]; omega) (fun hh=>Ae t 0 (Nat.zero_le _) hh) [] (Nat.zero_le _) k _ (by omega) (by omega))
theorem Qq (t:List UInt8): ∀ k l n,(gF k t l n).1.length≤l.length+k:=by
 intro k
 induction k with
 | zero=>intro l n; simp [gF]
 | succ k ih=>
  intro l n
  simp only [gF]
  split
  · split
    · simp
    · refine Nat.le_trans (ih _ _) ?_
      simp; omega
  · simp
theorem DT (t:List UInt8):(iY t).1.length≤16385:=by
 unfold iY
 split
 · simp
 · have :=Qq t (t.length+1) [] (cg false t 0)
   simp at this
   omega
abbrev oL:List (List UInt8):= [C6,CE,CO,C5,CT,C8,C0,C7,C4,CZ,CU,CP,CQ,CR,CY,CF,gh,gH,hY,js,h_,jT,gf,iR,CV,C2,CS,C1,CL,CG,CJ,CW,CN,CI,HY]
def ep (s:List UInt8):Bool:=decide (s ∈ oL)
theorem aaN:oL.length=35:=rfl
theorem F5 (s:List UInt8):pg s=some (ep s):=by
 unfold pg
 by_cases hr:ep s=true
 · rw [hr]
   have hm:s ∈ oL:=of_decide_eq_true hr
   simp only [oL,List.mem_cons,List.not_mem_nil,or_false] at hm
   rcases hm with rfl | rfl | rfl | rfl | rfl | rfl | rfl | rfl | rfl | rfl | rfl | rfl | rfl | rfl | rfl | rfl | rfl | rfl | rfl | rfl | rfl | rfl | rfl | rfl | rfl | rfl | rfl | rfl | rfl | rfl | rfl | rfl | rfl | rfl | rfl <;> decide+kernel
 · have hr':ep s=false:=by simpa using hr
   have hm:s ∉ oL:=of_decide_eq_false hr'
   rw [hr']
   simp only [oL,List.mem_cons,List.not_mem_nil,or_false,not_or] at hm
   simp only [hm,if_false]
def cY (s:List UInt8):Bool:=decide (s≠ []∧s.length≤24)&& !ep s&&lt (s.getD 0 0)&&s.all nm
theorem Qs (p:UInt8→Bool): ∀ l:List UInt8,(l.takeWhile p).length=l.length↔l.all p=true:=by
 intro l
 induction l with
 | nil=>simp
 | cons a l ih=>
  rw [List.takeWhile_cons]
  cases h:p a with
  | true=>simp only [if_true,List.length_cons,List.all_cons,h,Bool.true_and, ← ih]; omega
  | false=>simp [h]
theorem F3 (s:List UInt8) (hl:s.length<200000000000000):n7 s=some (cY s):=by
 unfold n7 cY
 by_cases h0:s= []
 · subst h0; rw [if_pos rfl]; rfl
 · rw [if_neg h0]
   have hlen:0<s.length:=List.length_pos_iff.2 h0
   by_cases lF:24<s.length
   · rw [if_pos (by omega),decide_eq_false (fun q=>by omega)]; simp
   · rw [if_neg (by omega),F5,aa,decide_eq_true ⟨h0,by omega⟩]
     cases hr:ep s with
     | true=>simp
     | false=>
      rw [cond_false,if_pos (by omega),if_pos (by omega),AK,aa]
      have oZ:isDigit ((((s.getD (0:Int).toNat 0)).toNat:Nat):Int)=dg s[0]:=by
       rw [show (0:Int).toNat=0 from rfl,cF _ hlen]; rfl
      rw [oZ,cF _ hlen]
      cases hd:dg s[0] with
      | true=>
       have :lt s[0]=false:=by
        cases hL:lt s[0] with
        | false=>rfl
        | true=>rw [Ek _ hL] at hd; cases hd
       rw [this]; simp
      | false=>
       rw [Bool.not_false,cond_true,show (0:Int)=((0:Nat):Int) from rfl,JQ s 0 hl hlen,aa,hd]
       congr 1
       rw [show (fun b=>bif false then dg b else nm b)=nm from rfl]
       have ha:=Qs nm s
       cases hall:s.all nm with
       | true=>
        have hL:lt s[0]=true:=by
         have :=List.all_eq_true.1 hall s[0] (List.getElem_mem hlen)
         simpa [nm,hd] using this
        rw [hL]
        have :=ha.2 hall
        unfold cR
        rw [List.drop_zero,decide_eq_true (by omega)]
        rfl
       | false=>
        have : ¬ (s.takeWhile nm).length=s.length:=fun q=>by rw [ha.1 q] at hall; cases hall
        unfold cR
        rw [List.drop_zero,decide_eq_false (by omega)]
        simp
theorem VU {b:UInt8} (h:lt b=true∨dg b=true): ¬ (b=32∨b=9∨b=10∨b=13)∧b≠35:=by
 refine ⟨?_, ?_⟩
 · rintro (rfl | rfl | rfl | rfl) <;> rcases h with h | h <;> exact absurd h (by decide)
 · rintro rfl; rcases h with h | h <;> exact absurd h (by decide)
end Go.Sy.Ex
namespace Go.Sy.Ex
open Go.Sy
abbrev Tk:=Int×List UInt8×Int
def strip (t:ak):Tk:=(t.Kind,t.Text,t.N)
def n5 (b:UInt8):Bool:=decide (b=32∨b=9∨b=10∨b=13)
def gD (u:List UInt8):List UInt8:=u.dropWhile n5
def nW:List UInt8→Option (Tk×Nat)
 | []=>none
 | b::u=>if dg b then
  (let r:=oe ((b::u).takeWhile dg)
   if r.2≠0 then none else some ((2,(b::u).takeWhile dg,r.1),((b::u).takeWhile dg).length))
  else if lt b then (if 24<((b::u).takeWhile nm).length then none else some ((1,(b::u).takeWhile nm,0),((b::u).takeWhile nm).length))
  else if dL (b::u)=0 then none
  else some ((3,(b::u).take (dL (b::u)),0),dL (b::u))
theorem uz (b : UInt8) (u : List UInt8) : nW (b :: u) = if dg b then
      (let r:=oe ((b::u).takeWhile dg)
       if r.2≠0 then none else some ((2,(b::u).takeWhile dg,r.1),((b::u).takeWhile dg).length))
 else if lt b then (if 24<((b::u).takeWhile nm).length then none else some ((1,(b::u).takeWhile nm,0),((b::u).takeWhile nm).length))
 else if dL (b::u)=0 then none
 else some ((3,(b::u).take (dL (b::u)),0),dL (b::u)):=rfl
inductive gN:Nat→List UInt8→List ak→Prop
 | nil {n:Nat} {u:List UInt8} :gD u= []→gN n u []
 | cons {n:Nat} {u v:List UInt8} {tk:Tk} {m:Nat} {L:List ak} :gD u=v→v≠ []→nW v=some (tk,m)→
  gN (n+(u.length - v.length)+m) (v.drop m) L→gN n u (⟨tk.1,(n+(u.length - v.length):Nat),(n+(u.length - v.length)+m:Nat),tk.2.1,tk.2.2⟩::L)
theorem Tp (t:List UInt8) (n:Nat) (h:n<t.length):nW (t.drop n)=if (ez t n).2≠0 then none else some (strip (ez t n).1,((ez t n).1.End - n).toNat):=by
 have hd:t.drop n=t[n]::t.drop (n+1):=List.drop_eq_getElem_cons h
 unfold ez
 rw [cF _ h]
 conv=>lhs; rw [hd]
 rw [uz, ← hd]
 by_cases hD:dg t[n]=true
 · rw [if_pos hD,if_pos hD]
   simp only []
   by_cases hz:(oe ((t.drop n).takeWhile dg)).2≠0
   · simp only [hz,ne_eq,not_false_eq_true,if_true]
   · simp only [hz,if_false,strip,ne_eq,not_true_eq_false]
     congr 2
     unfold cR
     omega
 · rw [if_neg hD,if_neg hD]
   by_cases hL:lt t[n]=true
   · rw [if_pos hL,if_pos hL]
     unfold cR
     by_cases lF:24<((t.drop n).takeWhile nm).length
     · have :n+24<n+((t.drop n).takeWhile nm).length:=by omega
       simp only [lF,this,if_true,ne_eq]
       rw [if_pos (by decide)]
     · have : ¬ n+24<n+((t.drop n).takeWhile nm).length:=by omega
       simp only [lF,this,if_false,ne_eq,not_true_eq_false,strip]
       congr 2
       omega
   · rw [if_neg hL,if_neg hL]
     by_cases hs:dL (t.drop n)=0
     · simp only [hs,if_true,ne_eq]
       rw [if_pos (by decide)]
     · simp only [hs,if_false,ne_eq,not_true_eq_false,strip]
       congr 2
       omega
theorem To {v:List UInt8} {tk:Tk} {m:Nat} (h:nW v=some (tk,m)):1≤m∧m≤v.length:=by
 cases v with
 | nil=>cases h
 | cons b u=>
  rw [uz] at h
  by_cases hD:dg b=true
  · rw [if_pos hD] at h
    simp only [] at h
    split at h
    · cases h
    · cases h
      have :=vW dg (b::u)
      rw [List.takeWhile_cons_of_pos hD] at this ⊢
      exact ⟨by simp,this⟩
  · rw [if_neg hD] at h
    by_cases hL:lt b=true
    · rw [if_pos hL] at h
      split at h
      · cases h
      · cases h
        have :=vW nm (b::u)
        rw [List.takeWhile_cons_of_pos (by simp [nm,hL])] at this ⊢
        exact ⟨by simp,this⟩
    · rw [if_neg hL] at h
      split at h
      · cases h
      · rename_i hs
        cases h
        exact ⟨by omega,vR _⟩
theorem Da (u:List UInt8): ∃ p,u=p++gD u∧p.all n5=true:=by
 induction u with
 | nil=>exact ⟨[],rfl,rfl⟩
 | cons b u ih=>
  unfold gD
  by_cases hb:n5 b=true
  · rw [List.dropWhile_cons_of_pos hb]
    obtain ⟨p,h1,h2⟩:=ih
    exact ⟨b::p,by rw [List.cons_append]; congr 1,by simp [hb,h2]⟩
  · rw [List.dropWhile_cons_of_neg hb]
    exact ⟨[],rfl,rfl⟩
theorem H_: ∀ (p u:List UInt8) (n:Nat),p.all n5=true→cg false (p++u) n=cg false u (n+p.length)
 | [],u,n,_=>rfl
 | b::p,u,n,h=>by
  simp only [List.all_cons,Bool.and_eq_true] at h
  have hb:b=32∨b=9∨b=10∨b=13:=of_decide_eq_true h.1
  rw [List.cons_append]
  simp only [cg]
  rw [if_pos hb,H_ p u (n+1) h.2,List.length_cons,Nat.add_assoc,Nat.add_comm 1]
theorem Zr {b:UInt8} {u:List UInt8} {n:Nat} (h1:n5 b=false) (h2:b≠35):cg false (b::u) n=n:=by
 have hb: ¬ (b=32∨b=9∨b=10∨b=13):=of_decide_eq_false h1
 simp only [cg]
 rw [if_neg hb,if_neg h2]
theorem Tq {u:List UInt8} :nW (35::u)=none:=by
 rw [uz,if_neg (by decide),if_neg (by decide),if_pos]
 cases u with
 | nil=>rfl
 | cons c u=>
  show (if [35,c] ∈ iL then 2 else if (35:UInt8) ∈ ic then 1 else 0)=0
  rw [if_neg,if_neg (by decide)]
  simp only [iL,List.mem_cons,List.cons.injEq,and_true,List.not_mem_nil,or_false]
  rintro (⟨h,_⟩ | ⟨h,_⟩ | ⟨h,_⟩ | ⟨h,_⟩ | ⟨h,_⟩ | ⟨h,_⟩ | ⟨h,_⟩) <;> revert h <;> decide
theorem Zp {u:List UInt8} {b:UInt8} {v:List UInt8} (h:gD u=b::v):n5 b=false:=by
 induction u with
 | nil=>cases h
 | cons c u ih=>
  unfold gD at h
  by_cases hc:n5 c=true
  · rw [List.dropWhile_cons_of_pos hc] at h; exact ih h
  · rw [List.dropWhile_cons_of_neg hc] at h
    cases h
    simpa using hc
theorem Wz {t:List UInt8} {n:Nat} {u:List UInt8} {L:List ak} (h:gN n u L):t.drop n=u→n≤t.length→ ∀ k l,t.length≤n+k→
 gF (k+1) t l (cg false (t.drop n) n)=(l++L++ [ak.mk 4 t.length t.length [] 0],aL.mk 0 0):=by
 induction h with
 | @nil n u hs=>
  intro hu hn k l hk
  obtain ⟨p,h1,h2⟩:=Da u
  rw [hs,List.append_nil] at h1
  subst h1
  have hl:u.length=t.length - n:=by rw [← hu,List.length_drop]
  have :cg false (t.drop n) n=t.length:=by
   rw [hu]
   have :=H_ u [] n h2
   rw [List.append_nil] at this
   rw [this]
   show n+u.length=_
   omega
  rw [this]
  simp only [gF]
  rw [if_neg (by omega),List.append_nil]
 | @cons n u v tk m L hs hv hh hp ih=>
  intro hu hn k l hk
  obtain ⟨p,h1,h2⟩:=Da u
  rw [hs] at h1
  have hl:u.length=t.length - n:=by rw [← hu,List.length_drop]
  have TM:u.length=p.length+v.length:=by rw [h1,List.length_append]
  obtain ⟨b,v',rfl⟩: ∃ b v',v=b::v':=by
   cases v with
   | nil=>exact absurd rfl hv
   | cons b v'=>exact ⟨b,v',rfl⟩
  have hb:=Zp hs
  have hne:b≠35:=fun e=>by subst e; rw [Tq] at hh; cases hh
  have hq:u.length - (b::v').length=p.length:=by omega
  simp only [hq] at ih ⊢
  have hpos:cg false (t.drop n) n=n+p.length:=by
   rw [hu,h1,H_ p _ n h2,Zr hb hne]
  have hlt:n+p.length<t.length:=by simp only [List.length_cons] at TM; omega
  have KU:t.drop (n+p.length)=b::v':=by
   rw [← List.drop_drop,hu,h1]
   simp
  have uH:=Tp t (n+p.length) hlt
  rw [KU,hh] at uH
  have hz:(ez t (n+p.length)).2=0:=by
   by_cases hz:(ez t (n+p.length)).2=0
   · exact hz
   · rw [if_pos hz] at uH; cases uH
  rw [if_neg (by simp [hz])] at uH
  obtain ⟨e,he,h3,h4,cN,xJ,_⟩:=Dk t (n+p.length) hlt hz
  simp only [Option.some.injEq,Prod.mk.injEq] at uH
  obtain ⟨htk,hm⟩:=uH
  rw [he] at hm
  have hme:e=n+p.length+m:=by omega
  have Uh:(ez t (n+p.length)).1=⟨tk.1,(n+p.length:Nat),(n+p.length+m:Nat),tk.2.1,tk.2.2⟩:=by
   rw [htk]
   unfold strip
   generalize ez t (n+p.length)=x at *
   obtain ⟨⟨a1,a2,a3,a4,a5⟩,a6⟩:=x
   dsimp only at *
   rw [cN,he,hme]
  obtain ⟨k,rfl⟩: ∃ j,k=j+1:=⟨k - 1,by omega⟩
  rw [hpos]
  conv=>lhs; unfold gF
  rw [if_pos hlt,if_neg (by simp [hz]),Uh]
  dsimp only
  rw [Int.toNat_natCast]
  have :=ih (by rw [← KU,List.drop_drop]) (by omega) k (l++ [⟨tk.1,(n+p.length:Nat),(n+p.length+m:Nat),tk.2.1,tk.2.2⟩]) (by omega)
  rw [this]
  simp [List.append_assoc]
theorem WA {t:List UInt8} {L:List ak} (h:gN 0 t L) (hl:t.length≤16384):iY t=(L++ [ak.mk 4 t.length t.length [] 0],aL.mk 0 0):=by
 unfold iY
 rw [if_neg (by omega)]
 have :=Wz (t:=t) h rfl (Nat.zero_le _) t.length [] (by omega)
 rw [List.drop_zero,List.nil_append] at this
 exact this
def lu (a b:List UInt8):Bool:=match a.getLast?,b.head? with
 | some x,some y=> !(nm x&&nm y)&& !decide ([x,y] ∈ iL)
 | _,_=>true
theorem OG {p:UInt8→Bool} : ∀ (v b:List UInt8),(v.takeWhile p).length<v.length∨(∀ y,b.head?=some y→p y=false)→(v++b).takeWhile p=v.takeWhile p
 | [],b,h=>by
  rcases h with h | h
  · simp at h
  · cases b with
    | nil=>rfl
    | cons y b=>rw [List.nil_append,List.takeWhile_cons_of_neg (by simp [h y rfl])]; rfl
 | x::v,b,h=>by
  rw [List.cons_append]
  by_cases hx:p x=true
  · rw [List.takeWhile_cons_of_pos hx,List.takeWhile_cons_of_pos hx] at *
    rw [OG v b (h.imp (fun h=>by simpa using h) id)]
  · rw [List.takeWhile_cons_of_neg hx,List.takeWhile_cons_of_neg hx]
theorem ZZ {p:UInt8→Bool} {v:List UInt8} (h: ¬ (v.takeWhile p).length<v.length): ∀ x,v.getLast?=some x→p x=true:=by
 have :v.takeWhile p=v:=by
  have hle:=vW p v
  have hpre:v.takeWhile p <+: v:=List.takeWhile_prefix p
  exact hpre.eq_of_length (by omega)
 intro x hx
 have hm:x ∈ v:=List.mem_of_getLast? hx
 rw [← this] at hm
 exact Dl p v x hm
theorem Tn {v b:List UInt8} {tk:Tk} {m:Nat} (h:nW v=some (tk,m)) (hs:m<v.length∨lu v b=true):nW (v++b)=some (tk,m):=by
 cases v with
 | nil=>cases h
 | cons c u=>
  have hno: ∀ (p:UInt8→Bool),(∀ x,p x=true→nm x=true)→p c=true→(m=((c::u).takeWhile p).length)→((c::u)++b).takeWhile p=(c::u).takeWhile p:=by
   intro p hp hc hm
   refine OG _ _ ?_
   by_cases hlt:((c::u).takeWhile p).length<(c::u).length
   · exact .inl hlt
   · refine .inr fun y hy=> ?_
     rcases hs with hs | hs
     · omega
     · obtain ⟨x,hx⟩: ∃ x,(c::u).getLast?=some x:=⟨_,List.getLast?_eq_some_getLast (by simp)⟩
       have hpx:=hp x (ZZ hlt x hx)
       unfold lu at hs
       rw [hx,hy] at hs
       dsimp only at hs
       rw [Bool.and_eq_true,hpx] at hs
       cases hq:p y with
       | false=>rfl
       | true=>rw [hp y hq] at hs; cases hs.1
  rw [List.cons_append]
  rw [uz] at h ⊢
  by_cases hD:dg c=true
  · rw [if_pos hD] at h ⊢
    simp only [] at h ⊢
    have hm:m=((c::u).takeWhile dg).length:=by
     split at h
     · cases h
     · cases h; rfl
    have :=hno dg (fun x hx=>by simp [nm,hx]) hD hm
    rw [List.cons_append] at this
    rw [this]
    exact h
  · rw [if_neg hD] at h ⊢
    by_cases hL:lt c=true
    · rw [if_pos hL] at h ⊢
      have hm:m=((c::u).takeWhile nm).length:=by
       split at h
       · cases h
       · cases h; rfl
      have :=hno nm (fun x hx=>hx) (by simp [nm,hL]) hm
      rw [List.cons_append] at this
      rw [this]
      exact h
    · rw [if_neg hL] at h ⊢
      have hm:m=dL (c::u)∧dL (c::u)≠0:=by
       split at h
       · cases h
       · rename_i hz; cases h; exact ⟨rfl,hz⟩
      have hsame:dL (c::(u++b))=dL (c::u):=by
       cases u with
       | cons d u=>rfl
       | nil=>
        cases b with
        | nil=>rfl
        | cons y b=>
         show (if [c,y] ∈ iL then 2 else if c ∈ ic then 1 else 0)=if c ∈ ic then 1 else 0
         rw [if_neg]
         rcases hs with hs | hs
         · have :dL [c]≤1:=vR [c]
           have h1:m=dL [c]:=hm.1
           have h2:dL [c]≠0:=hm.2
           simp only [List.length_cons,List.length_nil] at hs
           omega
         · unfold lu at hs
           simp only [List.getLast?_singleton,List.head?_cons,Bool.and_eq_true,Bool.not_eq_true',decide_eq_false_iff_not] at hs
           exact hs.2
      have sL:(c::(u++b)).take (dL (c::u))=(c::u).take (dL (c::u)):=by
       rw [← List.cons_append,List.take_append_of_le_length (vR _)]
      rw [hsame,sL]
      exact h
theorem N9 {p v b:List UInt8} (hv:v≠ []):lu (p++v) b=lu v b:=by
 unfold lu
 rw [List.getLast?_append]
 obtain ⟨x,hx⟩: ∃ x,v.getLast?=some x:=⟨_,List.getLast?_eq_some_getLast hv⟩
 rw [hx]; rfl
theorem Zo {u b:List UInt8} (h:gD u≠ []):gD (u++b)=gD u++b:=by
 unfold gD at *
 induction u with
 | nil=>exact absurd rfl h
 | cons c u ih=>
  rw [List.cons_append]
  by_cases hc:n5 c=true
  · rw [List.dropWhile_cons_of_pos hc] at h ⊢
    rw [List.dropWhile_cons_of_pos hc]
    exact ih h
  · rw [List.dropWhile_cons_of_neg hc,List.dropWhile_cons_of_neg hc]; rfl
theorem Og {u b:List UInt8} (h:gD u= []):gD (u++b)=gD b:=by
 unfold gD at *
 induction u with
 | nil=>rfl
 | cons c u ih=>
  rw [List.cons_append]
  by_cases hc:n5 c=true
  · rw [List.dropWhile_cons_of_pos hc] at h ⊢
    exact ih h
  · rw [List.dropWhile_cons_of_neg hc] at h; cases h
theorem gN.shift {n n':Nat} {a p:List UInt8} {L:List ak} (hp:gD p= []) (h:gN (n+p.length) a L):gN n (p++a) L:=by
 generalize hn:n+p.length=q at h
 cases h with
 | nil hs=>exact .nil (by rw [Og hp]; exact hs)
 | @cons _ _ v tk m L hs hv hh hl=>
  obtain ⟨p',h1,_⟩:=Da a
  rw [hs] at h1
  have hlen:a.length=p'.length+v.length:=by rw [h1,List.length_append]
  have e:n+((p++a).length - v.length)=q+(a.length - v.length):=by rw [List.length_append]; omega
  have :=gN.cons (n:=n) (u:=p++a) (by rw [Og hp]; exact hs) hv hh (by rw [e]; exact hl)
  rw [e] at this
  exact this
theorem gN.append {n:Nat} {a:List UInt8} {La:List ak} (ha:gN n a La): ∀ {b:List UInt8} {Lb:List ak},gN (n+a.length) b Lb→lu a b=true→gN n (a++b) (La++Lb):=by
 induction ha with
 | @nil n u hs=>intro b Lb hb _; exact gN.shift (n':=0) hs hb
 | @cons n u v tk m L hs hv hh hp ih=>
  intro b Lb hb hsep
  obtain ⟨p,h1,_⟩:=Da u
  rw [hs] at h1
  have hml:=To hh
  have hlen:u.length=p.length+v.length:=by rw [h1,List.length_append]
  have Fq:lu v b=true:=by rw [h1,N9 hv] at hsep; exact hsep
  have TC:=Tn hh (b:=b) (.inr Fq)
  have K6:(u++b).length - (v++b).length=u.length - v.length:=by simp only [List.length_append]; omega
  have Ua:gN (n+(u.length - v.length)+m) (v.drop m++b) (L++Lb):=by
   refine ih ?_ ?_
   · rw [List.length_drop,show n+(u.length - v.length)+m+(v.length - m)=n+u.length from by omega]
     exact hb
   · by_cases hd:v.drop m= []
     · rw [hd]; rfl
     · have :v=v.take m++v.drop m:=(List.take_append_drop m v).symm
       rw [this,N9 hd] at Fq
       exact Fq
  have :=gN.cons (n:=n) (u:=u++b) (v:=v++b) (by rw [← hs]; exact Zo (by rw [hs]; exact hv)) (by simp [hv]) TC (L:=L++Lb) (by
   rw [K6,List.drop_append_of_le_length hml.2]
   exact Ua)
  rw [K6] at this
  exact this
def Lx (s:List UInt8) (K:List Tk):Prop:= ∀ n, ∃ L,gN n s L∧L.map strip=K
theorem Lx.append {a b:List UInt8} {Ka Kb:List Tk} (ha:Lx a Ka) (hb:Lx b Kb) (hs:lu a b=true):Lx (a++b) (Ka++Kb):=fun n=>by
 obtain ⟨La,h1,h2⟩:=ha n
 obtain ⟨Lb,h3,h4⟩:=hb (n+a.length)
 exact ⟨La++Lb,h1.append h3 hs,by rw [List.map_append,h2,h4]⟩
theorem Lx.all {t:List UInt8} {K:List Tk} (h:Lx t K) (hl:t.length≤16384): ∃ l,iY t=(l,aL.mk 0 0)∧l.map strip=K++ [(4,[],0)]:=by
 obtain ⟨L,h1,h2⟩:=h 0
 exact ⟨_,WA h1 hl,by rw [List.map_append,h2]; rfl⟩
def AY:Nat→List UInt8→Option (List Tk)
 | 0,_=>none
 | k+1,u=>match gD u with
  | []=>some []
  | b::v=>match nW (b::v) with
   | some (tk,m)=>match AY k ((b::v).drop m) with
    | some K=>some (tk::K)
    | none=>none
   | none=>none
theorem uR: ∀ (k:Nat) {u:List UInt8} {K:List Tk},AY k u=some K→Lx u K
 | 0,_,_,h=>by cases h
 | k+1,u,K,h=>fun n=>by
  simp only [AY] at h
  cases hs:gD u with
  | nil=>rw [hs] at h; cases h; exact ⟨[], .nil hs,rfl⟩
  | cons b v=>
   rw [hs] at h
   dsimp only at h
   cases hh:nW (b::v) with
   | none=>rw [hh] at h; cases h
   | some p=>
    obtain ⟨tk,m⟩:=p
    rw [hh] at h
    dsimp only at h
    cases hr:AY k ((b::v).drop m) with
    | none=>rw [hr] at h; cases h
    | some K'=>
     rw [hr] at h
     cases h
     obtain ⟨L,h1,h2⟩:=uR k hr (n+(u.length - (b::v).length)+m)
     exact ⟨_, .cons hs (by simp) hh h1,by rw [List.map_cons,h2]; rfl⟩
end Go.Sy.Ex
