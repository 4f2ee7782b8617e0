import Derived.Shelf.Strings.Builder1
import Derived.Shelf.Strings.Builder2
import Derived.Shelf.Small.Strs
import Derived.Shelf.Strings.BuilderF
import Derived.Shelf.Strings.BuilderK
import Derived.Shelf.Strings.Builder2Cap
import Derived.Shelf.Strconv.Itoa0
import Derived.Shelf.Strconv.Itoa1
import Derived.Shelf.LaysM
import Derived.Shelf.Strconv.Itoa2
import Derived.Shelf.Strconv.Itoa3
import Derived.Shelf.Strconv.Itoa4
import Derived.Shelf.Strconv.ParseIntEmpty
import Derived.Shelf.Strconv.Clone
import Derived.Shelf.Strconv.SyntaxError
import Derived.Shelf.LaysC
import Derived.Shelf.Strconv.ToError
import Derived.Shelf.Strconv.Lower
import Derived.Shelf.Strconv.ParseUint10
import Derived.Shelf.Strconv.ParseUint10Empty
import Derived.Shelf.Strconv.ParseUint10Any
import Derived.Shelf.Strconv.ParseInt10
import Derived.Shelf.Strconv.RangeError
import Derived.Shelf.Strconv.ToErrorRange
import Derived.Shelf.Strconv.ParseUintEmpty
import Derived.Shelf.Strconv.ParseUint10b64
import Derived.Shelf.Strconv.ParseUint10b32
import Derived.Shelf.Strconv.ParseUint10b16
import Derived.Shelf.Strconv.ParseUint10b8
import Derived.Shelf.Strconv.ParseUint10At
import Derived.Shelf.Strconv.ParseInt10At64
import Derived.Shelf.Strconv.ParseInt10At32
import Derived.Shelf.Strconv.ParseInt10At16
import Derived.Shelf.Strconv.ParseInt10At8
import Derived.Shelf.Strconv.ParseInt10All
import Derived.Shelf.Strconv.ParseIntPublic10
import Derived.Shelf.Strings.Search1
import Derived.Shelf.Strings.Search2
import Derived.Shelf.Strings.Search3
import Derived.Shelf.Strings.Shaped
import Derived.Shelf.Strings.Prefix
import Derived.Shelf.Bits.Mul64
import Derived.Shelf.Strings.Repeat
import Derived.Lib.ItoaMem
import Derived.Stop.LaidErr
import Derived.Shelf.Vars
import Derived.MakeChecks
import Derived.LaidHandle
import Derived.ChangeSame
import Derived.ChangeVars
import Derived.JoinedOf
import Derived.RowKit
import Derived.HandedShaped
import Derived.LaidMore
import Derived.LaidLaws
import Derived.Lay
import Derived.Lib.ParseIntB
import Derived.Test.YtabknfplmamfmaaGreatDoorProg
import Derived.Test.YtabknfplmamfmaaGreatDoorRows
import Derived.Test.YtabknfplmamfmaaGreatDoorSc
set_option linter.unusedVariables false
set_option linter.unusedSimpArgs false
/-
 DERIVED:THE SHELF's CONTRACTS AT THIS DUMP,IN PLAIN WORDS (tools/lay-plain.mjs out of 'XAcL.lean',which tools/lay-shelf.mjs wrote):THE SAME DECLARATIONS UNDER THE SAME NAMES: 'import', 'namespace', 'open', 'def', 'theorem' AND NOTHING ELSE:no command of the shelf's:FOR A HAND-IN. Each laying:the table of numbers ('.._ren') and one theorem,a field a fact of the dump's own or the kernel's comparison; each contract:ONE APPLICATION.
-/
namespace Go.Proofs
open Go.Shelf
def Tryz.Q8:Go.Shelf.Ren:=⟨fun | 137=>69 | 217=>98 | 266=>118 | n=>n,fun | 9=>9 | 5=>5 | 3=>3 | n=>n,fun | n=>n⟩
theorem Tryz.Q7:Go.Proofs.Lays.n137 Tryz.prog Tryz.Q8:= {
 mixed:=by kernel_rfl
 f137:=Tryz.func69.trans (congrArg some (by kernel_rfl))
 f217:=Tryz.func98.trans (congrArg some (by kernel_rfl))
 f266:=Tryz.func118.trans (congrArg some (by kernel_rfl))
 t3:=Tryz.underlying3
 a3:=Tryz.isAgg3
 z3:=Tryz.sizeOf3
 v3:=Tryz.zeroValue3
 t5:=Tryz.underlying5
 a5:=Tryz.isAgg5
 z5:=Tryz.sizeOf5
 v5:=Tryz.zeroValue5
 t9:=Tryz.underlying9
 a9:=Tryz.isAgg9
 z9:=Tryz.sizeOf9
 v9:=Tryz.zeroValue9 }
open Go.RowKit in
theorem Tryz.strings_IndexByte (s:ByteArray) (c:Int) (w:World):
 Calls Tryz.prog 69 #[.string s, .int .u8 c] w fun e w'=>e= .returned (.int .i64 (Lib.indexByte s.data.toList c.toNat.toUInt8))∧w'=w:=Any.strings_IndexByte Tryz.Q7 s c w
def Tryz.Q_:Go.Shelf.Ren:=⟨fun | 144=>100 | 143=>121 | 219=>142 | 217=>98 | 225=>155 | 224=>156 | 267=>157 | 266=>118 | 314=>168 | n=>n,fun | 9=>9 | 4=>4 | 3=>3 | 5=>5 | 46=>139 | 146=>155 | 51=>154 | n=>n,fun | 1=>0 | n=>n⟩
theorem Tryz.Q9:Go.Proofs.Lays.n144 Tryz.prog Tryz.Q_:= {
 mixed:=by kernel_rfl
 f143:=Tryz.func121.trans (congrArg some (by kernel_rfl))
 f144:=Tryz.func100.trans (congrArg some (by kernel_rfl))
 f217:=Tryz.func98.trans (congrArg some (by kernel_rfl))
 f219:=Tryz.func142.trans (congrArg some (by kernel_rfl))
 f224:=Tryz.func156.trans (congrArg some (by kernel_rfl))
 f225:=Tryz.func155.trans (congrArg some (by kernel_rfl))
 f266:=Tryz.func118.trans (congrArg some (by kernel_rfl))
 f267:=Tryz.func157.trans (congrArg some (by kernel_rfl))
 f314:=Tryz.func168.trans (congrArg some (by kernel_rfl))
 t3:=Tryz.underlying3
 a3:=Tryz.isAgg3
 z3:=Tryz.sizeOf3
 v3:=Tryz.zeroValue3
 t4:=Tryz.underlying4
 a4:=Tryz.isAgg4
 z4:=Tryz.sizeOf4
 v4:=Tryz.zeroValue4
 t5:=Tryz.underlying5
 a5:=Tryz.isAgg5
 z5:=Tryz.sizeOf5
 v5:=Tryz.zeroValue5
 t9:=Tryz.underlying9
 a9:=Tryz.isAgg9
 z9:=Tryz.sizeOf9
 v9:=Tryz.zeroValue9
 t46:=Tryz.underlying139
 a46:=Tryz.isAgg139
 z46:=Tryz.sizeOf139
 v46:=Tryz.zeroValue139
 t51:=Tryz.underlying154
 a51:=Tryz.isAgg154
 z51:=Tryz.sizeOf154
 v51:=Tryz.zeroValue154
 t146:=Tryz.underlying155
 a146:=Tryz.isAgg155
 z146:=Tryz.sizeOf155
 v146:=Tryz.zeroValue155
 g1:=by kernel_rfl }
open Go.RowKit Go.Lib in
theorem Tryz.strings_Contains (s sub:ByteArray) (m:Int) (w:World) (hs:s.size<4294967281) (hm:w.cell? ⟨0,0,none⟩=some (.int .i64 m)):
 Calls Tryz.prog 100 #[.string s, .string sub] w fun e w'=>e= .returned (.bool (Lib.contains s.data.toList sub.data.toList))∧w'=w:=Any.strings_Contains Tryz.Q9 s sub m w hs hm
def Tryz.Rc:Go.Shelf.Ren:=⟨fun | 174=>99 | 247=>119 | 245=>120 | 287=>137 | 279=>138 | 280=>139 | 281=>140 | 282=>141 | 321=>151 | 322=>152 | 316=>153 | 171=>110 | 205=>154 | 243=>131 | 246=>146 | 283=>158 | 284=>159 | 285=>160 | 286=>161 | 129=>170 | 317=>169 | 318=>171 | 319=>172 | 320=>173 | 337=>176 | 338=>177 | n=>n,fun | 9=>9 | 3=>3 | 2=>2 | 75=>117 | 85=>134 | 4=>4 | 167=>169 | 5=>5 | 53=>157 | 175=>170 | 46=>139 | 168=>172 | 37=>79 | 0=>0 | 210=>187 | 21=>21 | 127=>122 | 145=>199 | 143=>197 | 171=>190 | 173=>193 | 212=>202 | 51=>154 | 20=>20 | 213=>203 | 232=>206 | 233=>207 | 80=>83 | n=>n,fun | 15=>1 | 16=>2 | 17=>3 | 18=>4 | 19=>5 | n=>n⟩
theorem Tryz.C7:Go.Proofs.LaysC.n174 Tryz.prog Tryz.Rc:= {
 mixed:=by kernel_rfl
 f129:=Tryz.func170.trans (congrArg some (by kernel_rfl))
 f171:=Tryz.func110.trans (congrArg some (by kernel_rfl))
 f174:=Tryz.func99.trans (congrArg some (by kernel_rfl))
 f205:=Tryz.func154.trans (congrArg some (by kernel_rfl))
 f243:=Tryz.func131.trans (congrArg some (by kernel_rfl))
 f245:=Tryz.func120.trans (congrArg some (by kernel_rfl))
 f246:=Tryz.func146.trans (congrArg some (by kernel_rfl))
 f247:=Tryz.func119.trans (congrArg some (by kernel_rfl))
 f279:=Tryz.func138.trans (congrArg some (by kernel_rfl))
 f280:=Tryz.func139.trans (congrArg some (by kernel_rfl))
 f281:=Tryz.func140.trans (congrArg some (by kernel_rfl))
 f282:=Tryz.func141.trans (congrArg some (by kernel_rfl))
 f283:=Tryz.func158.trans (congrArg some (by kernel_rfl))
 f284:=Tryz.func159.trans (congrArg some (by kernel_rfl))
 f285:=Tryz.func160.trans (congrArg some (by kernel_rfl))
 f286:=Tryz.func161.trans (congrArg some (by kernel_rfl))
 f287:=Tryz.func137.trans (congrArg some (by kernel_rfl))
 f316:=Tryz.func153.trans (congrArg some (by kernel_rfl))
 f317:=Tryz.func169.trans (congrArg some (by kernel_rfl))
 f318:=Tryz.func171.trans (congrArg some (by kernel_rfl))
 f319:=Tryz.func172.trans (congrArg some (by kernel_rfl))
 f320:=Tryz.func173.trans (congrArg some (by kernel_rfl))
 f321:=Tryz.func151.trans (congrArg some (by kernel_rfl))
 f322:=Tryz.func152.trans (congrArg some (by kernel_rfl))
 f337:=Tryz.func176.trans (congrArg some (by kernel_rfl))
 f338:=Tryz.func177.trans (congrArg some (by kernel_rfl))
 t0:=Tryz.underlying0
 a0:=Tryz.isAgg0
 z0:=Tryz.sizeOf0
 v0:=Tryz.zeroValue0
 t2:=Tryz.underlying2
 a2:=Tryz.isAgg2
 z2:=Tryz.sizeOf2
 v2:=Tryz.zeroValue2
 t3:=Tryz.underlying3
 a3:=Tryz.isAgg3
 z3:=Tryz.sizeOf3
 v3:=Tryz.zeroValue3
 t4:=Tryz.underlying4
 a4:=Tryz.isAgg4
 z4:=Tryz.sizeOf4
 v4:=Tryz.zeroValue4
 t5:=Tryz.underlying5
 a5:=Tryz.isAgg5
 z5:=Tryz.sizeOf5
 v5:=Tryz.zeroValue5
 t9:=Tryz.underlying9
 a9:=Tryz.isAgg9
 z9:=Tryz.sizeOf9
 v9:=Tryz.zeroValue9
 t20:=Tryz.underlying20
 a20:=Tryz.isAgg20
 z20:=Tryz.sizeOf20
 v20:=Tryz.zeroValue20
 t21:=Tryz.underlying21
 a21:=Tryz.isAgg21
 z21:=Tryz.sizeOf21
 v21:=Tryz.zeroValue21
 t37:=Tryz.underlying79
 a37:=Tryz.isAgg79
 z37:=Tryz.sizeOf79
 v37:=Tryz.zeroValue79
 t46:=Tryz.underlying139
 a46:=Tryz.isAgg139
 z46:=Tryz.sizeOf139
 v46:=Tryz.zeroValue139
 t51:=Tryz.underlying154
 a51:=Tryz.isAgg154
 z51:=Tryz.sizeOf154
 v51:=Tryz.zeroValue154
 t53:=Tryz.underlying157
 a53:=Tryz.isAgg157
 z53:=Tryz.sizeOf157
 v53:=Tryz.zeroValue157
 t75:=Tryz.underlying117
 a75:=Tryz.isAgg117
 z75:=Tryz.sizeOf117
 v75:=Tryz.zeroValue117
 t85:=Tryz.underlying134
 a85:=Tryz.isAgg134
 z85:=Tryz.sizeOf134
 v85:=Tryz.zeroValue134
 t127:=Tryz.underlying122
 a127:=Tryz.isAgg122
 z127:=Tryz.sizeOf122
 v127:=Tryz.zeroValue122
 t143:=Tryz.underlying197
 a143:=Tryz.isAgg197
 z143:=Tryz.sizeOf197
 v143:=Tryz.zeroValue197
 t145:=Tryz.underlying199
 a145:=Tryz.isAgg199
 z145:=Tryz.sizeOf199
 v145:=Tryz.zeroValue199
 t167:=Tryz.underlying169
 a167:=Tryz.isAgg169
 z167:=Tryz.sizeOf169
 v167:=Tryz.zeroValue169
 t168:=Tryz.underlying172
 a168:=Tryz.isAgg172
 z168:=Tryz.sizeOf172
 v168:=Tryz.zeroValue172
 t171:=Tryz.underlying190
 a171:=Tryz.isAgg190
 z171:=Tryz.sizeOf190
 v171:=Tryz.zeroValue190
 t173:=Tryz.underlying193
 a173:=Tryz.isAgg193
 z173:=Tryz.sizeOf193
 v173:=Tryz.zeroValue193
 t175:=Tryz.underlying170
 a175:=Tryz.isAgg170
 z175:=Tryz.sizeOf170
 v175:=Tryz.zeroValue170
 t210:=Tryz.underlying187
 a210:=Tryz.isAgg187
 z210:=Tryz.sizeOf187
 v210:=Tryz.zeroValue187
 t212:=Tryz.underlying202
 a212:=Tryz.isAgg202
 z212:=Tryz.sizeOf202
 v212:=Tryz.zeroValue202
 t213:=Tryz.underlying203
 a213:=Tryz.isAgg203
 z213:=Tryz.sizeOf203
 t232:=Tryz.underlying206
 a232:=Tryz.isAgg206
 z232:=Tryz.sizeOf206
 v232:=Tryz.zeroValue206
 t233:=Tryz.underlying207
 a233:=Tryz.isAgg207
 z233:=Tryz.sizeOf207
 v233:=Tryz.zeroValue207
 g15:=by kernel_rfl
 g16:=by kernel_rfl
 g17:=by kernel_rfl
 g18:=by kernel_rfl
 g19:=by kernel_rfl
 t80:=Tryz.underlying83
 a80:=Tryz.isAgg83
 z80:=Tryz.sizeOf83
 v80:=Tryz.zeroValue83
 i0:=by kernel_rfl
 i2:=by kernel_rfl
 i3:=by kernel_rfl
 i4:=by kernel_rfl
 i5:=by kernel_rfl
 i9:=by kernel_rfl
 i20:=by kernel_rfl
 i21:=by kernel_rfl
 i37:=by kernel_rfl
 i46:=by kernel_rfl
 i51:=by kernel_rfl
 i53:=by kernel_rfl
 i75:=by kernel_rfl
 i80:=by kernel_rfl
 i85:=by kernel_rfl
 i127:=by kernel_rfl
 i143:=by kernel_rfl
 i145:=by kernel_rfl
 i167:=by kernel_rfl
 i168:=by kernel_rfl
 i171:=by kernel_rfl
 i173:=by kernel_rfl
 i175:=by kernel_rfl
 i210:=by kernel_rfl
 i212:=by kernel_rfl
 i232:=by kernel_rfl
 i233:=by kernel_rfl
 m15:=by kernel_rfl
 m16:=by kernel_rfl
 m17:=by kernel_rfl
 m18:=by kernel_rfl
 m19:=by kernel_rfl
 c0:=by kernel_rfl
 c2:=by kernel_rfl
 c3:=by kernel_rfl
 c4:=by kernel_rfl
 c5:=by kernel_rfl
 c9:=by kernel_rfl
 c20:=by kernel_rfl
 c21:=by kernel_rfl
 c37:=by kernel_rfl
 c46:=by kernel_rfl
 c51:=by kernel_rfl
 c53:=by kernel_rfl
 c75:=by kernel_rfl
 c80:=by kernel_rfl
 c85:=by kernel_rfl
 c127:=by kernel_rfl
 c143:=by kernel_rfl
 c145:=by kernel_rfl
 c167:=by kernel_rfl
 c168:=by kernel_rfl
 c171:=by kernel_rfl
 c173:=by kernel_rfl
 c175:=by kernel_rfl
 c210:=by kernel_rfl
 c212:=by kernel_rfl
 c213:=by kernel_rfl
 c232:=by kernel_rfl
 c233:=by kernel_rfl }
open Go.RowKit in
theorem Tryz.strconv_ParseInt_10_at64_ok (s:ByteArray) (hmax:s.size≤9223372036854775806) (v:Int) (h:Lib.parseIntB 64 s.data.toList= .ok v) (w:World):
 Calls Tryz.prog 99 #[.string s, .int .i64 10, .int .i64 64] w fun e w'=>e= .returned (.tuple #[.int .i64 v, .nilIface])∧(w'=w∨ ∃ t,w'=Lib.bytesWorld w 5 t):=Any.strconv_ParseInt_10_at64_ok Tryz.C7 s hmax v h w
open Go.RowKit in
theorem Tryz.strconv_ParseInt_10_at64_range (s:ByteArray) (hlim:s.size≤281474976710656) (h:Lib.parseIntB 64 s.data.toList= .range) (ev:Value) (w:World) (hv:w.cell? ⟨2,0,none⟩=some ev) (hev:ev= .nilIface∨ ∃ te pe,ev= .iface te pe):
 Calls Tryz.prog 99 #[.string s, .int .i64 10, .int .i64 64] w fun e w'=> ∃ N,e= .returned (.tuple #[.int .i64 (Lib.intSat 64 s.data.toList), .iface 172 (.pointer (some ⟨N,0,none⟩))])∧w.heap.size≤N∧w'.heap[N]? =some (.cells #[.string ⟨#[80,97,114,115,101,73,110,116]⟩, .string s,ev] 187 (0,0))∧Below w.heap.size w w':=Any.strconv_ParseInt_10_at64_range Tryz.C7 s hlim h ev w hv hev
def Tryz.Rg:Go.Shelf.Ren:=⟨fun | 173=>145 | 246=>146 | 283=>158 | 284=>159 | 285=>160 | 286=>161 | 129=>170 | 317=>169 | 318=>171 | 319=>172 | 320=>173 | 337=>176 | 338=>177 | n=>n,fun | 2=>2 | 3=>3 | 9=>9 | 4=>4 | 171=>190 | 0=>0 | 53=>157 | 37=>79 | 5=>5 | 173=>193 | 212=>202 | 51=>154 | 20=>20 | 213=>203 | 46=>139 | 232=>206 | 233=>207 | n=>n,fun | 17=>3 | 18=>4 | 19=>5 | n=>n⟩
theorem Tryz.Rf:Go.Proofs.LaysM.n173 Tryz.prog Tryz.Rg:= {
 mixed:=by kernel_rfl
 f129:=Tryz.func170.trans (congrArg some (by kernel_rfl))
 f173:=Tryz.func145.trans (congrArg some (by kernel_rfl))
 f246:=Tryz.func146.trans (congrArg some (by kernel_rfl))
 f283:=Tryz.func158.trans (congrArg some (by kernel_rfl))
 f284:=Tryz.func159.trans (congrArg some (by kernel_rfl))
 f285:=Tryz.func160.trans (congrArg some (by kernel_rfl))
 f286:=Tryz.func161.trans (congrArg some (by kernel_rfl))
 f317:=Tryz.func169.trans (congrArg some (by kernel_rfl))
 f318:=Tryz.func171.trans (congrArg some (by kernel_rfl))
 f319:=Tryz.func172.trans (congrArg some (by kernel_rfl))
 f320:=Tryz.func173.trans (congrArg some (by kernel_rfl))
 f337:=Tryz.func176.trans (congrArg some (by kernel_rfl))
 f338:=Tryz.func177.trans (congrArg some (by kernel_rfl))
 t0:=Tryz.underlying0
 a0:=Tryz.isAgg0
 z0:=Tryz.sizeOf0
 v0:=Tryz.zeroValue0
 t2:=Tryz.underlying2
 a2:=Tryz.isAgg2
 z2:=Tryz.sizeOf2
 v2:=Tryz.zeroValue2
 t3:=Tryz.underlying3
 a3:=Tryz.isAgg3
 z3:=Tryz.sizeOf3
 v3:=Tryz.zeroValue3
 t4:=Tryz.underlying4
 a4:=Tryz.isAgg4
 z4:=Tryz.sizeOf4
 v4:=Tryz.zeroValue4
 t5:=Tryz.underlying5
 a5:=Tryz.isAgg5
 z5:=Tryz.sizeOf5
 v5:=Tryz.zeroValue5
 t9:=Tryz.underlying9
 a9:=Tryz.isAgg9
 z9:=Tryz.sizeOf9
 v9:=Tryz.zeroValue9
 t20:=Tryz.underlying20
 a20:=Tryz.isAgg20
 z20:=Tryz.sizeOf20
 v20:=Tryz.zeroValue20
 t37:=Tryz.underlying79
 a37:=Tryz.isAgg79
 z37:=Tryz.sizeOf79
 v37:=Tryz.zeroValue79
 t46:=Tryz.underlying139
 a46:=Tryz.isAgg139
 z46:=Tryz.sizeOf139
 v46:=Tryz.zeroValue139
 t51:=Tryz.underlying154
 a51:=Tryz.isAgg154
 z51:=Tryz.sizeOf154
 v51:=Tryz.zeroValue154
 t53:=Tryz.underlying157
 a53:=Tryz.isAgg157
 z53:=Tryz.sizeOf157
 v53:=Tryz.zeroValue157
 t171:=Tryz.underlying190
 a171:=Tryz.isAgg190
 z171:=Tryz.sizeOf190
 v171:=Tryz.zeroValue190
 t173:=Tryz.underlying193
 a173:=Tryz.isAgg193
 z173:=Tryz.sizeOf193
 v173:=Tryz.zeroValue193
 t212:=Tryz.underlying202
 a212:=Tryz.isAgg202
 z212:=Tryz.sizeOf202
 v212:=Tryz.zeroValue202
 t213:=Tryz.underlying203
 a213:=Tryz.isAgg203
 z213:=Tryz.sizeOf203
 t232:=Tryz.underlying206
 a232:=Tryz.isAgg206
 z232:=Tryz.sizeOf206
 v232:=Tryz.zeroValue206
 t233:=Tryz.underlying207
 a233:=Tryz.isAgg207
 z233:=Tryz.sizeOf207
 v233:=Tryz.zeroValue207
 g17:=by kernel_rfl
 g18:=by kernel_rfl
 g19:=by kernel_rfl
 i0:=by kernel_rfl
 i2:=by kernel_rfl
 i3:=by kernel_rfl
 i4:=by kernel_rfl
 i5:=by kernel_rfl
 i9:=by kernel_rfl
 i20:=by kernel_rfl
 i37:=by kernel_rfl
 i46:=by kernel_rfl
 i51:=by kernel_rfl
 i53:=by kernel_rfl
 i171:=by kernel_rfl
 i173:=by kernel_rfl
 i212:=by kernel_rfl
 i232:=by kernel_rfl
 i233:=by kernel_rfl
 m17:=by kernel_rfl
 m18:=by kernel_rfl
 m19:=by kernel_rfl }
open Go.RowKit Go.Sort Go.Lib in
theorem Tryz.strconv_FormatInt_10 (n:Int) (h0: -9223372036854775808≤n) (h1:n≤9223372036854775807) (w:World) (htab:Lib.TabIs Tryz.prog w "internal/strconv.uint64pow10" .u64 Lib.pow10Tab):
 Calls Tryz.prog 145 #[.int .i64 n, .int .i64 10] w fun e w'=>e= .returned (.string ⟨(Lib.itoa n).toArray⟩)∧ ∃ k os,w'=grow (w.drewN k) os:=Any.strconv_FormatInt_10 Tryz.Rf n h0 h1 w htab
def Tryz.C6:Go.Shelf.Ren:=⟨fun | 169=>42 | n=>n,fun | 70=>78 | 9=>9 | 0=>0 | 72=>81 | 37=>79 | 127=>122 | 3=>3 | 5=>5 | n=>n,fun | n=>n⟩
theorem Tryz.Rb:Go.Proofs.Lays.n169 Tryz.prog Tryz.C6:= {
 mixed:=by kernel_rfl
 f169:=Tryz.func42.trans (congrArg some (by kernel_rfl))
 t0:=Tryz.underlying0
 a0:=Tryz.isAgg0
 z0:=Tryz.sizeOf0
 v0:=Tryz.zeroValue0
 t3:=Tryz.underlying3
 a3:=Tryz.isAgg3
 z3:=Tryz.sizeOf3
 v3:=Tryz.zeroValue3
 t9:=Tryz.underlying9
 a9:=Tryz.isAgg9
 z9:=Tryz.sizeOf9
 v9:=Tryz.zeroValue9
 t37:=Tryz.underlying79
 a37:=Tryz.isAgg79
 z37:=Tryz.sizeOf79
 v37:=Tryz.zeroValue79
 t70:=Tryz.underlying78
 a70:=Tryz.isAgg78
 z70:=Tryz.sizeOf78
 v70:=Tryz.zeroValue78
 t72:=Tryz.underlying81
 a72:=Tryz.isAgg81
 z72:=Tryz.sizeOf81
 v72:=Tryz.zeroValue81
 t127:=Tryz.underlying122
 a127:=Tryz.isAgg122
 z127:=Tryz.sizeOf122
 v127:=Tryz.zeroValue122 }
theorem Tryz.K9:Builder.Extra Tryz.prog Tryz.C6:= {
 sizeBuilder:=by kernel_rfl
 liesBuilder:=by kernel_rfl
 t5:=Tryz.underlying5
 a5:=Tryz.isAgg5
 z5:=Tryz.sizeOf5
 v5:=Tryz.zeroValue5
 infoByte:=by kernel_rfl
 cellsByte:=by kernel_rfl
 sizeByte:=by kernel_rfl
 neB5:=by decide }
open Go.RowKit in
def Tryz.Ia:Go.Shelf.Ren:=⟨fun | 105=>79 | 212=>105 | 99=>106 | 165=>107 | 166=>78 | 170=>108 | 169=>42 | 263=>126 | 264=>127 | 206=>128 | 240=>104 | 241=>129 | 276=>125 | 277=>144 | n=>n,fun | 9=>9 | 3=>3 | 4=>4 | 20=>20 | 0=>0 | 46=>139 | 109=>140 | 5=>5 | 72=>81 | 76=>118 | 51=>154 | 146=>155 | 53=>157 | 148=>158 | 70=>78 | 37=>79 | 75=>117 | 127=>122 | 164=>152 | 80=>83 | n=>n,fun | n=>n⟩
theorem Tryz.Q6:Go.Proofs.Lays.n105 Tryz.prog Tryz.Ia:= {
 mixed:=by kernel_rfl
 f99:=Tryz.func106.trans (congrArg some (by kernel_rfl))
 f105:=Tryz.func79.trans (congrArg some (by kernel_rfl))
 f165:=Tryz.func107.trans (congrArg some (by kernel_rfl))
 f166:=Tryz.func78.trans (congrArg some (by kernel_rfl))
 f169:=Tryz.func42.trans (congrArg some (by kernel_rfl))
 f170:=Tryz.func108.trans (congrArg some (by kernel_rfl))
 f206:=Tryz.func128.trans (congrArg some (by kernel_rfl))
 f212:=Tryz.func105.trans (congrArg some (by kernel_rfl))
 f240:=Tryz.func104.trans (congrArg some (by kernel_rfl))
 f241:=Tryz.func129.trans (congrArg some (by kernel_rfl))
 f263:=Tryz.func126.trans (congrArg some (by kernel_rfl))
 f264:=Tryz.func127.trans (congrArg some (by kernel_rfl))
 f276:=Tryz.func125.trans (congrArg some (by kernel_rfl))
 f277:=Tryz.func144.trans (congrArg some (by kernel_rfl))
 t0:=Tryz.underlying0
 a0:=Tryz.isAgg0
 z0:=Tryz.sizeOf0
 v0:=Tryz.zeroValue0
 t3:=Tryz.underlying3
 a3:=Tryz.isAgg3
 z3:=Tryz.sizeOf3
 v3:=Tryz.zeroValue3
 t4:=Tryz.underlying4
 a4:=Tryz.isAgg4
 z4:=Tryz.sizeOf4
 v4:=Tryz.zeroValue4
 t5:=Tryz.underlying5
 a5:=Tryz.isAgg5
 z5:=Tryz.sizeOf5
 v5:=Tryz.zeroValue5
 t9:=Tryz.underlying9
 a9:=Tryz.isAgg9
 z9:=Tryz.sizeOf9
 v9:=Tryz.zeroValue9
 t20:=Tryz.underlying20
 a20:=Tryz.isAgg20
 z20:=Tryz.sizeOf20
 v20:=Tryz.zeroValue20
 t37:=Tryz.underlying79
 a37:=Tryz.isAgg79
 z37:=Tryz.sizeOf79
 v37:=Tryz.zeroValue79
 t46:=Tryz.underlying139
 a46:=Tryz.isAgg139
 z46:=Tryz.sizeOf139
 v46:=Tryz.zeroValue139
 t51:=Tryz.underlying154
 a51:=Tryz.isAgg154
 z51:=Tryz.sizeOf154
 v51:=Tryz.zeroValue154
 t53:=Tryz.underlying157
 a53:=Tryz.isAgg157
 z53:=Tryz.sizeOf157
 v53:=Tryz.zeroValue157
 t70:=Tryz.underlying78
 a70:=Tryz.isAgg78
 z70:=Tryz.sizeOf78
 v70:=Tryz.zeroValue78
 t72:=Tryz.underlying81
 a72:=Tryz.isAgg81
 z72:=Tryz.sizeOf81
 v72:=Tryz.zeroValue81
 t75:=Tryz.underlying117
 a75:=Tryz.isAgg117
 z75:=Tryz.sizeOf117
 v75:=Tryz.zeroValue117
 t76:=Tryz.underlying118
 a76:=Tryz.isAgg118
 z76:=Tryz.sizeOf118
 v76:=Tryz.zeroValue118
 t109:=Tryz.underlying140
 a109:=Tryz.isAgg140
 z109:=Tryz.sizeOf140
 v109:=Tryz.zeroValue140
 t127:=Tryz.underlying122
 a127:=Tryz.isAgg122
 z127:=Tryz.sizeOf122
 v127:=Tryz.zeroValue122
 t146:=Tryz.underlying155
 a146:=Tryz.isAgg155
 z146:=Tryz.sizeOf155
 v146:=Tryz.zeroValue155
 t148:=Tryz.underlying158
 a148:=Tryz.isAgg158
 z148:=Tryz.sizeOf158
 v148:=Tryz.zeroValue158
 t164:=Tryz.underlying152
 a164:=Tryz.isAgg152
 z164:=Tryz.sizeOf152
 v164:=Tryz.zeroValue152 }
theorem Tryz.K7:Builder.Extra Tryz.prog Tryz.Ia:= {
 sizeBuilder:=by kernel_rfl
 liesBuilder:=by kernel_rfl
 t5:=Tryz.underlying5
 a5:=Tryz.isAgg5
 z5:=Tryz.sizeOf5
 v5:=Tryz.zeroValue5
 infoByte:=by kernel_rfl
 cellsByte:=by kernel_rfl
 sizeByte:=by kernel_rfl
 neB5:=by decide }
open Go.RowKit Go.Lib in
theorem Tryz.strings_Repeat (s:ByteArray) (c:Nat) (w:World) (hc:c≤9223372036854775807) (hlen:s.size*c≤140737488355328):
 Calls Tryz.prog 79 #[.string s, .int .i64 c] w fun e w'=>e= .returned (.string ⟨(Lib.repeatL s.data.toList c).toArray⟩)∧Below w.heap.size w w':=Any.strings_Repeat Tryz.Q6 Tryz.K7 s c w hc hlen
def Tryz.Re:Go.Shelf.Ren:=⟨fun | 171=>110 | 243=>131 | 246=>146 | 283=>158 | 284=>159 | 285=>160 | 286=>161 | 129=>170 | 317=>169 | 318=>171 | 319=>172 | 320=>173 | 337=>176 | 338=>177 | n=>n,fun | 3=>3 | 9=>9 | 2=>2 | 4=>4 | 171=>190 | 0=>0 | 53=>157 | 37=>79 | 5=>5 | 173=>193 | 212=>202 | 51=>154 | 20=>20 | 213=>203 | 46=>139 | 232=>206 | 233=>207 | n=>n,fun | 17=>3 | 18=>4 | 19=>5 | n=>n⟩
theorem Tryz.Rd:Go.Proofs.LaysM.n171 Tryz.prog Tryz.Re:= {
 mixed:=by kernel_rfl
 f129:=Tryz.func170.trans (congrArg some (by kernel_rfl))
 f171:=Tryz.func110.trans (congrArg some (by kernel_rfl))
 f243:=Tryz.func131.trans (congrArg some (by kernel_rfl))
 f246:=Tryz.func146.trans (congrArg some (by kernel_rfl))
 f283:=Tryz.func158.trans (congrArg some (by kernel_rfl))
 f284:=Tryz.func159.trans (congrArg some (by kernel_rfl))
 f285:=Tryz.func160.trans (congrArg some (by kernel_rfl))
 f286:=Tryz.func161.trans (congrArg some (by kernel_rfl))
 f317:=Tryz.func169.trans (congrArg some (by kernel_rfl))
 f318:=Tryz.func171.trans (congrArg some (by kernel_rfl))
 f319:=Tryz.func172.trans (congrArg some (by kernel_rfl))
 f320:=Tryz.func173.trans (congrArg some (by kernel_rfl))
 f337:=Tryz.func176.trans (congrArg some (by kernel_rfl))
 f338:=Tryz.func177.trans (congrArg some (by kernel_rfl))
 t0:=Tryz.underlying0
 a0:=Tryz.isAgg0
 z0:=Tryz.sizeOf0
 v0:=Tryz.zeroValue0
 t2:=Tryz.underlying2
 a2:=Tryz.isAgg2
 z2:=Tryz.sizeOf2
 v2:=Tryz.zeroValue2
 t3:=Tryz.underlying3
 a3:=Tryz.isAgg3
 z3:=Tryz.sizeOf3
 v3:=Tryz.zeroValue3
 t4:=Tryz.underlying4
 a4:=Tryz.isAgg4
 z4:=Tryz.sizeOf4
 v4:=Tryz.zeroValue4
 t5:=Tryz.underlying5
 a5:=Tryz.isAgg5
 z5:=Tryz.sizeOf5
 v5:=Tryz.zeroValue5
 t9:=Tryz.underlying9
 a9:=Tryz.isAgg9
 z9:=Tryz.sizeOf9
 v9:=Tryz.zeroValue9
 t20:=Tryz.underlying20
 a20:=Tryz.isAgg20
 z20:=Tryz.sizeOf20
 v20:=Tryz.zeroValue20
 t37:=Tryz.underlying79
 a37:=Tryz.isAgg79
 z37:=Tryz.sizeOf79
 v37:=Tryz.zeroValue79
 t46:=Tryz.underlying139
 a46:=Tryz.isAgg139
 z46:=Tryz.sizeOf139
 v46:=Tryz.zeroValue139
 t51:=Tryz.underlying154
 a51:=Tryz.isAgg154
 z51:=Tryz.sizeOf154
 v51:=Tryz.zeroValue154
 t53:=Tryz.underlying157
 a53:=Tryz.isAgg157
 z53:=Tryz.sizeOf157
 v53:=Tryz.zeroValue157
 t171:=Tryz.underlying190
 a171:=Tryz.isAgg190
 z171:=Tryz.sizeOf190
 v171:=Tryz.zeroValue190
 t173:=Tryz.underlying193
 a173:=Tryz.isAgg193
 z173:=Tryz.sizeOf193
 v173:=Tryz.zeroValue193
 t212:=Tryz.underlying202
 a212:=Tryz.isAgg202
 z212:=Tryz.sizeOf202
 v212:=Tryz.zeroValue202
 t213:=Tryz.underlying203
 a213:=Tryz.isAgg203
 z213:=Tryz.sizeOf203
 t232:=Tryz.underlying206
 a232:=Tryz.isAgg206
 z232:=Tryz.sizeOf206
 v232:=Tryz.zeroValue206
 t233:=Tryz.underlying207
 a233:=Tryz.isAgg207
 z233:=Tryz.sizeOf207
 v233:=Tryz.zeroValue207
 g17:=by kernel_rfl
 g18:=by kernel_rfl
 g19:=by kernel_rfl
 i0:=by kernel_rfl
 i2:=by kernel_rfl
 i3:=by kernel_rfl
 i4:=by kernel_rfl
 i5:=by kernel_rfl
 i9:=by kernel_rfl
 i20:=by kernel_rfl
 i37:=by kernel_rfl
 i46:=by kernel_rfl
 i51:=by kernel_rfl
 i53:=by kernel_rfl
 i171:=by kernel_rfl
 i173:=by kernel_rfl
 i212:=by kernel_rfl
 i232:=by kernel_rfl
 i233:=by kernel_rfl
 m17:=by kernel_rfl
 m18:=by kernel_rfl
 m19:=by kernel_rfl }
open Go.RowKit Go.Sort Go.Lib in
theorem Tryz.strconv_Itoa (n:Int) (h0: -9223372036854775808≤n) (h1:n≤9223372036854775807) (w:World) (htab:Lib.TabIs Tryz.prog w "internal/strconv.uint64pow10" .u64 Lib.pow10Tab):
 Calls Tryz.prog 110 #[.int .i64 n] w fun e w'=>e= .returned (.string ⟨(Lib.itoa n).toArray⟩)∧ ∃ k os,w'=grow (w.drewN k) os:=Any.strconv_Itoa Tryz.Rd n h0 h1 w htab
end Go.Proofs
namespace Go.Proofs
open Go.Shelf
def Tryz.C5:Go.Shelf.Ren:=⟨fun | 166=>78 | 240=>104 | 276=>125 | n=>n,fun | 0=>0 | 3=>3 | 4=>4 | 5=>5 | 9=>9 | 20=>20 | 31=>42 | 37=>79 | 70=>78 | 72=>81 | 75=>117 | 76=>118 | 80=>83 | 127=>122 | 164=>152 | n=>n,fun | n=>n⟩
theorem Tryz.Ra:Go.Proofs.Lays.n166 Tryz.prog Tryz.C5:= {
 mixed:=by kernel_rfl
 f166:=Tryz.func78.trans (congrArg some (by kernel_rfl))
 f240:=Tryz.func104.trans (congrArg some (by kernel_rfl))
 f276:=Tryz.func125.trans (congrArg some (by kernel_rfl))
 t0:=Tryz.underlying0
 a0:=Tryz.isAgg0
 z0:=Tryz.sizeOf0
 v0:=Tryz.zeroValue0
 t3:=Tryz.underlying3
 a3:=Tryz.isAgg3
 z3:=Tryz.sizeOf3
 v3:=Tryz.zeroValue3
 t4:=Tryz.underlying4
 a4:=Tryz.isAgg4
 z4:=Tryz.sizeOf4
 v4:=Tryz.zeroValue4
 t9:=Tryz.underlying9
 a9:=Tryz.isAgg9
 z9:=Tryz.sizeOf9
 v9:=Tryz.zeroValue9
 t20:=Tryz.underlying20
 a20:=Tryz.isAgg20
 z20:=Tryz.sizeOf20
 v20:=Tryz.zeroValue20
 t37:=Tryz.underlying79
 a37:=Tryz.isAgg79
 z37:=Tryz.sizeOf79
 v37:=Tryz.zeroValue79
 t70:=Tryz.underlying78
 a70:=Tryz.isAgg78
 z70:=Tryz.sizeOf78
 v70:=Tryz.zeroValue78
 t72:=Tryz.underlying81
 a72:=Tryz.isAgg81
 z72:=Tryz.sizeOf81
 v72:=Tryz.zeroValue81
 t75:=Tryz.underlying117
 a75:=Tryz.isAgg117
 z75:=Tryz.sizeOf117
 v75:=Tryz.zeroValue117
 t164:=Tryz.underlying152
 a164:=Tryz.isAgg152
 z164:=Tryz.sizeOf152
 v164:=Tryz.zeroValue152 }
theorem Tryz.K8:Builder.Extra Tryz.prog Tryz.C5:= {
 sizeBuilder:=by kernel_rfl
 liesBuilder:=by kernel_rfl
 t5:=Tryz.underlying5
 a5:=Tryz.isAgg5
 z5:=Tryz.sizeOf5
 v5:=Tryz.zeroValue5
 infoByte:=by kernel_rfl
 cellsByte:=by kernel_rfl
 sizeByte:=by kernel_rfl
 neB5:=by decide }
def Tryz.zg:Go.Shelf.Ren:=⟨fun | 167=>81 | 240=>104 | 276=>125 | n=>n,fun | 0=>0 | 3=>3 | 4=>4 | 5=>5 | 9=>9 | 20=>20 | 31=>42 | 37=>79 | 70=>78 | 72=>81 | 75=>117 | 76=>118 | 80=>83 | 127=>122 | 164=>152 | n=>n,fun | n=>n⟩
theorem Tryz.Ib:Go.Proofs.Lays.n167 Tryz.prog Tryz.zg:= {
 mixed:=by kernel_rfl
 f167:=Tryz.func81.trans (congrArg some (by kernel_rfl))
 f240:=Tryz.func104.trans (congrArg some (by kernel_rfl))
 f276:=Tryz.func125.trans (congrArg some (by kernel_rfl))
 t0:=Tryz.underlying0
 a0:=Tryz.isAgg0
 z0:=Tryz.sizeOf0
 v0:=Tryz.zeroValue0
 t4:=Tryz.underlying4
 a4:=Tryz.isAgg4
 z4:=Tryz.sizeOf4
 v4:=Tryz.zeroValue4
 t5:=Tryz.underlying5
 a5:=Tryz.isAgg5
 z5:=Tryz.sizeOf5
 v5:=Tryz.zeroValue5
 t9:=Tryz.underlying9
 a9:=Tryz.isAgg9
 z9:=Tryz.sizeOf9
 v9:=Tryz.zeroValue9
 t20:=Tryz.underlying20
 a20:=Tryz.isAgg20
 z20:=Tryz.sizeOf20
 v20:=Tryz.zeroValue20
 t37:=Tryz.underlying79
 a37:=Tryz.isAgg79
 z37:=Tryz.sizeOf79
 v37:=Tryz.zeroValue79
 t70:=Tryz.underlying78
 a70:=Tryz.isAgg78
 z70:=Tryz.sizeOf78
 v70:=Tryz.zeroValue78
 t72:=Tryz.underlying81
 a72:=Tryz.isAgg81
 z72:=Tryz.sizeOf81
 v72:=Tryz.zeroValue81
 t75:=Tryz.underlying117
 a75:=Tryz.isAgg117
 z75:=Tryz.sizeOf117
 v75:=Tryz.zeroValue117
 t164:=Tryz.underlying152
 a164:=Tryz.isAgg152
 z164:=Tryz.sizeOf152
 v164:=Tryz.zeroValue152 }
theorem Tryz.ES:Builder.Extra Tryz.prog Tryz.zg:= {
 sizeBuilder:=by kernel_rfl
 liesBuilder:=by kernel_rfl
 t5:=Tryz.underlying5
 a5:=Tryz.isAgg5
 z5:=Tryz.sizeOf5
 v5:=Tryz.zeroValue5
 infoByte:=by kernel_rfl
 cellsByte:=by kernel_rfl
 sizeByte:=by kernel_rfl
 neB5:=by decide }
end Go.Proofs
set_option maxRecDepth 100000
namespace Go.Sy.Ex
open Go.Sy Go.Proofs
noncomputable section
structure af where
 Kind:Int
 N:Int
 Name:List UInt8
 Kids:List af
 At:Int
def af.z:af:=⟨0,0,[],[],0⟩
structure ah where
 Kind:Int
 Name:List UInt8
 Event:List UInt8
 X:List af
 N:Int
 aK:List ah
 aD:List ah
 At:Int
def ah.z:ah:=⟨0,[],[],[],0,[],[],0⟩
structure ax where
 Kind:Int
 At:Int
 End:Int
 Text:List UInt8
 N:Int
 deriving DecidableEq
def ax.z:ax:=⟨0,0,0,[],0⟩
structure bf where
 Code:Int
 At:Int
 deriving DecidableEq
def bf.z:bf:=⟨0,0⟩
structure bC where
 L:List ax
 At:Int
 bN:bf
 deriving DecidableEq
def bC.z:bC:=⟨[],0,bf.z⟩
structure aL where
 Row:bC
 aM:Int
 deriving DecidableEq
def aL.z:aL:=⟨bC.z,0⟩
structure aE where
 Row:bC
 aM:Int
 deriving DecidableEq
def aE.z:aE:=⟨bC.z,0⟩
structure tT where
 L:List Int
 At:Int
 deriving DecidableEq
def tT.z:tT:=⟨[],0⟩
structure tU where
 Vars:List (List UInt8)
 Lh:List (List UInt8)
 Ly:List (List UInt8)
 Lw:List (List UInt8)
 deriving DecidableEq
def tU.z:tU:=⟨[],[],[],[]⟩
structure aU where
 l:List ax
 an:Int
 aM:Int
 bad:bf
 deriving DecidableEq
def aU.z:aU:=⟨[],0,0,bf.z⟩
def C:Nat→Type
 | 0=>ah
 | 1=>af
 | 2=>ax
 | 3=>bf
 | 4=>bC
 | 5=>aL
 | 6=>aE
 | 7=>Unit
 | 8=>List UInt8×List UInt8×List UInt8×List UInt8×List UInt8×List UInt8×List UInt8×List UInt8×List UInt8×List UInt8×List UInt8×List UInt8×List UInt8
 | 9=>List UInt8×List UInt8×List UInt8×List UInt8×List UInt8×List UInt8×List UInt8×List UInt8×List UInt8×List UInt8×List UInt8×List UInt8×List UInt8×List UInt8×List UInt8×List UInt8×List UInt8×List UInt8×List UInt8×List UInt8×List UInt8×List UInt8×List UInt8×List UInt8×List UInt8×List UInt8×List UInt8×List UInt8×List UInt8×List UInt8×List UInt8×List UInt8×List UInt8×List UInt8×List UInt8
 | 10=>List UInt8×List UInt8×List UInt8×List UInt8×List UInt8×List UInt8×List UInt8×List UInt8×List UInt8×List UInt8×List UInt8×List UInt8×List UInt8×List UInt8×List UInt8×List UInt8×List UInt8×List UInt8×List UInt8×List UInt8
 | 11=>tT
 | 12=>tU
 | 13=>Int×Int×Int×Int×Int×Int
 | 14=>List UInt8×List UInt8×List UInt8×List UInt8×List UInt8×List UInt8×List UInt8×List UInt8
 | 15=>List UInt8×List UInt8×List UInt8×List UInt8×List UInt8×List UInt8×List UInt8
 | 16=>aU
 | _+17=>Unit
def F:Nat→List Ty
 | 0=> [.int .i64, .str, .str, .sl (.st 1), .int .i64, .sl (.st 0), .sl (.st 0), .int .i64]
 | 1=> [.int .i64, .int .i64, .str, .sl (.st 1), .int .i64]
 | 2=> [.int .i64, .int .i64, .int .i64, .str, .int .i64]
 | 3=> [.int .i64, .int .i64]
 | 4=> [.sl (.st 2), .int .i64, .int .i64, .int .i64]
 | 5=> [.sl (.st 2), .int .i64, .int .i64, .int .i64, .int .i64]
 | 6=> [.sl (.st 2), .int .i64, .int .i64, .int .i64, .int .i64]
 | 7=> []
 | 8=> [.str, .str, .str, .str, .str, .str, .str, .str, .str, .str, .str, .str, .str]
 | 9=> [.str, .str, .str, .str, .str, .str, .str, .str, .str, .str, .str, .str, .str, .str, .str, .str, .str, .str, .str, .str, .str, .str, .str, .str, .str, .str, .str, .str, .str, .str, .str, .str, .str, .str, .str]
 | 10=> [.str, .str, .str, .str, .str, .str, .str, .str, .str, .str, .str, .str, .str, .str, .str, .str, .str, .str, .str, .str]
 | 11=> [.sl (.int .i64), .int .i64]
 | 12=> [.sl .str, .sl .str, .sl .str, .sl .str]
 | 13=> [.int .i64, .int .i64, .int .i64, .int .i64, .int .i64, .int .i64]
 | 14=> [.str, .str, .str, .str, .str, .str, .str, .str]
 | 15=> [.str, .str, .str, .str, .str, .str, .str]
 | 16=> [.sl (.st 2), .int .i64, .int .i64, .int .i64, .int .i64]
 | _+17=> []
def ex:(t:Nat)→C t→aq C (F t)
 | 0,(x:ah)=>(x.Kind,x.Name,x.Event,x.X,x.N,x.aK,x.aD,x.At)
 | 1,(x:af)=>(x.Kind,x.N,x.Name,x.Kids,x.At)
 | 2,(x:ax)=>(x.Kind,x.At,x.End,x.Text,x.N)
 | 3,(x:bf)=>(x.Code,x.At)
 | 4,(x:bC)=>(x.L,x.At,x.bN.Code,x.bN.At)
 | 5,(x:aL)=>(x.Row.L,x.Row.At,x.Row.bN.Code,x.Row.bN.At,x.aM)
 | 6,(x:aE)=>(x.Row.L,x.Row.At,x.Row.bN.Code,x.Row.bN.At,x.aM)
 | 7,_=>()
 | 8,(x:List UInt8×List UInt8×List UInt8×List UInt8×List UInt8×List UInt8×List UInt8×List UInt8×List UInt8×List UInt8×List UInt8×List UInt8×List UInt8)=>(x.1,x.2.1,x.2.2.1,x.2.2.2.1,x.2.2.2.2.1,x.2.2.2.2.2.1,x.2.2.2.2.2.2.1,x.2.2.2.2.2.2.2.1,x.2.2.2.2.2.2.2.2.1,x.2.2.2.2.2.2.2.2.2.1,x.2.2.2.2.2.2.2.2.2.2.1,x.2.2.2.2.2.2.2.2.2.2.2.1,x.2.2.2.2.2.2.2.2.2.2.2.2)
 | 9,(x:List UInt8×List UInt8×List UInt8×List UInt8×List UInt8×List UInt8×List UInt8×List UInt8×List UInt8×List UInt8×List UInt8×List UInt8×List UInt8×List UInt8×List UInt8×List UInt8×List UInt8×List UInt8×List UInt8×List UInt8×List UInt8×List UInt8×List UInt8×List UInt8×List UInt8×List UInt8×List UInt8×List UInt8×List UInt8×List UInt8×List UInt8×List UInt8×List UInt8×List UInt8×List UInt8)=>(x.1,x.2.1,x.2.2.1,x.2.2.2.1,x.2.2.2.2.1,x.2.2.2.2.2.1,x.2.2.2.2.2.2.1,x.2.2.2.2.2.2.2.1,x.2.2.2.2.2.2.2.2.1,x.2.2.2.2.2.2.2.2.2.1,x.2.2.2.2.2.2.2.2.2.2.1,x.2.2.2.2.2.2.2.2.2.2.2.1,x.2.2.2.2.2.2.2.2.2.2.2.2.1,x.2.2.2.2.2.2.2.2.2.2.2.2.2.1,x.2.2.2.2.2.2.2.2.2.2.2.2.2.2.1,x.2.2.2.2.2.2.2.2.2.2.2.2.2.2.2.1,x.2.2.2.2.2.2.2.2.2.2.2.2.2.2.2.2.1,x.2.2.2.2.2.2.2.2.2.2.2.2.2.2.2.2.2.1,x.2.2.2.2.2.2.2.2.2.2.2.2.2.2.2.2.2.2.1,x.2.2.2.2.2.2.2.2.2.2.2.2.2.2.2.2.2.2.2.1,x.2.2.2.2.2.2.2.2.2.2.2.2.2.2.2.2.2.2.2.2.1,x.2.2.2.2.2.2.2.2.2.2.2.2.2.2.2.2.2.2.2.2.2.1,x.2.2.2.2.2.2.2.2.2.2.2.2.2.2.2.2.2.2.2.2.2.2.1,x.2.2.2.2.2.2.2.2.2.2.2.2.2.2.2.2.2.2.2.2.2.2.2.1,x.2.2.2.2.2.2.2.2.2.2.2.2.2.2.2.2.2.2.2.2.2.2.2.2.1,x.2.2.2.2.2.2.2.2.2.2.2.2.2.2.2.2.2.2.2.2.2.2.2.2.2.1,x.2.2.2.2.2.2.2.2.2.2.2.2.2.2.2.2.2.2.2.2.2.2.2.2.2.2.1,x.2.2.2.2.2.2.2.2.2.2.2.2.2.2.2.2.2.2.2.2.2.2.2.2.2.2.2.1,x.2.2.2.2.2.2.2.2.2.2.2.2.2.2.2.2.2.2.2.2.2.2.2.2.2.2.2.2.1,x.2.2.2.2.2.2.2.2.2.2.2.2.2.2.2.2.2.2.2.2.2.2.2.2.2.2.2.2.2.1,x.2.2.2.2.2.2.2.2.2.2.2.2.2.2.2.2.2.2.2.2.2.2.2.2.2.2.2.2.2.2.1,x.2.2.2.2.2.2.2.2.2.2.2.2.2.2.2.2.2.2.2.2.2.2.2.2.2.2.2.2.2.2.2.1,x.2.2.2.2.2.2.2.2.2.2.2.2.2.2.2.2.2.2.2.2.2.2.2.2.2.2.2.2.2.2.2.2.1,x.2.2.2.2.2.2.2.2.2.2.2.2.2.2.2.2.2.2.2.2.2.2.2.2.2.2.2.2.2.2.2.2.2.1,x.2.2.2.2.2.2.2.2.2.2.2.2.2.2.2.2.2.2.2.2.2.2.2.2.2.2.2.2.2.2.2.2.2.2)
 | 10,(x:List UInt8×List UInt8×List UInt8×List UInt8×List UInt8×List UInt8×List UInt8×List UInt8×List UInt8×List UInt8×List UInt8×List UInt8×List UInt8×List UInt8×List UInt8×List UInt8×List UInt8×List UInt8×List UInt8×List UInt8)=>(x.1,x.2.1,x.2.2.1,x.2.2.2.1,x.2.2.2.2.1,x.2.2.2.2.2.1,x.2.2.2.2.2.2.1,x.2.2.2.2.2.2.2.1,x.2.2.2.2.2.2.2.2.1,x.2.2.2.2.2.2.2.2.2.1,x.2.2.2.2.2.2.2.2.2.2.1,x.2.2.2.2.2.2.2.2.2.2.2.1,x.2.2.2.2.2.2.2.2.2.2.2.2.1,x.2.2.2.2.2.2.2.2.2.2.2.2.2.1,x.2.2.2.2.2.2.2.2.2.2.2.2.2.2.1,x.2.2.2.2.2.2.2.2.2.2.2.2.2.2.2.1,x.2.2.2.2.2.2.2.2.2.2.2.2.2.2.2.2.1,x.2.2.2.2.2.2.2.2.2.2.2.2.2.2.2.2.2.1,x.2.2.2.2.2.2.2.2.2.2.2.2.2.2.2.2.2.2.1,x.2.2.2.2.2.2.2.2.2.2.2.2.2.2.2.2.2.2.2)
 | 11,(x:tT)=>(x.L,x.At)
 | 12,(x:tU)=>(x.Vars,x.Lh,x.Ly,x.Lw)
 | 13,(x:Int×Int×Int×Int×Int×Int)=>(x.1,x.2.1,x.2.2.1,x.2.2.2.1,x.2.2.2.2.1,x.2.2.2.2.2)
 | 14,(x:List UInt8×List UInt8×List UInt8×List UInt8×List UInt8×List UInt8×List UInt8×List UInt8)=>(x.1,x.2.1,x.2.2.1,x.2.2.2.1,x.2.2.2.2.1,x.2.2.2.2.2.1,x.2.2.2.2.2.2.1,x.2.2.2.2.2.2.2)
 | 15,(x:List UInt8×List UInt8×List UInt8×List UInt8×List UInt8×List UInt8×List UInt8)=>(x.1,x.2.1,x.2.2.1,x.2.2.2.1,x.2.2.2.2.1,x.2.2.2.2.2.1,x.2.2.2.2.2.2)
 | 16,(x:aU)=>(x.l,x.an,x.aM,x.bad.Code,x.bad.At)
 | _+17,_=>()
def im:(t:Nat)→aq C (F t)→C t
 | 0,(a0,a1,a2,a3,a4,a5,a6,a7)=>ah.mk a0 a1 a2 a3 a4 a5 a6 a7
 | 1,(a0,a1,a2,a3,a4)=>af.mk a0 a1 a2 a3 a4
 | 2,(a0,a1,a2,a3,a4)=>ax.mk a0 a1 a2 a3 a4
 | 3,(a0,a1)=>bf.mk a0 a1
 | 4,(a0,a1,a2,a3)=>bC.mk a0 a1 (bf.mk a2 a3)
 | 5,(a0,a1,a2,a3,a4)=>aL.mk (bC.mk a0 a1 (bf.mk a2 a3)) a4
 | 6,(a0,a1,a2,a3,a4)=>aE.mk (bC.mk a0 a1 (bf.mk a2 a3)) a4
 | 7,_=>()
 | 8,(a0,a1,a2,a3,a4,a5,a6,a7,a8,a9,uV,uW,a12)=>(a0,a1,a2,a3,a4,a5,a6,a7,a8,a9,uV,uW,a12)
 | 9,(a0,a1,a2,a3,a4,a5,a6,a7,a8,a9,uV,uW,a12,A8,A9,A_,Ba,Bb,Bc,Bd,a20,a21,LA,LB,a24,LC,LD,LF,a28,LG,LH,a31,a32,LI,LJ)=>(a0,a1,a2,a3,a4,a5,a6,a7,a8,a9,uV,uW,a12,A8,A9,A_,Ba,Bb,Bc,Bd,a20,a21,LA,LB,a24,LC,LD,LF,a28,LG,LH,a31,a32,LI,LJ)
 | 10,(a0,a1,a2,a3,a4,a5,a6,a7,a8,a9,uV,uW,a12,A8,A9,A_,Ba,Bb,Bc,Bd)=>(a0,a1,a2,a3,a4,a5,a6,a7,a8,a9,uV,uW,a12,A8,A9,A_,Ba,Bb,Bc,Bd)
 | 11,(a0,a1)=>tT.mk a0 a1
 | 12,(a0,a1,a2,a3)=>tU.mk a0 a1 a2 a3
 | 13,(a0,a1,a2,a3,a4,a5)=>(a0,a1,a2,a3,a4,a5)
 | 14,(a0,a1,a2,a3,a4,a5,a6,a7)=>(a0,a1,a2,a3,a4,a5,a6,a7)
 | 15,(a0,a1,a2,a3,a4,a5,a6)=>(a0,a1,a2,a3,a4,a5,a6)
 | 16,(a0,a1,a2,a3,a4)=>aU.mk a0 a1 a2 (bf.mk a3 a4)
 | _+17,_=>()
def jJ:Nat→List (Nat×Ty)
 | 0=> [(0, .int .i64),(1, .str),(2, .str),(3, .sl (.st 1)),(4, .int .i64),(5, .sl (.st 0)),(6, .sl (.st 0)),(7, .int .i64)]
 | 1=> [(0, .int .i64),(1, .int .i64),(2, .str),(3, .sl (.st 1)),(4, .int .i64)]
 | 2=> [(0, .int .i64),(1, .int .i64),(2, .int .i64),(3, .str),(4, .int .i64)]
 | 3=> [(0, .int .i64),(1, .int .i64)]
 | 4=> [(0, .sl (.st 2)),(1, .int .i64),(2, .st 3)]
 | 5=> [(0, .st 4),(4, .int .i64)]
 | 6=> [(0, .st 4),(4, .int .i64)]
 | 7=> []
 | 8=>kO (.str) 13 0
 | 9=>kO (.str) 35 0
 | 10=>kO (.str) 20 0
 | 11=> [(0, .sl (.int .i64)),(1, .int .i64)]
 | 12=> [(0, .sl .str),(1, .sl .str),(2, .sl .str),(3, .sl .str)]
 | 13=>kO (.int .i64) 6 0
 | 14=>kO (.str) 8 0
 | 15=>kO (.str) 7 0
 | 16=> [(0, .sl (.st 2)),(1, .int .i64),(2, .int .i64),(3, .st 3)]
 | _+17=> []
def z:(t:Nat)→C t
 | 0=>ah.z
 | 1=>af.z
 | 2=>ax.z
 | 3=>bf.z
 | 4=>bC.z
 | 5=>aL.z
 | 6=>aE.z
 | 7=>()
 | 8=>([],[],[],[],[],[],[],[],[],[],[],[],[])
 | 9=>([],[],[],[],[],[],[],[],[],[],[],[],[],[],[],[],[],[],[],[],[],[],[],[],[],[],[],[],[],[],[],[],[],[],[])
 | 10=>([],[],[],[],[],[],[],[],[],[],[],[],[],[],[],[],[],[],[],[])
 | 11=>tT.z
 | 12=>tU.z
 | 13=>(0,0,0,0,0,0)
 | 14=>([],[],[],[],[],[],[],[])
 | 15=>([],[],[],[],[],[],[])
 | 16=>aU.z
 | _+17=>()
def ED:List (Nat×Ty):= [(2, .int .i64),(3, .int .i64),(4, .bool),(5, .int .u8),(9, .str),(22, .sl (.st 2)),(23, .int .i64),(25, .st 3),(30, .sl (.st 0)),(35, .sl (.int .i64)),(41, .st 11),(42, .sl .str),(44, .st 12),(47, .sl .bool),(50, .int .i8),(57, .st 2),(60, .sl (.st 1)),(62, .st 0),(65, .st 4),(67, .st 5),(72, .st 1),(106, .st 13),(107, .st 14),(124, .st 15),(148, .st 10),(164, .st 6),(168, .st 16),(179, .st 9),(189, .st 8)]
def MA:List (Nat×(Nat×Ty)):= [(106,6, .int .i64),(107,8, .str),(124,7, .str),(148,20, .str),(179,35, .str),(189,13, .str)]
def BN:List (Nat×Unit):= [(25,())]
def CY:List (Nat×Unit):= [(117,())]
def DJ:List (Nat×Unit):= []
def Va:List (Nat×Unit):= []
abbrev S:aS:=⟨C,F,ex,im,fun u f=>(jJ u)[f]?,z,look ED,fun t=>(look DJ t).isSome,look MA,fun t=>(look BN t).isSome,fun t=>(look CY t).isSome,[((0,0),fun v=> ∃ m,v= .int .i64 m),((2,0),fun v=>v= .nilIface∨ ∃ t p,v= .iface t p),((1,0),fun v=>v= .nilIface∨ ∃ t p,v= .iface t p)],[(3,fun ob=> ∃ t f,ob= .cells (Go.Lib.pow10Tab.map fun z=>Value.int .u64 z).toArray t f)],some (81,5),fun t=>(look Va t).isSome⟩
def Ng:List (Nat×Nat):= [(22,48),(30,128),(35,8),(42,16),(47,1),(60,64)]
def ak (t:Nat):Nat:=(look Ng t).getD 1
theorem El:cT S:=⟨fun | 0=>rfl | 1=>rfl | 2=>rfl | 3=>rfl | 4=>rfl | 5=>rfl | 6=>rfl | 7=>rfl | 8=>rfl | 9=>rfl | 10=>rfl | 11=>rfl | 12=>rfl | 13=>rfl | 14=>rfl | 15=>rfl | 16=>rfl | _+17=>rfl,fun | 0,_=>rfl | 1,_=>rfl | 2,_=>rfl | 3,_=>rfl | 4,_=>rfl | 5,_=>rfl | 6,_=>rfl | 7,_=>rfl | 8,_=>rfl | 9,_=>rfl | 10,_=>rfl | 11,_=>rfl | 12,_=>rfl | 13,_=>rfl | 14,_=>rfl | 15,_=>rfl | 16,_=>rfl | _+17,_=>rfl⟩
theorem VG:bZ Tryz.prog S ak 2 (.int .i64):=pT rfl (by kernel_rfl) (by kernel_rfl) (by kernel_rfl)
theorem VK:bZ Tryz.prog S ak 3 (.int .i64):=pT rfl (by kernel_rfl) (by kernel_rfl) (by kernel_rfl)
theorem VN:bZ Tryz.prog S ak 4 (.bool):=KJ rfl (by kernel_rfl) (by kernel_rfl) (by kernel_rfl)
theorem VS:bZ Tryz.prog S ak 5 (.int .u8):=pT rfl (by kernel_rfl) (by kernel_rfl) (by kernel_rfl)
theorem V0:bZ Tryz.prog S ak 9 (.str):=KK rfl (by kernel_rfl) (by kernel_rfl) (by kernel_rfl)
theorem VH:bZ Tryz.prog S ak 22 (.sl (.st 2)):=ni rfl (by kernel_rfl) (by kernel_rfl) Tryz.underlying22 rfl rfl (by kernel_rfl) (by kernel_rfl)
theorem VI:bZ Tryz.prog S ak 23 (.int .i64):=pT rfl (by kernel_rfl) (by kernel_rfl) (by kernel_rfl)
theorem VJ:bZ Tryz.prog S ak 25 (.st 3):=lB (l:=jJ 3) rfl (by kernel_rfl) rfl (by kernel_rfl) (by kernel_rfl) rfl (by kernel_rfl) Tryz.underlying25 (by kernel_rfl) (fun _=>rfl) rfl
theorem VL:bZ Tryz.prog S ak 30 (.sl (.st 0)):=ni rfl (by kernel_rfl) (by kernel_rfl) Tryz.underlying30 rfl rfl (by kernel_rfl) (by kernel_rfl)
theorem VM:bZ Tryz.prog S ak 35 (.sl (.int .i64)):=ni rfl (by kernel_rfl) (by kernel_rfl) Tryz.underlying35 rfl rfl (by kernel_rfl) (by kernel_rfl)
theorem VO:bZ Tryz.prog S ak 41 (.st 11):=lB (l:=jJ 11) rfl (by kernel_rfl) rfl (by kernel_rfl) (by kernel_rfl) rfl (by kernel_rfl) Tryz.underlying41 (by kernel_rfl) (fun _=>rfl) rfl
theorem VP:bZ Tryz.prog S ak 42 (.sl .str):=ni rfl (by kernel_rfl) (by kernel_rfl) Tryz.underlying42 rfl rfl (by kernel_rfl) (by kernel_rfl)
theorem VQ:bZ Tryz.prog S ak 44 (.st 12):=lB (l:=jJ 12) rfl (by kernel_rfl) rfl (by kernel_rfl) (by kernel_rfl) rfl (by kernel_rfl) Tryz.underlying44 (by kernel_rfl) (fun _=>rfl) rfl
theorem VR:bZ Tryz.prog S ak 47 (.sl .bool):=ni rfl (by kernel_rfl) (by kernel_rfl) Tryz.underlying47 rfl rfl (by kernel_rfl) (by kernel_rfl)
theorem VT:bZ Tryz.prog S ak 50 (.int .i8):=pT rfl (by kernel_rfl) (by kernel_rfl) (by kernel_rfl)
theorem VU:bZ Tryz.prog S ak 57 (.st 2):=lB (l:=jJ 2) rfl (by kernel_rfl) rfl (by kernel_rfl) (by kernel_rfl) rfl (by kernel_rfl) Tryz.underlying57 (by kernel_rfl) (fun _=>rfl) rfl
theorem VV:bZ Tryz.prog S ak 60 (.sl (.st 1)):=ni rfl (by kernel_rfl) (by kernel_rfl) Tryz.underlying60 rfl rfl (by kernel_rfl) (by kernel_rfl)
theorem VW:bZ Tryz.prog S ak 62 (.st 0):=lB (l:=jJ 0) rfl (by kernel_rfl) rfl (by kernel_rfl) (by kernel_rfl) rfl (by kernel_rfl) Tryz.underlying62 (by kernel_rfl) (fun _=>rfl) rfl
theorem VX:bZ Tryz.prog S ak 65 (.st 4):=lB (l:=jJ 4) rfl (by kernel_rfl) rfl (by kernel_rfl) (by kernel_rfl) rfl (by kernel_rfl) Tryz.underlying65 (by kernel_rfl) (fun _=>rfl) rfl
theorem VY:bZ Tryz.prog S ak 67 (.st 5):=lB (l:=jJ 5) rfl (by kernel_rfl) rfl (by kernel_rfl) (by kernel_rfl) rfl (by kernel_rfl) Tryz.underlying67 (by kernel_rfl) (fun _=>rfl) rfl
theorem VZ:bZ Tryz.prog S ak 72 (.st 1):=lB (l:=jJ 1) rfl (by kernel_rfl) rfl (by kernel_rfl) (by kernel_rfl) rfl (by kernel_rfl) Tryz.underlying72 (by kernel_rfl) (fun _=>rfl) rfl
theorem Vw:bZ Tryz.prog S ak 106 (.st 13):=uF rfl (by kernel_rfl) rfl (by kernel_rfl) (by kernel_rfl) rfl (by kernel_rfl) Tryz.underlying106 rfl rfl rfl (by kernel_rfl) (fun _=>rfl) rfl
theorem Vy:bZ Tryz.prog S ak 107 (.st 14):=uF rfl (by kernel_rfl) rfl (by kernel_rfl) (by kernel_rfl) rfl (by kernel_rfl) Tryz.underlying107 rfl rfl rfl (by kernel_rfl) (fun _=>rfl) rfl
theorem Vz:bZ Tryz.prog S ak 124 (.st 15):=uF rfl (by kernel_rfl) rfl (by kernel_rfl) (by kernel_rfl) rfl (by kernel_rfl) Tryz.underlying124 rfl rfl rfl (by kernel_rfl) (fun _=>rfl) rfl
theorem VA:bZ Tryz.prog S ak 148 (.st 10):=uF rfl (by kernel_rfl) rfl (by kernel_rfl) (by kernel_rfl) rfl (by kernel_rfl) Tryz.underlying148 rfl rfl rfl (by kernel_rfl) (fun _=>rfl) rfl
theorem VB:bZ Tryz.prog S ak 164 (.st 6):=lB (l:=jJ 6) rfl (by kernel_rfl) rfl (by kernel_rfl) (by kernel_rfl) rfl (by kernel_rfl) Tryz.underlying164 (by kernel_rfl) (fun _=>rfl) rfl
theorem VD:bZ Tryz.prog S ak 168 (.st 16):=lB (l:=jJ 16) rfl (by kernel_rfl) rfl (by kernel_rfl) (by kernel_rfl) rfl (by kernel_rfl) Tryz.underlying168 (by kernel_rfl) (fun _=>rfl) rfl
theorem VE:bZ Tryz.prog S ak 179 (.st 9):=uF rfl (by kernel_rfl) rfl (by kernel_rfl) (by kernel_rfl) rfl (by kernel_rfl) Tryz.underlying179 rfl rfl rfl (by kernel_rfl) (fun _=>rfl) rfl
theorem VF:bZ Tryz.prog S ak 189 (.st 8):=uF rfl (by kernel_rfl) rfl (by kernel_rfl) (by kernel_rfl) rfl (by kernel_rfl) Tryz.underlying189 rfl rfl rfl (by kernel_rfl) (fun _=>rfl) rfl
theorem DI:aV Tryz.prog S ak:=⟨El,fun t T h0=>by
 have h:=mS (show look ED t=some T from h0)
 simp only [ED,List.mem_cons,Prod.mk.injEq,List.not_mem_nil,or_false] at h
 rcases h with ⟨rfl,rfl⟩ | ⟨rfl,rfl⟩ | ⟨rfl,rfl⟩ | ⟨rfl,rfl⟩ | ⟨rfl,rfl⟩ | ⟨rfl,rfl⟩ | ⟨rfl,rfl⟩ | ⟨rfl,rfl⟩ | ⟨rfl,rfl⟩ | ⟨rfl,rfl⟩ | ⟨rfl,rfl⟩ | ⟨rfl,rfl⟩ | ⟨rfl,rfl⟩ | ⟨rfl,rfl⟩ | ⟨rfl,rfl⟩ | ⟨rfl,rfl⟩ | ⟨rfl,rfl⟩ | ⟨rfl,rfl⟩ | ⟨rfl,rfl⟩ | ⟨rfl,rfl⟩ | ⟨rfl,rfl⟩ | ⟨rfl,rfl⟩ | ⟨rfl,rfl⟩ | ⟨rfl,rfl⟩ | ⟨rfl,rfl⟩ | ⟨rfl,rfl⟩ | ⟨rfl,rfl⟩ | ⟨rfl,rfl⟩ | ⟨rfl,rfl⟩
 · exact VG
 · exact VK
 · exact VN
 · exact VS
 · exact V0
 · exact VH
 · exact VI
 · exact VJ
 · exact VL
 · exact VM
 · exact VO
 · exact VP
 · exact VQ
 · exact VR
 · exact VT
 · exact VU
 · exact VV
 · exact VW
 · exact VX
 · exact VY
 · exact VZ
 · exact Vw
 · exact Vy
 · exact Vz
 · exact VA
 · exact VB
 · exact VD
 · exact VE
 · exact VF,fun t h=>by
 have h2: ∃ u,look DJ t=some u:=Option.isSome_iff_exists.1 h
 obtain ⟨u,h2⟩:=h2
 have h:=mS h2
 simp [DJ] at h,fun t h=>by
 have h2: ∃ u,look BN t=some u:=Option.isSome_iff_exists.1 h
 obtain ⟨u,h2⟩:=h2
 have h:=mS h2
 simp only [BN,List.mem_cons,Prod.mk.injEq,List.not_mem_nil,or_false] at h
 rcases h with ⟨rfl,_⟩
 · exact ⟨3,rfl,⟨_,Tryz.underlying25,BL (by kernel_rfl)⟩,by kernel_rfl,by kernel_rfl⟩,fun t h=>by
 have h2: ∃ u,look CY t=some u:=Option.isSome_iff_exists.1 h
 obtain ⟨u,h2⟩:=h2
 have h:=mS h2
 simp only [CY,List.mem_cons,Prod.mk.injEq,List.not_mem_nil,or_false] at h
 rcases h with ⟨rfl,_⟩
 · exact ⟨_,Tryz.underlying117⟩,Nc (by kernel_rfl) (by decide)⟩
theorem pk:aV Tryz.prog S ak∧Tryz.prog.follows .mixedOrders=true:=⟨DI,by kernel_rfl⟩
abbrev q0:Sy.K:= .val (.data .str)
abbrev q1:Sy.K:= .val (.data (.int .i64))
abbrev q2:Sy.K:= .val (.data (.int .u8))
abbrev q3:Sy.K:= .val (.data .bool)
abbrev q4:Sy.K:= .val (.data (.st 2))
abbrev q5:Sy.K:= .val (.aZ (.st 2))
abbrev q6:Sy.K:= .val (.data (.st 3))
abbrev q7:Sy.K:= .obj [.data (.int .i64), .data (.int .i64)]
abbrev q8:Sy.K:= .obj [.data (.st 5)]
abbrev q9:Sy.K:= .obj [.data (.st 6)]
abbrev e_:Sy.K:= .val (.data (.st 1))
abbrev rA:Sy.K:= .obj [.data (.sl (.st 2)), .data (.int .i64), .data (.int .i64), .data (.int .i64), .data (.int .i64)]
abbrev SI:Sy.K:= .obj [.data (.int .i64), .data (.int .i64), .data .str, .aQ (.st 1), .data (.int .i64)]
abbrev l9:Sy.K:= .obj [.data (.int .i64), .data (.int .i64), .data .str, .data (.sl (.st 1)), .data (.int .i64)]
abbrev IY:Sy.K:= .val (.data (.sl (.st 2)))
abbrev kD:Sy.K:= .val (.data (.sl (.st 1)))
abbrev nW:Sy.K:= .val (.data (.st 0))
abbrev zB:Sy.K:= .val (.aZ (.st 0))
abbrev SJ:Sy.K:= .val (.data (.st 8))
abbrev zC:Sy.K:= .val (.data (.sl (.int .i64)))
abbrev mW:Sy.K:= .aX
abbrev nX:Sy.K:= .obj [.data (.int .i64), .data .str, .data .str, .data (.sl (.st 1)), .data (.int .i64), .data (.sl (.st 0)), .data (.sl (.st 0)), .data (.int .i64)]
abbrev fF:Sy.K:= .val (.data (.sl (.st 0)))
abbrev DK:Sy.K:= .fn [.st 1] [.bool]
abbrev IZ:Sy.K:= .val (.aQ (.int .i64))
abbrev SK:Sy.K:= .ro (.st 9)
abbrev I0:Sy.K:= .fn [.st 1, .st 1] [.bool]
abbrev I3:Sy.K:= .fn [.st 0, .st 0] [.bool]
abbrev DL:Sy.K:= .err
def bz (e:Ty):Nat:=if e= .st 0 then 128 else if e= .int .i64 then 8 else if e= .bool then 1 else if e= .st 1 then 64 else 1
def lA:List (Nat×Ty):= [(2, .int .i64),(3, .int .i64),(4, .bool),(9, .str),(30, .sl (.st 0)),(35, .sl (.int .i64)),(47, .sl .bool),(50, .int .i8),(60, .sl (.st 1)),(62, .st 0),(72, .st 1)]
def Fp:List (Nat×(Nat×Ty)):= []
abbrev SA:aS:=S.xE (look lA) (fun _=>false) (look Fp) (fun _=>false)
theorem V1:bZ Tryz.prog SA ak 2 (.int .i64):=pT rfl (by kernel_rfl) (by kernel_rfl) (by kernel_rfl)
theorem V2:bZ Tryz.prog SA ak 3 (.int .i64):=pT rfl (by kernel_rfl) (by kernel_rfl) (by kernel_rfl)
theorem V5:bZ Tryz.prog SA ak 4 (.bool):=KJ rfl (by kernel_rfl) (by kernel_rfl) (by kernel_rfl)
theorem Wb:bZ Tryz.prog SA ak 9 (.str):=KK rfl (by kernel_rfl) (by kernel_rfl) (by kernel_rfl)
theorem V3:bZ Tryz.prog SA ak 30 (.sl (.st 0)):=ni rfl (by kernel_rfl) (by kernel_rfl) Tryz.underlying30 rfl rfl (by kernel_rfl) (by kernel_rfl)
theorem V4:bZ Tryz.prog SA ak 35 (.sl (.int .i64)):=ni rfl (by kernel_rfl) (by kernel_rfl) Tryz.underlying35 rfl rfl (by kernel_rfl) (by kernel_rfl)
theorem V6:bZ Tryz.prog SA ak 47 (.sl .bool):=ni rfl (by kernel_rfl) (by kernel_rfl) Tryz.underlying47 rfl rfl (by kernel_rfl) (by kernel_rfl)
theorem V7:bZ Tryz.prog SA ak 50 (.int .i8):=pT rfl (by kernel_rfl) (by kernel_rfl) (by kernel_rfl)
theorem V8:bZ Tryz.prog SA ak 60 (.sl (.st 1)):=ni rfl (by kernel_rfl) (by kernel_rfl) Tryz.underlying60 rfl rfl (by kernel_rfl) (by kernel_rfl)
theorem V9:bZ Tryz.prog SA ak 62 (.st 0):=lB (l:=jJ 0) rfl (by kernel_rfl) rfl (by kernel_rfl) (by kernel_rfl) rfl (by kernel_rfl) Tryz.underlying62 (by kernel_rfl) (fun _=>rfl) rfl
theorem V_:bZ Tryz.prog SA ak 72 (.st 1):=lB (l:=jJ 1) rfl (by kernel_rfl) rfl (by kernel_rfl) (by kernel_rfl) rfl (by kernel_rfl) Tryz.underlying72 (by kernel_rfl) (fun _=>rfl) rfl
theorem UJ:cT SA:=⟨El.flat,El.sQ⟩
theorem SE:aV Tryz.prog SA ak:=⟨UJ,fun t e h0=>by
 have h:=mS (show look lA t=some (e) from h0)
 simp only [lA,List.mem_cons,Prod.mk.injEq,List.not_mem_nil,or_false] at h
 rcases h with ⟨rfl,h⟩ | ⟨rfl,h⟩ | ⟨rfl,h⟩ | ⟨rfl,h⟩ | ⟨rfl,h⟩ | ⟨rfl,h⟩ | ⟨rfl,h⟩ | ⟨rfl,h⟩ | ⟨rfl,h⟩ | ⟨rfl,h⟩ | ⟨rfl,h⟩
 · subst h; exact V1
 · subst h; exact V2
 · subst h; exact V5
 · subst h; exact Wb
 · subst h; exact V3
 · subst h; exact V4
 · subst h; exact V6
 · subst h; exact V7
 · subst h; exact V8
 · subst h; exact V9
 · subst h; exact V_,fun t h=>(nomatch h),fun t h=>(nomatch h),DI.oX,DI.bt⟩
theorem hbz: ∀ t e,SA.ty t=some (.sl e)→ak t=bz e:=fun t e h0=>by
 have h:=mS (show look lA t=some (.sl e) from h0)
 simp only [lA,List.mem_cons,Prod.mk.injEq,List.not_mem_nil,or_false] at h
 rcases h with ⟨rfl,h⟩ | ⟨rfl,h⟩ | ⟨rfl,h⟩ | ⟨rfl,h⟩ | ⟨rfl,h⟩ | ⟨rfl,h⟩ | ⟨rfl,h⟩ | ⟨rfl,h⟩ | ⟨rfl,h⟩ | ⟨rfl,h⟩ | ⟨rfl,h⟩
 · exact (nomatch h)
 · exact (nomatch h)
 · exact (nomatch h)
 · exact (nomatch h)
 · cases h; decide
 · cases h; decide
 · cases h; decide
 · exact (nomatch h)
 · cases h; decide
 · exact (nomatch h)
 · exact (nomatch h)
theorem UY:A4 SA:=⟨fun t e h0=>by
 have h:=mS (show look lA t=some (.sl e) from h0)
 simp only [lA,List.mem_cons,Prod.mk.injEq,List.not_mem_nil,or_false] at h
 rcases h with ⟨rfl,h⟩ | ⟨rfl,h⟩ | ⟨rfl,h⟩ | ⟨rfl,h⟩ | ⟨rfl,h⟩ | ⟨rfl,h⟩ | ⟨rfl,h⟩ | ⟨rfl,h⟩ | ⟨rfl,h⟩ | ⟨rfl,h⟩ | ⟨rfl,h⟩
 · exact (nomatch h)
 · exact (nomatch h)
 · exact (nomatch h)
 · exact (nomatch h)
 · cases h; decide
 · cases h; decide
 · cases h; decide
 · exact (nomatch h)
 · cases h; decide
 · exact (nomatch h)
 · exact (nomatch h),fun t h0=>by
 have h:=mS (show look lA t=some (.pt) from h0)
 simp only [lA,List.mem_cons,Prod.mk.injEq,List.not_mem_nil,or_false] at h
 rcases h with ⟨rfl,h⟩ | ⟨rfl,h⟩ | ⟨rfl,h⟩ | ⟨rfl,h⟩ | ⟨rfl,h⟩ | ⟨rfl,h⟩ | ⟨rfl,h⟩ | ⟨rfl,h⟩ | ⟨rfl,h⟩ | ⟨rfl,h⟩ | ⟨rfl,h⟩
 · exact (nomatch h)
 · exact (nomatch h)
 · exact (nomatch h)
 · exact (nomatch h)
 · exact (nomatch h)
 · exact (nomatch h)
 · exact (nomatch h)
 · exact (nomatch h)
 · exact (nomatch h)
 · exact (nomatch h)
 · exact (nomatch h)⟩
theorem Vc:A5 Tryz.prog SA:=fun t e h0=>by
 have h:=mS (show look lA t=some (.st e) from h0)
 simp only [lA,List.mem_cons,Prod.mk.injEq,List.not_mem_nil,or_false] at h
 rcases h with ⟨rfl,h⟩ | ⟨rfl,h⟩ | ⟨rfl,h⟩ | ⟨rfl,h⟩ | ⟨rfl,h⟩ | ⟨rfl,h⟩ | ⟨rfl,h⟩ | ⟨rfl,h⟩ | ⟨rfl,h⟩ | ⟨rfl,h⟩ | ⟨rfl,h⟩
 · exact (nomatch h)
 · exact (nomatch h)
 · exact (nomatch h)
 · exact (nomatch h)
 · exact (nomatch h)
 · exact (nomatch h)
 · exact (nomatch h)
 · exact (nomatch h)
 · exact (nomatch h)
 · cases h; exact Ke Tryz.underlying62 (by kernel_rfl)
 · cases h; exact Ke Tryz.underlying72 (by kernel_rfl)
abbrev JR:List UInt8:= [123,114,97,105,115,101,32,101,32,40,32,49,32,41,59,108,111,111,112,32,50,123,125,125]
abbrev Az:List UInt8:= [32,9,10,13]
abbrev JS:List UInt8:= [45,62,32,61,61,32,33,61,32,60,61,32,62,61,32,38,38,32,124,124]
abbrev lg:List UInt8:= [123,125,40,41,91,93,59,44,46,58,61,60,62,43,45,42,47,37,33,36]
abbrev gv:List UInt8:= [123]
abbrev cY:List UInt8:= [125]
abbrev AD:List UInt8:= [115,121,115,116,101,109]
abbrev Ac:List UInt8:= [97,103,101]
abbrev Aj:List UInt8:= [99,104,97,114,116]
abbrev AB:List UInt8:= [115,116,101,112,115]
abbrev Ao:List UInt8:= [102,117,101,108]
abbrev AF:List UInt8:= [118,97,114]
abbrev Aw:List UInt8:= [112,111,114,116]
abbrev AE:List UInt8:= [116,105,109,101,114]
abbrev AA:List UInt8:= [115,116,97,116,101]
abbrev Av:List UInt8:= [112,97,114,97,108,108,101,108]
abbrev Ap:List UInt8:= [104,105,115,116,111,114,121]
abbrev Ak:List UInt8:= [100,101,101,112]
abbrev Al:List UInt8:= [101,110,116,114,121]
abbrev Am:List UInt8:= [101,120,105,116]
abbrev Au:List UInt8:= [111,110]
abbrev Ad:List UInt8:= [97,117,116,111]
abbrev ir:List UInt8:= [114,97,105,115,101]
abbrev iw:List UInt8:= [115,101,110,100]
abbrev jZ:List UInt8:= [97,114,109]
abbrev kS:List UInt8:= [99,97,110,99,101,108]
abbrev j0:List UInt8:= [105,102]
abbrev kU:List UInt8:= [101,108,115,101]
abbrev iW:List UInt8:= [108,111,111,112]
abbrev gu:List UInt8:= [105,110]
abbrev Aq:List UInt8:= [105,110,115,116]
abbrev Ay:List UInt8:= [113,117,97,110,116,117,109]
abbrev An:List UInt8:= [101,120,116]
abbrev Ax:List UInt8:= [112,114,105,111]
abbrev Ah:List UInt8:= [99,104,97,110]
abbrev Ae:List UInt8:= [99,97,112]
abbrev Ag:List UInt8:= [99,101,114,116]
abbrev Ar:List UInt8:= [105,110,115,116,115]
abbrev Ai:List UInt8:= [99,104,97,110,115]
abbrev Af:List UInt8:= [99,101,108,108]
abbrev Ei:List UInt8:= [111,102,102]
abbrev rU:List UInt8:= [61]
abbrev dA:List UInt8:= [45]
abbrev gN:List UInt8:= [33]
abbrev jB:List UInt8:= [36]
abbrev bK:List UInt8:= [40]
abbrev bw:List UInt8:= [41]
abbrev kR:List UInt8:= [124,124]
abbrev kP:List UInt8:= [38,38]
abbrev kY:List UInt8:= [60]
abbrev kZ:List UInt8:= [60,61]
abbrev kW:List UInt8:= [62]
abbrev kX:List UInt8:= [62,61]
abbrev kV:List UInt8:= [61,61]
abbrev kQ:List UInt8:= [33,61]
abbrev k9:List UInt8:= [43]
abbrev lf:List UInt8:= [42]
abbrev ld:List UInt8:= [47]
abbrev k8:List UInt8:= [37]
abbrev bh:List UInt8:= [59]
abbrev Ej:List UInt8:= [123,120,32,61,32,49,125]
abbrev As:List UInt8:= [123,125]
abbrev rV:List UInt8:= [123,10]
abbrev rW:List UInt8:= [32,32]
abbrev fY:List UInt8:= [105,110,40]
abbrev aJ:List UInt8:= [32]
abbrev gO:List UInt8:= [32,61,32]
abbrev iu:List UInt8:= [114,97,105,115,101,32]
abbrev eV:List UInt8:= [115,101,110,100,32]
abbrev iV:List UInt8:= [97,114,109,32]
abbrev kT:List UInt8:= [99,97,110,99,101,108,32]
abbrev fX:List UInt8:= [105,102,32]
abbrev pO:List UInt8:= [32,101,108,115,101,32]
abbrev jC:List UInt8:= [108,111,111,112,32]
abbrev JQ:List UInt8:= [123,10,32,32,114,97,105,115,101,32,101,40,49,41,59,10,32,32,108,111,111,112,32,50,32,123,125,10,125]
abbrev jY:List UInt8:= [48,49,50,51,52,53,54,55,56,57]
abbrev JP:List UInt8:= [10]
abbrev iC:List UInt8×List UInt8×List UInt8×List UInt8×List UInt8×List UInt8×List UInt8×List UInt8×List UInt8×List UInt8×List UInt8×List UInt8×List UInt8:=(kR,kP,kY,kZ,kW,kX,kV,kQ,k9,dA,lf,ld,k8)
abbrev Ft:List UInt8×List UInt8×List UInt8×List UInt8×List UInt8×List UInt8×List UInt8×List UInt8×List UInt8×List UInt8×List UInt8×List UInt8×List UInt8×List UInt8×List UInt8×List UInt8×List UInt8×List UInt8×List UInt8×List UInt8×List UInt8×List UInt8×List UInt8×List UInt8×List UInt8×List UInt8×List UInt8×List UInt8×List UInt8×List UInt8×List UInt8×List UInt8×List UInt8×List UInt8×List UInt8:=(AD,Ac,Aj,AB,Ao,AF,Aw,AE,AA,Av,Ap,Ak,Al,Am,Au,Ad,ir,iw,jZ,kS,j0,kU,iW,gu,Aq,Ay,An,Ax,Ah,Ae,Ag,Ar,Ai,Af,Ei)
abbrev JG:List (List UInt8):= [[],[],[],[],[],dA,gN,lf,ld,k8,k9,dA,kY,kZ,kW,kX,kV,kQ,kP,kR]
end
end Go.Sy.Ex
namespace Go.Sy.Ex
open Go.Sy Go.Proofs
theorem ON {w:World} {M:St} (h:iz S w M):(∃ m,w.cell? ⟨0,0,none⟩=some (.int .i64 m)):=by
 obtain ⟨_,_,v0,c0,m,rfl⟩:=h.1 (((0,0),fun v=> ∃ m,v= .int .i64 m)) (by simp)
 exact ⟨m,c0⟩
theorem OO {w:World} {M:St} (h:iz S w M):(∃ e,w.cell? ⟨2,0,none⟩=some e∧(e= .nilIface∨ ∃ t p,e= .iface t p)):=by
 obtain ⟨_,_,v1,c1,p1⟩:=h.1 (((2,0),fun v=>v= .nilIface∨ ∃ t p,v= .iface t p)) (by simp)
 exact ⟨v1,c1,p1⟩
theorem OP {w:World} {M:St} (h:iz S w M):(∃ e,w.cell? ⟨1,0,none⟩=some e∧(e= .nilIface∨ ∃ t p,e= .iface t p)):=by
 obtain ⟨_,_,v1,c1,p1⟩:=h.1 (((1,0),fun v=>v= .nilIface∨ ∃ t p,v= .iface t p)) (by simp)
 exact ⟨v1,c1,p1⟩
theorem GN {w:World} {M:St} (h:iz S w M):Lib.TabIs Tryz.prog w "internal/strconv.uint64pow10" .u64 Lib.pow10Tab:=by
 obtain ⟨_,_,ob,c3,t,f,rfl⟩:=h.2 ((3,fun ob=> ∃ t f,ob= .cells (Go.Lib.pow10Tab.map fun z=>Value.int .u64 z).toArray t f)) (by simp)
 unfold Lib.TabIs World.var?
 rw [show Tryz.prog.globalNamed "internal/strconv.uint64pow10" =some 3 from by kernel_rfl]
 show (match w.heap[3]? with | some (.cells cs _ _)=>some cs | _=>none)=_
 rw [c3]
theorem x_ {w w':World} {M:St} (h:RowKit.Below w.heap.size w w'):aY w w' M:=by
 obtain ⟨a,b,c,d,e⟩:=h
 exact ⟨a,b,c,d,fun k hk _=>e k hk,fun k o hk _=>cell_of_heap (e k hk),fun k o hk hs=>by rw [cell_of_heap (e k hk)]; exact hs,fun k o hk _=>yE (e k hk)⟩
theorem Kh (l:List UInt8):(⟨l.toArray⟩:ByteArray).size=l.length:=by show l.toArray.size=_; simp
theorem FB (w:World) (k:Nat) (os:Array Obj):RowKit.Below w.heap.size w (Go.Sort.grow (w.drewN k) os):=
 ⟨rfl,rfl,rfl,by simp [Go.Sort.grow,World.drewN],fun j hj=>by simp [Go.Sort.grow,World.drewN,Array.getElem?_append,hj]⟩
theorem EA {w:World} {s M:St} (hM:gT M) (r:List UInt8):cc Tryz.prog S w s M [.val (.data .str)] r [.string ⟨r.toArray⟩]:=
 ⟨_,_,_,_,uA M,rfl,⟨⟨hM,1,rfl⟩,rfl⟩,fun _ _ h=>h,rfl⟩
noncomputable def pg (s:List UInt8) (c:Int):Option Int:=some (Lib.indexByte s c.toNat.toUInt8)
theorem IL:ay Tryz.prog S ⟨69,[.val (.data .str), .val (.data (.int .u8))],[.val (.data (.int .i64))],fun x=>pg x.1 x.2⟩:=by
 refine ⟨⟨Tryz.f69,Tryz.func69,by kernel_rfl,by kernel_rfl⟩,fun w s M (x:List UInt8×Int) args r hx hs hG hr=> ?_⟩
 obtain ⟨x,y⟩:=x
 obtain ⟨M1,M2,v,rr,_,rfl,⟨⟨_,n,h1⟩,h2⟩,M3,M4,v',rR,_,rfl,⟨⟨_,n',h3⟩,h4⟩,_,rfl⟩:=hx
 have hv:=mF (w:=w) (s:=s) ⟨h2,n,h1⟩
 have dS:=lD (w:=w) (s:=s) ⟨h4,n',h3⟩
 subst hv dS
 cases hr
 refine (Tryz.strings_IndexByte _ _ w).mono ?_
 rintro e w' ⟨rfl,rfl⟩
 exact ⟨[.int .i64 _],fun _ _=>False,fun _ _=>False,rfl,aY.refl _ _,⟨_,_,_,_,Dq,rfl,⟨⟨fun _ _ h=>h,1,rfl⟩,rfl⟩,fun _ _ h=>h,rfl⟩,fun _ _ h=>h.elim,fun _ _ h=>h.elim⟩
noncomputable def tG (s sub:List UInt8):Option Bool:=if s.length<4294967281 then some (Lib.contains s sub) else none
theorem Sa:ay Tryz.prog S ⟨100,[.val (.data .str), .val (.data .str)],[.val (.data .bool)],fun x=>tG x.1 x.2⟩:=by
 refine ⟨⟨Tryz.f100,Tryz.func100,by kernel_rfl,by kernel_rfl⟩,fun w s M (x:List UInt8×List UInt8) args r hx hs hG hr=> ?_⟩
 obtain ⟨x,y⟩:=x
 obtain ⟨M1,M2,v,rr,_,rfl,⟨⟨_,n,h1⟩,h2⟩,M3,M4,v',rR,_,rfl,⟨⟨_,n',h3⟩,h4⟩,_,rfl⟩:=hx
 have hv:=mF (w:=w) (s:=s) ⟨h2,n,h1⟩
 have dS:=mF (w:=w) (s:=s) ⟨h4,n',h3⟩
 subst hv dS
 obtain ⟨m,hm⟩:=ON hG
 replace hr:tG x y=some r:=hr
 unfold tG at hr
 split at hr
 · rename_i hl
   cases hr
   refine (Tryz.strings_Contains ⟨x.toArray⟩ ⟨y.toArray⟩ m w (Nat.lt_of_le_of_lt (Nat.le_of_eq (Kh _)) hl) hm).mono ?_
   rintro e w' ⟨rfl,rfl⟩
   exact ⟨[.bool _],fun _ _=>False,fun _ _=>False,rfl,aY.refl _ _,⟨_,_,_,_,Dq,rfl,⟨⟨fun _ _ h=>h,1,rfl⟩,rfl⟩,fun _ _ h=>h,rfl⟩,fun _ _ h=>h.elim,fun _ _ h=>h.elim⟩
 · cases hr
noncomputable def pq (s:List UInt8) (b z:Int):Option (Int×Bool):=if s.length≤281474976710656∧b=10∧z=64 then some (match Lib.parseIntB 64 s with
 | .ok v=>(v,true)
 | .range=>(Lib.intSat 64 s,false)
 | _=>(0,false)) else none
theorem QK {w:World} {s M:St} (hM:gT M) (v:Int) (b:Bool) (e:Value) (he:uQ b e):cc Tryz.prog S w s M [.val (.data (.int .i64)), .err] (v,b) [.int .i64 v,e]:=
 ⟨_,_,_,_,uA M,rfl,⟨⟨hM,1,rfl⟩,rfl⟩,_,_,_,_,Dq,rfl,⟨fun _ _ h=>h,he⟩,fun _ _ h=>h,rfl⟩
theorem Sd:ay Tryz.prog S ⟨99,[.val (.data .str), .val (.data (.int .i64)), .val (.data (.int .i64))],[.val (.data (.int .i64)), .err],fun x=>pq x.1 x.2.1 x.2.2⟩:=by
 refine ⟨⟨Tryz.f99,Tryz.func99,by kernel_rfl,by kernel_rfl⟩,fun w s M (x:List UInt8×Int×Int) args r hx hs hG hr=> ?_⟩
 obtain ⟨x,y,z⟩:=x
 obtain ⟨M1,M2,v,rr,_,rfl,⟨⟨_,n,h1⟩,h2⟩,M3,M4,v',rR,_,rfl,⟨⟨_,n',h3⟩,h4⟩,M5,M6,v'',W7,_,rfl,⟨⟨_,RR,h5⟩,h6⟩,_,rfl⟩:=hx
 have hv:=mF (w:=w) (s:=s) ⟨h2,n,h1⟩
 have dS:=lD (w:=w) (s:=s) ⟨h4,n',h3⟩
 have Qt:=lD (w:=w) (s:=s) ⟨h6,RR,h5⟩
 subst hv dS Qt
 obtain ⟨e1,c1,k1⟩:=OO hG
 obtain ⟨e0,c0,k0⟩:=OP hG
 replace hr:pq x y z=some r:=hr
 unfold pq at hr
 split at hr
 · rename_i hl
   obtain ⟨hl,rfl,rfl⟩:=hl
   have hsz:(⟨x.toArray⟩:ByteArray).size≤281474976710656:=Nat.le_trans (Nat.le_of_eq (Kh x)) hl
   have Cr: ∀ (r0:Int×Bool) (e:Value) (w':World),uQ r0.2 e→RowKit.Below w.heap.size w w'→ ∃ us s' M',Ending.returned (Value.tuple #[.int .i64 r0.1,e])= .returned (kN us)∧aY w w' M∧cc Tryz.prog S w' s' M' [.val (.data (.int .i64)), .err] r0 (us++ [])∧
    (∀ b o,s' b o→b<w'.heap.size∧ ¬ M' b o∧(s b o∨M b o∨w.heap.size≤b))∧ ∀ b o,M' b o→M b o∨w.heap.size≤b:=fun r0 e w' he hb=>
    ⟨[.int .i64 r0.1,e],fun _ _=>False,fun _ _=>False,rfl,x_ hb,QK (fun _ _ h=>h) _ _ _ he,fun _ _ h=>h.elim,fun _ _ h=>h.elim⟩
   cases hp:Lib.parseIntB 64 x with
   | ok v=>
    rw [hp] at hr
    cases hr
    refine (Tryz.strconv_ParseInt_10_at64_ok ⟨x.toArray⟩ (by omega) v hp w).mono ?_
    rintro e w' ⟨rfl,hw⟩
    refine Cr (v,true) .nilIface w' rfl ?_
    rcases hw with rfl | ⟨t,rfl⟩
    · exact RowKit.Below.refl _ _
    · exact ⟨rfl,rfl,rfl,by rw [Lib.bytesWorld_size]; omega,fun j hj=>Lib.bytesWorld_at_old w 5 t j hj⟩
   | range=>
    rw [hp] at hr
    cases hr
    refine (Tryz.strconv_ParseInt_10_at64_range ⟨x.toArray⟩ hsz hp e1 w c1 k1).mono ?_
    rintro e w' ⟨N,rfl,_,_,hb⟩
    exact Cr (_,false) _ w' ⟨_,_,rfl⟩ hb
   | _=>
    rw [hp] at hr
    cases hr
    refine (Any.strconv_ParseInt_10_at64_syntax Tryz.C7 ⟨x.toArray⟩ hsz hp e0 w c0 k0).mono ?_
    rintro e w' ⟨N,rfl,_,_,hb⟩
    exact Cr (0,false) _ w' ⟨_,_,rfl⟩ hb
 · cases hr
noncomputable def o_ (n b:Int):Option (List UInt8):=if b=10∧ -9223372036854775808≤n∧n≤9223372036854775807 then some (Lib.itoa n) else none
theorem Sb:ay Tryz.prog S ⟨145,[.val (.data (.int .i64)), .val (.data (.int .i64))],[.val (.data .str)],fun x=>o_ x.1 x.2⟩:=by
 refine ⟨⟨Tryz.f145,Tryz.func145,by kernel_rfl,by kernel_rfl⟩,fun w s M (x:Int×Int) args r hx hs hG hr=> ?_⟩
 obtain ⟨x,y⟩:=x
 obtain ⟨M1,M2,v,rr,_,rfl,⟨⟨_,n,h1⟩,h2⟩,M3,M4,v',rR,_,rfl,⟨⟨_,n',h3⟩,h4⟩,_,rfl⟩:=hx
 have hv:=lD (w:=w) (s:=s) ⟨h2,n,h1⟩
 have dS:=lD (w:=w) (s:=s) ⟨h4,n',h3⟩
 subst hv dS
 have ht:=GN hG
 replace hr:o_ x y=some r:=hr
 unfold o_ at hr
 split at hr
 · rename_i hl
   obtain ⟨rfl,hl⟩:=hl
   cases hr
   refine (Tryz.strconv_FormatInt_10 x hl.1 hl.2 w ht).mono ?_
   rintro e w' ⟨rfl,k,os,rfl⟩
   exact ⟨[.string _],fun _ _=>False,fun _ _=>False,rfl,x_ (FB w k os),EA (fun _ _ h=>h) _,fun _ _ h=>h.elim,fun _ _ h=>h.elim⟩
 · cases hr
noncomputable def pn (n:Int):Option (List UInt8):=if -9223372036854775808≤n∧n≤9223372036854775807 then some (Lib.itoa n) else none
theorem Sc:ay Tryz.prog S ⟨110,[.val (.data (.int .i64))],[.val (.data .str)],fun x=>pn x⟩:=by
 refine ⟨⟨Tryz.f110,Tryz.func110,by kernel_rfl,by kernel_rfl⟩,fun w s M (x:Int) args r hx hs hG hr=> ?_⟩
 obtain ⟨M1,M2,v,rr,_,rfl,⟨⟨_,n,h1⟩,h2⟩,_,rfl⟩:=hx
 have hv:=lD (w:=w) (s:=s) ⟨h2,n,h1⟩
 subst hv
 have ht:=GN hG
 replace hr:pn x=some r:=hr
 unfold pn at hr
 split at hr
 · rename_i hl
   cases hr
   refine (Tryz.strconv_Itoa x hl.1 hl.2 w ht).mono ?_
   rintro e w' ⟨rfl,k,os,rfl⟩
   exact ⟨[.string _],fun _ _=>False,fun _ _=>False,rfl,x_ (FB w k os),EA (fun _ _ h=>h) _,fun _ _ h=>h.elim,fun _ _ h=>h.elim⟩
 · cases hr
noncomputable def pz (s:List UInt8) (c:Int):Option (List UInt8):=if 0≤c∧c≤9223372036854775807∧s.length*c.toNat≤140737488355328 then some (Lib.repeatL s c.toNat) else none
theorem Se:ay Tryz.prog S ⟨79,[.val (.data .str), .val (.data (.int .i64))],[.val (.data .str)],fun x=>pz x.1 x.2⟩:=by
 refine ⟨⟨Tryz.f79,Tryz.func79,by kernel_rfl,by kernel_rfl⟩,fun w s M (x:List UInt8×Int) args r hx hs hG hr=> ?_⟩
 obtain ⟨x,y⟩:=x
 obtain ⟨M1,M2,v,rr,_,rfl,⟨⟨_,n,h1⟩,h2⟩,M3,M4,v',rR,_,rfl,⟨⟨_,n',h3⟩,h4⟩,_,rfl⟩:=hx
 have hv:=mF (w:=w) (s:=s) ⟨h2,n,h1⟩
 have dS:=lD (w:=w) (s:=s) ⟨h4,n',h3⟩
 subst hv dS
 replace hr:pz x y=some r:=hr
 unfold pz at hr
 split at hr
 · rename_i hl
   obtain ⟨h0,h1',lS⟩:=hl
   cases hr
   have hc:=Tryz.strings_Repeat ⟨x.toArray⟩ y.toNat w (by omega) lS
   rw [Int.toNat_of_nonneg h0] at hc
   refine hc.mono ?_
   rintro e w' ⟨rfl,hb⟩
   exact ⟨[.string _],fun _ _=>False,fun _ _=>False,rfl,x_ hb,EA (fun _ _ h=>h) _,fun _ _ h=>h.elim,fun _ _ h=>h.elim⟩
 · cases hr
theorem DA:ay Tryz.prog S ⟨78,[.aX, .val (.data .str)],[.val (.data (.int .i64)), .err],fun x=>cQ x.1 x.2⟩:=
 MW (ρ:=Tryz.C5) Tryz.Ra Tryz.K8 rfl ⟨Tryz.f78,Tryz.func78,by kernel_rfl,by kernel_rfl⟩
theorem IM:ay Tryz.prog S ⟨81,[.aX, .val (.data (.int .u8))],[.err],fun x=>eE x.1 x.2⟩:=
 MT (ρ:=Tryz.zg) Tryz.Ib Tryz.ES rfl ⟨Tryz.f81,Tryz.func81,by kernel_rfl,by kernel_rfl⟩
theorem Sf:uU Tryz.prog S ⟨81,[.aX, .val (.data (.int .u8))],[.err],fun x=>eE x.1 x.2⟩:=
 MU (ρ:=Tryz.zg) Tryz.Ib Tryz.ES rfl ⟨Tryz.f81,Tryz.func81,by kernel_rfl,by kernel_rfl⟩
noncomputable def x4 (x:List UInt8):Option (List UInt8×List UInt8):=some (x,x)
theorem IN:ay Tryz.prog S ⟨42,[.aX],[.val (.data .str)],fun x=>x4 x⟩:=
 MV (ρ:=Tryz.C6) Tryz.Rb Tryz.K9 rfl ⟨Tryz.f42,Tryz.func42,by kernel_rfl,by kernel_rfl⟩
end Go.Sy.Ex
set_option maxRecDepth 100000
namespace Go.Sy.Ex
open Go.Sy Go.Proofs
noncomputable section
abbrev F2:Entry S:=⟨69,[q0,q2],[q1],fun x=>pg x.1 x.2⟩
abbrev NQ:Entry S:=⟨99,[q0,q1,q1],[q1,DL],fun x=>pq x.1 x.2.1 x.2.2⟩
abbrev NL:Entry S:=⟨100,[q0,q0],[q3],fun x=>tG x.1 x.2⟩
abbrev BK:Entry S:=⟨81,[mW,q2],[DL],fun x=>eE x.1 x.2⟩
abbrev NN:Entry S:=⟨145,[q1,q1],[q0],fun x=>o_ x.1 x.2⟩
abbrev BJ:Entry S:=⟨78,[mW,q0],[q1,DL],fun x=>cQ x.1 x.2⟩
abbrev F1:Entry S:=⟨42,[mW],[q0],fun x=>x4 x⟩
abbrev NM:Entry S:=⟨110,[q1],[q0],fun x=>pn x⟩
abbrev NP:Entry S:=⟨79,[q0,q1],[q0],fun x=>pz x.1 x.2⟩
abbrev Rw:=(List UInt8)→Int→Option Int
abbrev Ip (f:Rw):Entry S:=⟨38,[q0,q1],[q1],fun x=>f x.1 x.2⟩
mutual
def mR:Nat→(List UInt8)→Int→Option Int
 | 0,_,_=>none
 | k+1,text,an=>if an<(text.length:Int) then
  if 0≤an then
  if an<(text.length:Int) then
  (pg Az ((text.getD an.toNat 0).toNat:Int)).bind fun r1=>
  if 0≤r1 then
  mR k text (ag (an+1)) else
  if 0≤an then
  if an<(text.length:Int) then
  if ((text.getD an.toNat 0).toNat:Int)=35 then
  o8 k text an else
  some an else none else none else none else none else
  some an
def o8:Nat→(List UInt8)→Int→Option Int
 | 0,_,_=>none
 | k+1,text,an=>if an<(text.length:Int) then
  if 0≤an then
  if an<(text.length:Int) then
  if ((text.getD an.toNat 0).toNat:Int)≠10 then
  o8 k text (ag (an+1)) else
  mR k text an else none else none else
  mR k text an
end
def Io (k:Nat) (text:List UInt8) (an:Int):Option Int:=mR k text an
def wu  (text:List UInt8) (an:Int):Option Int:=ct (fun k (x:List UInt8×Int)=>Io k x.1 x.2) (text,an)
theorem Rv:ay Tryz.prog S (Ip (wu)):=i_ (fun k x=>Io k x.1 x.2) (fun _=>rfl) fun k=>
 eH pk [F2] ⟨IL,trivial⟩ Tryz.func38 [] k (fun k=> [(0,⟨[0,1],[q0,q1],fun x=>mR k x.1 x.2,false⟩),(2,⟨[0,1],[q0,q1],fun x=>o8 k x.1 x.2,false⟩)]) ⟨fun _=>rfl,fun _=>rfl,trivial⟩ (fun _=>by kernel_rfl) (fun _=>by kernel_rfl) (by kernel_rfl)
abbrev Rp:=Int→Option (Bool×Bool)
abbrev zl (f:Rp):Entry S:=⟨70,[q2],[q3,q3],fun x=>f x⟩
def mQ  (c:Int):Option (Bool×Bool):=if 48≤c then
 if c≤57 then
 some (true,true) else
 if 97≤c then
 if c≤122 then
 if c≤122 then
 some (true,false) else
 some (false,false) else
 if 65≤c then
 if c≤90 then
 if c≤90 then
 some (true,false) else
 some (false,false) else
 if c=95 then
 some (true,false) else
 some (false,false) else
 if c=95 then
 some (true,false) else
 some (false,false) else
 if 65≤c then
 if c≤90 then
 if c≤90 then
 some (true,false) else
 some (false,false) else
 if c=95 then
 some (true,false) else
 some (false,false) else
 if c=95 then
 some (true,false) else
 some (false,false) else
 if 97≤c then
 if c≤122 then
 if c≤122 then
 some (true,false) else
 some (false,false) else
 if 65≤c then
 if c≤90 then
 if c≤90 then
 some (true,false) else
 some (false,false) else
 if c=95 then
 some (true,false) else
 some (false,false) else
 if c=95 then
 some (true,false) else
 some (false,false) else
 if 65≤c then
 if c≤90 then
 if c≤90 then
 some (true,false) else
 some (false,false) else
 if c=95 then
 some (true,false) else
 some (false,false) else
 if c=95 then
 some (true,false) else
 some (false,false)
theorem Df:ay Tryz.prog S (zl (mQ)):=
 bJ pk [] trivial Tryz.func70 (by kernel_rfl) (fun _=>by kernel_rfl) (by kernel_rfl)
abbrev Ro:=(List UInt8)→Int→Option Int
abbrev De (f:Ro):Entry S:=⟨71,[q0,q1],[q1],fun x=>f x.1 x.2⟩
def rz:Nat→(List UInt8)→Int→Bool→Option Int
 | 0,_,_,_=>none
 | k+1,text,an,number=>if an<(text.length:Int) then
  if 0≤an then
  if an<(text.length:Int) then
  (mQ ((text.getD an.toNat 0).toNat:Int)).bind fun r2=>
  bif !r2.1 then
  some an else
  bif number then
  bif !r2.2 then
  some an else
  rz k text (ag (an+1)) number else
  rz k text (ag (an+1)) number else none else none else
  some an
def Dd (k:Nat) (text:List UInt8) (an:Int):Option Int:=if 0≤an then
 if an<(text.length:Int) then
 (mQ ((text.getD an.toNat 0).toNat:Int)).bind fun r1=>
 rz k text an r1.2 else none else none
def ry  (text:List UInt8) (an:Int):Option Int:=ct (fun k (x:List UInt8×Int)=>Dd k x.1 x.2) (text,an)
theorem Ik:ay Tryz.prog S (De (ry)):=i_ (fun k x=>Dd k x.1 x.2) (fun _=>rfl) fun k=>
 eH pk [zl mQ] ⟨Df,trivial⟩ Tryz.func71 [] k (fun k=> [(0,⟨[0,1,6],[q0,q1,q3],fun x=>rz k x.1 x.2.1 x.2.2,false⟩)]) ⟨fun _=>rfl,trivial⟩ (fun _=>by kernel_rfl) (fun _=>by kernel_rfl) (by kernel_rfl)
abbrev Rr:=(List UInt8)→Option (Int×Int)
abbrev Il (f:Rr):Entry S:=⟨72,[q0],[q1,q1],fun x=>f x⟩
def wo  (s:List UInt8):Option (Int×Int):=if 1<(s.length:Int) then
 if (0:Int)≤0 then
 if 0<(s.length:Int) then
 if ((s.getD (0:Int).toNat 0).toNat:Int)=48 then
 some (0,11) else
 (pq s 10 64).bind fun r1=>
 bif !r1.2 then
 some (0,16) else
 some (r1.1,0) else none else none else
 (pq s 10 64).bind fun r2=>
 bif !r2.2 then
 some (0,16) else
 some (r2.1,0)
theorem Rq:ay Tryz.prog S (Il (wo)):=
 bJ pk [NQ] ⟨Sd,trivial⟩ Tryz.func72 (by kernel_rfl) (fun _=>by kernel_rfl) (by kernel_rfl)
abbrev Ru:=(List UInt8)→Int→Option Int
abbrev Im (f:Ru):Entry S:=⟨73,[q0,q1],[q1],fun x=>f x.1 x.2⟩
def wq  (text:List UInt8) (an:Int):Option Int:=if (ag (an+1))<(text.length:Int) then
 if 0≤(ag (an+1)) then
 if (ag (an+1))<(text.length:Int) then
 if ((text.getD (ag (an+1)).toNat 0).toNat:Int)≠32 then
 if 0≤(ag (an+2)) then
 if (ag (an+2))≤(text.length:Int) then
 if 0≤an then
 if an≤(ag (an+2)) then
 (tG JS (cut text an (ag (an+2)))).bind fun r1=>
 bif r1 then
 some (ag (an+2)) else
 if 0≤an then
 if an<(text.length:Int) then
 (pg lg ((text.getD an.toNat 0).toNat:Int)).bind fun r2=>
 if 0≤r2 then
 some (ag (an+1)) else
 some an else none else none else none else none else none else none else
 if 0≤an then
 if an<(text.length:Int) then
 (pg lg ((text.getD an.toNat 0).toNat:Int)).bind fun r3=>
 if 0≤r3 then
 some (ag (an+1)) else
 some an else none else none else none else none else
 if 0≤an then
 if an<(text.length:Int) then
 (pg lg ((text.getD an.toNat 0).toNat:Int)).bind fun r4=>
 if 0≤r4 then
 some (ag (an+1)) else
 some an else none else none
theorem Rs:ay Tryz.prog S (Im (wq)):=
 bJ pk [NL,F2] ⟨Sa,IL,trivial⟩ Tryz.func73 (by kernel_rfl) (fun _=>by kernel_rfl) (by kernel_rfl)
abbrev Ry:=(List UInt8)→Int→Option (ax×Int)
abbrev Iq (f:Ry):Entry S:=⟨39,[q0,q1],[q4,q1],fun x=>f x.1 x.2⟩
def wz  (text:List UInt8) (an:Int):Option (ax×Int):=if 0≤an then
 if an<(text.length:Int) then
 (mQ ((text.getD an.toNat 0).toNat:Int)).bind fun r1=>
 bif r1.2 then
 (ry text an).bind fun r2=>
 if 0≤r2 then
 if r2≤(text.length:Int) then
 if 0≤an then
 if an≤r2 then
 (wo (cut text an r2)).bind fun r3=>
 if r3.2≠0 then
 some (ax.mk 0 0 0 [] 0,r3.2) else
 if 0≤r2 then
 if r2≤(text.length:Int) then
 if 0≤an then
 if an≤r2 then
 some (ax.mk 2 an r2 (cut text an r2) r3.1,0) else none else none else none else none else none else none else none else none else
 bif r1.1 then
 (ry text an).bind fun r4=>
 if 24<(ag (r4 - an)) then
 some (ax.mk 0 0 0 [] 0,13) else
 if 0≤r4 then
 if r4≤(text.length:Int) then
 if 0≤an then
 if an≤r4 then
 some (ax.mk 1 an r4 (cut text an r4) 0,0) else none else none else none else none else
 (wq text an).bind fun r5=>
 if r5=an then
 some (ax.mk 0 0 0 [] 0,10) else
 if 0≤r5 then
 if r5≤(text.length:Int) then
 if 0≤an then
 if an≤r5 then
 some (ax.mk 3 an r5 (cut text an r5) 0,0) else none else none else none else none else none else none
theorem Rx:ay Tryz.prog S (Iq (wz)):=
 bJ pk [zl mQ,De ry,Il wo,Im wq] ⟨Df,Ik,Rq,Rs,trivial⟩ Tryz.func39 (by kernel_rfl) (fun _=>by kernel_rfl) (by kernel_rfl)
abbrev Rl:=(List UInt8)→Option (List ax×bf)
abbrev Ii (f:Rl):Entry S:=⟨18,[q0],[q5,q6],fun x=>f x⟩
def ru:Nat→(List UInt8)→Int→Int→(List ax)→Int→Option (List ax×bf)
 | 0,_,_,_,_,_=>none
 | k+1,text,Ww,Wv,l,an=>if an<(text.length:Int) then
  (wz text an).bind fun r2=>
  if r2.2≠0 then
  some ([],bf.mk r2.2 an) else
  if (l.length+ [r2.1].length)*48≤140737488355328 then
  (wu text r2.1.End).bind fun r3=>
  ru k text Ww Wv (l++ [r2.1]) r3 else none else
  if (l.length+ [ax.mk 4 an an [] 0].length)*48≤140737488355328 then
  some (l++ [ax.mk 4 an an [] 0],bf.mk 0 0) else none
def Da (k:Nat) (text:List UInt8):Option (List ax×bf):=if 16384<(text.length:Int) then
 some ([],bf.mk 13 16384) else
 (wu text 0).bind fun r1=>
 ru k text 0 0 [] r1
def zj  (text:List UInt8):Option (List ax×bf):=ct (fun k (x:List UInt8)=>Da k x) text
theorem Rk:ay Tryz.prog S (Ii (zj)):=i_ (fun k x=>Da k x) (fun _=>rfl) fun k=>
 eH pk [Ip wu,Iq wz] ⟨Rv,Rx,trivial⟩ Tryz.func18 [] k (fun k=> [(0,⟨[0,3,4,5],[q0,q7,q5,q1],fun x=>ru k x.1 x.2.1.1 x.2.1.2 x.2.2.1 x.2.2.2,false⟩)]) ⟨fun _=>rfl,trivial⟩ (fun _=>by kernel_rfl) (fun _=>by kernel_rfl) (by kernel_rfl)
abbrev Td:=aL→Option (Bool×aL)
abbrev tS (f:Td):Entry S:=⟨28,[q8],[q3],fun x=>f x⟩
def jv  (r_:aL):Option (Bool×aL):=some (decide (r_.Row.bN.Code=0),r_)
theorem wQ:ay Tryz.prog S (tS (jv)):=
 bJ pk [] trivial Tryz.func28 (by kernel_rfl) (fun _=>by kernel_rfl) (by kernel_rfl)
abbrev S6:=aL→Option (ax×aL)
abbrev rE (f:S6):Entry S:=⟨55,[q8],[q4],fun x=>f x⟩
def iP  (r_:aL):Option (ax×aL):=(jv r_).bind fun r1=>
 bif !r1.1 then
 some (ax.mk 4 0 0 [] 0,r1.2) else
 if r1.2.Row.At<0 then
 some (ax.mk 4 0 0 [] 0,r1.2) else
 if (r1.2.Row.L.length:Int)≤r1.2.Row.At then
 some (ax.mk 4 0 0 [] 0,r1.2) else
 if 0≤r1.2.Row.At then
 if r1.2.Row.At<(r1.2.Row.L.length:Int) then
 some (r1.2.Row.L.getD r1.2.Row.At.toNat ax.z,r1.2) else none else none
theorem tR:ay Tryz.prog S (rE (iP)):=
 bJ pk [tS jv] ⟨wQ,trivial⟩ Tryz.func55 (by kernel_rfl) (fun _=>by kernel_rfl) (by kernel_rfl)
abbrev S4:=aL→(List UInt8)→Option (Bool×aL)
abbrev wO (f:S4):Entry S:=⟨53,[q8,q0],[q3],fun x=>f x.1 x.2⟩
def jS  (r_:aL) (s:List UInt8):Option (Bool×aL):=(iP r_).bind fun r1=>
 if r1.1.Kind=3 then
 some (decide (r1.1.Text=s),r1.2) else
 if r1.1.Kind=1 then
 some (decide (r1.1.Text=s),r1.2) else
 some (false,r1.2)
theorem zI:ay Tryz.prog S (wO (jS)):=
 bJ pk [rE iP] ⟨tR,trivial⟩ Tryz.func53 (by kernel_rfl) (fun _=>by kernel_rfl) (by kernel_rfl)
abbrev S0:=aL→Int→Int→Option aL
abbrev zG (f:S0):Entry S:=⟨54,[q8,q1,q1],[],fun x=>f x.1 x.2.1 x.2.2⟩
def mc  (r_:aL) (code:Int) (an:Int):Option aL:=(jv r_).bind fun r1=>
 bif r1.1 then
 some (aL.mk (bC.mk r1.2.Row.L r1.2.Row.At (bf.mk code an)) r1.2.aM) else
 some r1.2
theorem DR:ay Tryz.prog S (zG (mc)):=
 bJ pk [tS jv] ⟨wQ,trivial⟩ Tryz.func54 (by kernel_rfl) (fun _=>by kernel_rfl) (by kernel_rfl)
abbrev Tf:=aL→(List UInt8)→Option (Bool×aL)
abbrev wR (f:Tf):Entry S:=⟨57,[q8,q0],[q3],fun x=>f x.1 x.2⟩
def gM  (r_:aL) (s:List UInt8):Option (Bool×aL):=(jS r_ s).bind fun r1=>
 bif r1.1 then
 some (r1.1,aL.mk (bC.mk r1.2.Row.L (ag (r1.2.Row.At+1)) r1.2.Row.bN) r1.2.aM) else
 some (r1.1,r1.2)
theorem zK:ay Tryz.prog S (wR (gM)):=
 bJ pk [wO jS] ⟨zI,trivial⟩ Tryz.func57 (by kernel_rfl) (fun _=>by kernel_rfl) (by kernel_rfl)
abbrev Tl:=aL→Option aL
abbrev wT (f:Tl):Entry S:=⟨83,[q8],[],fun x=>f x⟩
def kF  (r_:aL):Option aL:=(iP r_).bind fun r1=>
 if r1.1.Kind=4 then
 (mc r1.2 12 r1.1.At).bind fun r2=>
 some r2 else
 (mc r1.2 11 r1.1.At).bind fun r3=>
 some r3
theorem zN:ay Tryz.prog S (wT (kF)):=
 bJ pk [rE iP,zG mc] ⟨tR,DR,trivial⟩ Tryz.func83 (by kernel_rfl) (fun _=>by kernel_rfl) (by kernel_rfl)
abbrev Ti:=aL→(List UInt8)→Option aL
abbrev wS (f:Ti):Entry S:=⟨56,[q8,q0],[],fun x=>f x.1 x.2⟩
def fG  (r_:aL) (s:List UInt8):Option aL:=(gM r_ s).bind fun r1=>
 bif !r1.1 then
 (kF r1.2).bind fun r2=>
 some r2 else
 some r1.2
theorem zL:ay Tryz.prog S (wS (fG)):=
 bJ pk [wR gM,wT kF] ⟨zK,zN,trivial⟩ Tryz.func56 (by kernel_rfl) (fun _=>by kernel_rfl) (by kernel_rfl)
abbrev Rn:=(List UInt8)→Option Bool
abbrev zk (f:Rn):Entry S:=⟨113,[q0],[q3],fun x=>f x⟩
def nR  (s:List UInt8):Option Bool:=if s=AD then
 if s=AD then
 some true else
 some false else
 if s=Ac then
 if s=Ac then
 some true else
 some false else
 if s=Aj then
 if s=Aj then
 some true else
 some false else
 if s=AB then
 if s=AB then
 some true else
 some false else
 if s=Ao then
 if s=Ao then
 some true else
 some false else
 if s=AF then
 if s=AF then
 some true else
 some false else
 if s=Aw then
 if s=Aw then
 some true else
 some false else
 if s=AE then
 if s=AE then
 some true else
 some false else
 if s=AA then
 if s=AA then
 some true else
 some false else
 if s=Av then
 if s=Av then
 some true else
 some false else
 if s=Ap then
 if s=Ap then
 some true else
 some false else
 if s=Ak then
 if s=Ak then
 some true else
 some false else
 if s=Al then
 if s=Al then
 some true else
 some false else
 if s=Am then
 if s=Am then
 some true else
 some false else
 if s=Au then
 if s=Au then
 some true else
 some false else
 if s=Ad then
 if s=Ad then
 some true else
 some false else
 if s=ir then
 if s=ir then
 some true else
 some false else
 if s=iw then
 if s=iw then
 some true else
 some false else
 if s=jZ then
 if s=jZ then
 some true else
 some false else
 if s=kS then
 if s=kS then
 some true else
 some false else
 if s=j0 then
 if s=j0 then
 some true else
 some false else
 if s=kU then
 if s=kU then
 some true else
 some false else
 if s=iW then
 if s=iW then
 some true else
 some false else
 if s=gu then
 if s=gu then
 some true else
 some false else
 if s=Aq then
 if s=Aq then
 some true else
 some false else
 if s=Ay then
 if s=Ay then
 some true else
 some false else
 if s=An then
 if s=An then
 some true else
 some false else
 if s=Ax then
 if s=Ax then
 some true else
 some false else
 if s=Ah then
 if s=Ah then
 some true else
 some false else
 if s=Ae then
 if s=Ae then
 some true else
 some false else
 if s=Ag then
 if s=Ag then
 some true else
 some false else
 if s=Ar then
 if s=Ar then
 some true else
 some false else
 if s=Ai then
 if s=Ai then
 some true else
 some false else
 if s=Af then
 if s=Af then
 some true else
 some false else
 if s=Ei then
 some true else
 some false
theorem Dc:ay Tryz.prog S (zk (nR)):=
 bJ pk [] trivial Tryz.func113 (by kernel_rfl) (fun _=>by kernel_rfl) (by kernel_rfl)
abbrev S2:=aL→Option (Bool×aL)
abbrev DT (f:S2):Entry S:=⟨84,[q8],[q3],fun x=>f x⟩
def pG  (r_:aL):Option (Bool×aL):=(iP r_).bind fun r1=>
 if r1.1.Kind=1 then
 (nR r1.1.Text).bind fun r2=>
 some (!r2,r1.2) else
 some (false,r1.2)
theorem Ja:ay Tryz.prog S (DT (pG)):=
 bJ pk [rE iP,zk nR] ⟨tR,Dc,trivial⟩ Tryz.func84 (by kernel_rfl) (fun _=>by kernel_rfl) (by kernel_rfl)
abbrev S_:=aL→Option (List UInt8×aL)
abbrev Jc (f:S_):Entry S:=⟨85,[q8],[q0],fun x=>f x⟩
def mg  (r_:aL):Option (List UInt8×aL):=(pG r_).bind fun r1=>
 bif !r1.1 then
 (kF r1.2).bind fun r2=>
 some ([],r2) else
 if 0≤(ag ((ag (r1.2.Row.At+1)) - 1)) then
 if (ag ((ag (r1.2.Row.At+1)) - 1))<(r1.2.Row.L.length:Int) then
 some ((r1.2.Row.L.getD (ag ((ag (r1.2.Row.At+1)) - 1)).toNat ax.z).Text,aL.mk (bC.mk r1.2.Row.L (ag (r1.2.Row.At+1)) r1.2.Row.bN) r1.2.aM) else none else none
theorem S9:ay Tryz.prog S (Jc (mg)):=
 bJ pk [DT pG,wT kF] ⟨Ja,zN,trivial⟩ Tryz.func85 (by kernel_rfl) (fun _=>by kernel_rfl) (by kernel_rfl)
abbrev Tc:=aE→Option (Bool×aE)
abbrev zJ (f:Tc):Entry S:=⟨28,[q9],[q3],fun x=>f x⟩
def mX  (r_:aE):Option (Bool×aE):=some (decide (r_.Row.bN.Code=0),r_)
theorem DV:ay Tryz.prog S (zJ (mX)):=
 bJ pk [] trivial Tryz.func28 (by kernel_rfl) (fun _=>by kernel_rfl) (by kernel_rfl)
abbrev S5:=aE→Option (ax×aE)
abbrev rD (f:S5):Entry S:=⟨55,[q9],[q4],fun x=>f x⟩
def gL  (r_:aE):Option (ax×aE):=(mX r_).bind fun r1=>
 bif !r1.1 then
 some (ax.mk 4 0 0 [] 0,r1.2) else
 if r1.2.Row.At<0 then
 some (ax.mk 4 0 0 [] 0,r1.2) else
 if (r1.2.Row.L.length:Int)≤r1.2.Row.At then
 some (ax.mk 4 0 0 [] 0,r1.2) else
 if 0≤r1.2.Row.At then
 if r1.2.Row.At<(r1.2.Row.L.length:Int) then
 some (r1.2.Row.L.getD r1.2.Row.At.toNat ax.z,r1.2) else none else none
theorem tQ:ay Tryz.prog S (rD (gL)):=
 bJ pk [zJ mX] ⟨DV,trivial⟩ Tryz.func55 (by kernel_rfl) (fun _=>by kernel_rfl) (by kernel_rfl)
abbrev S3:=aE→(List UInt8)→Option (Bool×aE)
abbrev zH (f:S3):Entry S:=⟨53,[q9,q0],[q3],fun x=>f x.1 x.2⟩
def jT  (r_:aE) (s:List UInt8):Option (Bool×aE):=(gL r_).bind fun r1=>
 if r1.1.Kind=3 then
 some (decide (r1.1.Text=s),r1.2) else
 if r1.1.Kind=1 then
 some (decide (r1.1.Text=s),r1.2) else
 some (false,r1.2)
theorem DU:ay Tryz.prog S (zH (jT)):=
 bJ pk [rD gL] ⟨tQ,trivial⟩ Tryz.func53 (by kernel_rfl) (fun _=>by kernel_rfl) (by kernel_rfl)
abbrev SZ:=aE→Int→Int→Option aE
abbrev DQ (f:SZ):Entry S:=⟨54,[q9,q1,q1],[],fun x=>f x.1 x.2.1 x.2.2⟩
def me  (r_:aE) (code:Int) (an:Int):Option aE:=(mX r_).bind fun r1=>
 bif r1.1 then
 some (aE.mk (bC.mk r1.2.Row.L r1.2.Row.At (bf.mk code an)) r1.2.aM) else
 some r1.2
theorem I9:ay Tryz.prog S (DQ (me)):=
 bJ pk [zJ mX] ⟨DV,trivial⟩ Tryz.func54 (by kernel_rfl) (fun _=>by kernel_rfl) (by kernel_rfl)
abbrev Oa:=aE→Int→Option (Bool×aE)
abbrev BU (f:Oa):Entry S:=⟨163,[q9,q1],[q3],fun x=>f x.1 x.2⟩
def jm  (r_:aE) (an:Int):Option (Bool×aE):=if r_.aM=12 then
 (me r_ 14 an).bind fun r1=>
 some (false,r1) else
 some (true,aE.mk (bC.mk r_.Row.L (ag (r_.Row.At+1)) r_.Row.bN) (ag (r_.aM+1)))
theorem Gn:ay Tryz.prog S (BU (jm)):=
 bJ pk [DQ me] ⟨I9,trivial⟩ Tryz.func163 (by kernel_rfl) (fun _=>by kernel_rfl) (by kernel_rfl)
abbrev Te:=aE→(List UInt8)→Option (Bool×aE)
abbrev DW (f:Te):Entry S:=⟨57,[q9,q0],[q3],fun x=>f x.1 x.2⟩
def mj  (r_:aE) (s:List UInt8):Option (Bool×aE):=(jT r_ s).bind fun r1=>
 bif r1.1 then
 some (r1.1,aE.mk (bC.mk r1.2.Row.L (ag (r1.2.Row.At+1)) r1.2.Row.bN) r1.2.aM) else
 some (r1.1,r1.2)
theorem Je:ay Tryz.prog S (DW (mj)):=
 bJ pk [zH jT] ⟨DU,trivial⟩ Tryz.func57 (by kernel_rfl) (fun _=>by kernel_rfl) (by kernel_rfl)
abbrev S1:=aE→Option (Bool×aE)
abbrev DS (f:S1):Entry S:=⟨84,[q9],[q3],fun x=>f x⟩
def nZ  (r_:aE):Option (Bool×aE):=(gL r_).bind fun r1=>
 if r1.1.Kind=1 then
 (nR r1.1.Text).bind fun r2=>
 some (!r2,r1.2) else
 some (false,r1.2)
theorem I_:ay Tryz.prog S (DS (nZ)):=
 bJ pk [rD gL,zk nR] ⟨tQ,Dc,trivial⟩ Tryz.func84 (by kernel_rfl) (fun _=>by kernel_rfl) (by kernel_rfl)
abbrev Tj:=aE→Option aE
abbrev zM (f:Tj):Entry S:=⟨83,[q9],[],fun x=>f x⟩
def kG  (r_:aE):Option aE:=(gL r_).bind fun r1=>
 if r1.1.Kind=4 then
 (me r1.2 12 r1.1.At).bind fun r2=>
 some r2 else
 (me r1.2 11 r1.1.At).bind fun r3=>
 some r3
theorem DX:ay Tryz.prog S (zM (kG)):=
 bJ pk [rD gL,DQ me] ⟨tQ,I9,trivial⟩ Tryz.func83 (by kernel_rfl) (fun _=>by kernel_rfl) (by kernel_rfl)
abbrev S8:=aE→Option (List UInt8×aE)
abbrev Jb (f:S8):Entry S:=⟨85,[q9],[q0],fun x=>f x⟩
def mh  (r_:aE):Option (List UInt8×aE):=(nZ r_).bind fun r1=>
 bif !r1.1 then
 (kG r1.2).bind fun r2=>
 some ([],r2) else
 if 0≤(ag ((ag (r1.2.Row.At+1)) - 1)) then
 if (ag ((ag (r1.2.Row.At+1)) - 1))<(r1.2.Row.L.length:Int) then
 some ((r1.2.Row.L.getD (ag ((ag (r1.2.Row.At+1)) - 1)).toNat ax.z).Text,aE.mk (bC.mk r1.2.Row.L (ag (r1.2.Row.At+1)) r1.2.Row.bN) r1.2.aM) else none else none
theorem S7:ay Tryz.prog S (Jb (mh)):=
 bJ pk [DS nZ,zM kG] ⟨I_,DX,trivial⟩ Tryz.func85 (by kernel_rfl) (fun _=>by kernel_rfl) (by kernel_rfl)
abbrev Th:=aE→(List UInt8)→Option aE
abbrev Jf (f:Th):Entry S:=⟨56,[q9,q0],[],fun x=>f x.1 x.2⟩
def iQ  (r_:aE) (s:List UInt8):Option aE:=(mj r_ s).bind fun r1=>
 bif !r1.1 then
 (kG r1.2).bind fun r2=>
 some r2 else
 some r1.2
theorem Tg:ay Tryz.prog S (Jf (iQ)):=
 bJ pk [DW mj,zM kG] ⟨Je,DX,trivial⟩ Tryz.func56 (by kernel_rfl) (fun _=>by kernel_rfl) (by kernel_rfl)
abbrev lP:=aE→Int→Option (af×aE)
abbrev nH (f:lP):Entry S:=⟨135,[q9,q1],[e_],fun x=>f x.1 x.2⟩
abbrev Oe:=aE→Option (af×aE)
abbrev Gp (f:Oe):Entry S:=⟨162,[q9],[e_],fun x=>f x⟩
def gD (cK:lP)  (r_:aE):Option (af×aE):=(gL r_).bind fun r1=>
 if r1.1.Kind=2 then
 some (af.mk 1 r1.1.N [] [] r1.1.At,aE.mk (bC.mk r1.2.Row.L (ag (r1.2.Row.At+1)) r1.2.Row.bN) r1.2.aM) else
 (mj r1.2 jB).bind fun r2=>
 bif r2.1 then
 some (af.mk 3 0 [] [] r1.1.At,r2.2) else
 (nZ r2.2).bind fun r3=>
 bif r3.1 then
 (mh r3.2).bind fun r4=>
 some (af.mk 2 0 r4.1 [] r1.1.At,r4.2) else
 (mj r3.2 gu).bind fun r5=>
 bif r5.1 then
 (iQ r5.2 bK).bind fun r6=>
 (mh r6).bind fun r7=>
 (iQ r7.2 bw).bind fun r8=>
 some (af.mk 4 0 r7.1 [] r1.1.At,r8) else
 (jT r5.2 bK).bind fun r9=>
 bif !r9.1 then
 (kG r9.2).bind fun cW=>
 some (af.mk 0 0 [] [] 0,cW) else
 (jm r9.2 r1.1.At).bind fun di=>
 bif !di.1 then
 some (af.mk 0 0 [] [] 0,di.2) else
 (cK di.2 1).bind fun cm=>
 (iQ cm.2 bw).bind fun dV=>
 some (af.mk cm.1.Kind cm.1.N cm.1.Name cm.1.Kids cm.1.At,aE.mk dV.Row (ag (dV.aM - 1)))
theorem Od (cK:lP) (oQ:ay Tryz.prog S (nH cK)):ay Tryz.prog S (Gp (gD cK)):=
 bJ pk [rD gL,DW mj,DS nZ,Jb mh,Jf iQ,zH jT,zM kG,BU jm,nH cK] ⟨tQ,Je,I_,S7,Tg,DU,DX,Gn,oQ,trivial⟩ Tryz.func162 (by kernel_rfl) (fun _=>by kernel_rfl) (by kernel_rfl)
abbrev BV:=aE→Option (af×aE)
abbrev vm (f:BV):Entry S:=⟨147,[q9],[e_],fun x=>f x⟩
def oN (uu:BV) (cK:lP) (k:Nat) (r_:aE):Option (af×aE):=(gL r_).bind fun r1=>
 (jT r1.2 dA).bind fun r2=>
 bif r2.1 then
 (jm r2.2 r1.1.At).bind fun r3=>
 bif !r3.1 then
 some (af.mk 0 0 [] [] 0,r3.2) else
 (uu r3.2).bind fun r4=>
 some (af.mk 5 0 [] [af.mk r4.1.Kind r4.1.N r4.1.Name r4.1.Kids r4.1.At] r1.1.At,aE.mk r4.2.Row (ag (r4.2.aM - 1))) else
 (jT r2.2 gN).bind fun r5=>
 bif r5.1 then
 (jm r5.2 r1.1.At).bind fun r6=>
 bif !r6.1 then
 some (af.mk 0 0 [] [] 0,r6.2) else
 (uu r6.2).bind fun r7=>
 some (af.mk 6 0 [] [af.mk r7.1.Kind r7.1.N r7.1.Name r7.1.Kids r7.1.At] r1.1.At,aE.mk r7.2.Row (ag (r7.2.aM - 1))) else
 (gD cK r5.2).bind fun r8=>
 some (af.mk r8.1.Kind r8.1.N r8.1.Name r8.1.Kids r8.1.At,r8.2)
def gZ (cK:lP):Nat→aE→Option (af×aE)
 | 0,_=>none
 | k+1,x0=>oN (gZ cK k) cK k x0
def qo (cK:lP)  (r_:aE):Option (af×aE):=ct (fun k (x:aE)=>gZ cK k x) r_
theorem Og (uu:BV) (cK:lP) (k:Nat) (O5:ay Tryz.prog S (vm uu)) (oQ:ay Tryz.prog S (nH cK)):ay Tryz.prog S (vm (oN uu cK k)):=
 bJ pk [rD gL,zH jT,BU jm,vm uu,Gp (gD cK)] ⟨tQ,DU,Gn,O5,Od cK oQ,trivial⟩ Tryz.func147 (by kernel_rfl) (fun _=>by kernel_rfl) (by kernel_rfl)
theorem Of (cK:lP) (oQ:ay Tryz.prog S (nH cK)):ay Tryz.prog S (vm (qo cK)):=gQ (fun k x=>gZ cK k x) (fun _=>rfl) Tryz.func147 (by kernel_rfl) (fun _=>rfl) fun k h=>Og (gZ cK k) cK k h oQ
abbrev Om:=(List UInt8)→Option (Int×Int)
abbrev BW (f:Om):Entry S:=⟨148,[q0],[q1,q1],fun x=>f x⟩
def qp  (text:List UInt8):Option (Int×Int):=if text=kR then
 some (19,1) else
 if text=kP then
 some (18,2) else
 if text=kY then
 some (12,3) else
 if text=kZ then
 some (13,3) else
 if text=kW then
 some (14,3) else
 if text=kX then
 some (15,3) else
 if text=kV then
 some (16,3) else
 if text=kQ then
 some (17,3) else
 if text=k9 then
 some (10,4) else
 if text=dA then
 some (11,4) else
 if text=lf then
 some (7,5) else
 if text=ld then
 some (8,5) else
 if text=k8 then
 some (9,5) else
 some (0,0)
theorem Gr:ay Tryz.prog S (BW (qp)):=
 bJ pk [] trivial Tryz.func148 (by kernel_rfl) (fun _=>by kernel_rfl) (by kernel_rfl)
def mJ (cK:lP):Nat→(List ax)→Int→Int→Int→Int→Int→Int→Int→(List UInt8)→(List af)→Int→Int→Int→(List UInt8)→(List af)→Int→Option (af×aE)
 | 0,_,_,_,_,_,_,_,_,_,_,_,_,_,_,_,_=>none
 | k+1,wN,wK,wM,wL,jR,level,xH,xI,xJ,xG,xF,bR,bV,b8,bn,cq=>(gL (aE.mk (bC.mk wN wK (bf.mk wM wL)) jR)).bind fun r3=>
  (qp r3.1.Text).bind fun r4=>
  if r3.1.Kind≠3 then
  some (af.mk bR bV b8 bn cq,r3.2) else
  if r4.2≠level then
  some (af.mk bR bV b8 bn cq,r3.2) else
  (cK (aE.mk (bC.mk r3.2.Row.L (ag (r3.2.Row.At+1)) r3.2.Row.bN) r3.2.aM) (ag (level+1))).bind fun r5=>
  if level=3 then
  some (af.mk r4.1 0 [] [af.mk bR bV b8 bn cq,af.mk r5.1.Kind r5.1.N r5.1.Name r5.1.Kids r5.1.At] r3.1.At,r5.2) else
  mJ cK k r5.2.Row.L r5.2.Row.At r5.2.Row.bN.Code r5.2.Row.bN.At r5.2.aM level xH xI xJ xG xF r4.1 0 [] [af.mk bR bV b8 bn cq,af.mk r5.1.Kind r5.1.N r5.1.Name r5.1.Kids r5.1.At] r3.1.At
def oM (cK:lP) (k:Nat) (r_:aE) (level:Int):Option (af×aE):=if level=6 then
 (qo cK r_).bind fun r1=>
 some (af.mk r1.1.Kind r1.1.N r1.1.Name r1.1.Kids r1.1.At,r1.2) else
 (cK r_ (ag (level+1))).bind fun r2=>
 mJ cK k r2.2.Row.L r2.2.Row.At r2.2.Row.bN.Code r2.2.Row.bN.At r2.2.aM level 0 0 [] [] 0 r2.1.Kind r2.1.N r2.1.Name r2.1.Kids r2.1.At
def dR:Nat→aE→Int→Option (af×aE)
 | 0,_,_=>none
 | k+1,x0,x1=>oM (dR k) k x0 x1
def yq  (r_:aE) (level:Int):Option (af×aE):=ct (fun k (x:aE×Int)=>dR k x.1 x.2) (r_,level)
theorem Oc (cK:lP) (k:Nat) (oQ:ay Tryz.prog S (nH cK)):ay Tryz.prog S (nH (oM cK k)):=
 eH pk [vm (qo cK),nH cK,rD gL,BW qp] ⟨Of cK oQ,oQ,tQ,Gr,trivial⟩ Tryz.func135 [] k (fun k=> [(0,⟨[0,1,4,5],[rA,q1,SI,l9],fun x=>mJ cK k x.1.1 x.1.2.1 x.1.2.2.1 x.1.2.2.2.1 x.1.2.2.2.2 x.2.1 x.2.2.1.1 x.2.2.1.2.1 x.2.2.1.2.2.1 x.2.2.1.2.2.2.1 x.2.2.1.2.2.2.2 x.2.2.2.1 x.2.2.2.2.1 x.2.2.2.2.2.1 x.2.2.2.2.2.2.1 x.2.2.2.2.2.2.2,false⟩)]) ⟨fun _=>rfl,trivial⟩ (fun _=>by kernel_rfl) (fun _=>by kernel_rfl) (by kernel_rfl)
theorem Ob:ay Tryz.prog S (nH (yq)):=gQ (fun k x=>dR k x.1 x.2) (fun _=>rfl) Tryz.func135 (by kernel_rfl) (fun _=>rfl) fun k h=>Oc (dR k) k h
abbrev NZ:=(List ax)→Int→Option (af×Int×bf)
abbrev Gi (f:NZ):Entry S:=⟨114,[IY,q1],[e_,q1,q6],fun x=>f x.1 x.2⟩
def sR  (l:List ax) (an:Int):Option (af×Int×bf):=(yq (aE.mk (bC.mk l an (bf.mk 0 0)) 0) 1).bind fun r1=>
 (mX r1.2).bind fun r2=>
 bif !r2.1 then
 some (af.mk 0 0 [] [] 0,0,r2.2.Row.bN) else
 some (af.mk r1.1.Kind r1.1.N r1.1.Name r1.1.Kids r1.1.At,r2.2.Row.At,bf.mk 0 0)
theorem NY:ay Tryz.prog S (Gi (sR)):=
 bJ pk [nH yq,zJ mX] ⟨Ob,DV,trivial⟩ Tryz.func114 (by kernel_rfl) (fun _=>by kernel_rfl) (by kernel_rfl)
abbrev L9:=aL→Option (List af×aL)
abbrev Bg (f:L9):Entry S:=⟨86,[q8],[kD],fun x=>f x⟩
def oB  (r_:aL):Option (List af×aL):=(jv r_).bind fun r1=>
 bif !r1.1 then
 some ([],r1.2) else
 (sR r1.2.Row.L r1.2.Row.At).bind fun r2=>
 (mc r1.2 r2.2.2.Code r2.2.2.At).bind fun r3=>
 some ([af.mk r2.1.Kind r2.1.N r2.1.Name r2.1.Kids r2.1.At],aL.mk (bC.mk r3.Row.L r2.2.1 r3.Row.bN) r3.aM)
theorem Fb:ay Tryz.prog S (Bg (oB)):=
 bJ pk [tS jv,Gi sR,zG mc] ⟨wQ,NY,DR,trivial⟩ Tryz.func86 (by kernel_rfl) (fun _=>by kernel_rfl) (by kernel_rfl)
abbrev L_:=aL→Option (List af×aL)
abbrev xS (f:L_):Entry S:=⟨88,[q8],[kD],fun x=>f x⟩
def nB  (r_:aL):Option (List af×aL):=(fG r_ bK).bind fun r1=>
 (oB r1).bind fun r2=>
 (fG r2.2 bw).bind fun r3=>
 some (r2.1,r3)
theorem Bh:ay Tryz.prog S (xS (nB)):=
 bJ pk [wS fG,Bg oB] ⟨zL,Fb,trivial⟩ Tryz.func88 (by kernel_rfl) (fun _=>by kernel_rfl) (by kernel_rfl)
abbrev Md:=aL→Option (List af×aL)
abbrev Fc (f:Md):Entry S:=⟨87,[q8],[kD],fun x=>f x⟩
def qd  (r_:aL):Option (List af×aL):=(jS r_ bK).bind fun r1=>
 bif !r1.1 then
 some ([],r1.2) else
 (nB r1.2).bind fun r2=>
 some (r2.1,r2.2)
theorem Mc:ay Tryz.prog S (Fc (qd)):=
 bJ pk [wO jS,xS nB] ⟨zI,Bh,trivial⟩ Tryz.func87 (by kernel_rfl) (fun _=>by kernel_rfl) (by kernel_rfl)
abbrev Tb:=aL→Option (Int×aL)
abbrev Jd (f:Tb):Entry S:=⟨115,[q8],[q1],fun x=>f x⟩
def wP  (r_:aL):Option (Int×aL):=(iP r_).bind fun r1=>
 if r1.1.Kind≠2 then
 (kF r1.2).bind fun r2=>
 some (0,r2) else
 some (r1.1.N,aL.mk (bC.mk r1.2.Row.L (ag (r1.2.Row.At+1)) r1.2.Row.bN) r1.2.aM)
theorem Ta:ay Tryz.prog S (Jd (wP)):=
 bJ pk [rE iP,wT kF] ⟨tR,zN,trivial⟩ Tryz.func115 (by kernel_rfl) (fun _=>by kernel_rfl) (by kernel_rfl)
abbrev nA:=aL→Option (List ah×aL)
abbrev qc (f:nA):Entry S:=⟨27,[q8],[zB],fun x=>f x⟩
abbrev Mf:=aL→ah→Option (ah×aL)
abbrev Ff (f:Mf):Entry S:=⟨89,[q8,nW],[nW],fun x=>f x.1 x.2⟩
def oC (dj:nA)  (r_:aL) (a:ah):Option (ah×aL):=(gM r_ iW).bind fun r1=>
 bif r1.1 then
 (wP r1.2).bind fun r2=>
 (dj r2.2).bind fun r3=>
 some (ah.mk 7 a.Name a.Event a.X r2.1 r3.1 a.aD a.At,r3.2) else
 (fG r1.2 j0).bind fun r4=>
 (nB r4).bind fun r5=>
 (dj r5.2).bind fun r6=>
 (gM r6.2 kU).bind fun r7=>
 bif r7.1 then
 (dj r7.2).bind fun r8=>
 some (ah.mk 6 a.Name a.Event r5.1 a.N r6.1 r8.1 a.At,r8.2) else
 some (ah.mk 6 a.Name a.Event r5.1 a.N r6.1 a.aD a.At,r7.2)
theorem Me (dj:nA) (vC:ay Tryz.prog S (qc dj)):ay Tryz.prog S (Ff (oC dj)):=
 bJ pk [wR gM,Jd wP,qc dj,wS fG,xS nB] ⟨zK,Ta,vC,zL,Bh,trivial⟩ Tryz.func89 (by kernel_rfl) (fun _=>by kernel_rfl) (by kernel_rfl)
abbrev L5:=aL→Option (ah×aL)
abbrev E_ (f:L5):Entry S:=⟨58,[q8],[nW],fun x=>f x⟩
def ji (dj:nA)  (r_:aL):Option (ah×aL):=(iP r_).bind fun r1=>
 (pG r1.2).bind fun r2=>
 bif r2.1 then
 (mg r2.2).bind fun r3=>
 (fG r3.2 rU).bind fun r4=>
 (oB r4).bind fun r5=>
 (fG r5.2 bh).bind fun r6=>
 some (ah.mk 1 r3.1 [] r5.1 0 [] [] r1.1.At,r6) else
 (gM r2.2 ir).bind fun r7=>
 bif r7.1 then
 (mg r7.2).bind fun r8=>
 (qd r8.2).bind fun r9=>
 (fG r9.2 bh).bind fun cW=>
 some (ah.mk 2 [] r8.1 r9.1 0 [] [] r1.1.At,cW) else
 (gM r7.2 iw).bind fun di=>
 bif di.1 then
 (mg di.2).bind fun cm=>
 (mg cm.2).bind fun dV=>
 (qd dV.2).bind fun iN=>
 (fG iN.2 bh).bind fun fW=>
 some (ah.mk 3 cm.1 dV.1 iN.1 0 [] [] r1.1.At,fW) else
 (gM di.2 jZ).bind fun r16=>
 bif r16.1 then
 (mg r16.2).bind fun l_=>
 (nB l_.2).bind fun nY=>
 (fG nY.2 bh).bind fun tM=>
 some (ah.mk 4 l_.1 [] nY.1 0 [] [] r1.1.At,tM) else
 (gM r16.2 kS).bind fun pE=>
 bif pE.1 then
 (mg pE.2).bind fun rB=>
 (fG rB.2 bh).bind fun wJ=>
 some (ah.mk 5 rB.1 [] [] 0 [] [] r1.1.At,wJ) else
 (jS pE.2 j0).bind fun kE=>
 bif kE.1 then
 bif kE.1 then
 (oC dj kE.2 (ah.mk 0 [] [] [] 0 [] [] r1.1.At)).bind fun eT=>
 some (ah.mk eT.1.Kind eT.1.Name eT.1.Event eT.1.X eT.1.N eT.1.aK eT.1.aD eT.1.At,eT.2) else
 (kF kE.2).bind fun tN=>
 (fG tN bh).bind fun DM=>
 some (ah.mk 0 [] [] [] 0 [] [] r1.1.At,DM) else
 (jS kE.2 iW).bind fun tO=>
 bif tO.1 then
 (oC dj tO.2 (ah.mk 0 [] [] [] 0 [] [] r1.1.At)).bind fun mb=>
 some (ah.mk mb.1.Kind mb.1.Name mb.1.Event mb.1.X mb.1.N mb.1.aK mb.1.aD mb.1.At,mb.2) else
 (kF tO.2).bind fun zD=>
 (fG zD bh).bind fun zE=>
 some (ah.mk 0 [] [] [] 0 [] [] r1.1.At,zE)
theorem L4 (dj:nA) (vC:ay Tryz.prog S (qc dj)):ay Tryz.prog S (E_ (ji dj)):=
 bJ pk [rE iP,DT pG,Jc mg,wS fG,Bg oB,wR gM,Fc qd,xS nB,wO jS,Ff (oC dj),wT kF] ⟨tR,Ja,S9,zL,Fb,zK,Mc,Bh,zI,Me dj vC,zN,trivial⟩ Tryz.func58 (by kernel_rfl) (fun _=>by kernel_rfl) (by kernel_rfl)
def lG (dj:nA):Nat→(List ax)→Int→Int→Int→Int→(List ah)→Option (List ah×aL)
 | 0,_,_,_,_,_,_=>none
 | k+1,wN,wK,wM,wL,jR,l=>(jv (aL.mk (bC.mk wN wK (bf.mk wM wL)) jR)).bind fun r5=>
  bif r5.1 then
  (gM r5.2 cY).bind fun r6=>
  bif !r6.1 then
  (ji dj r6.2).bind fun r7=>
  if (l.length+ [r7.1].length)*128≤140737488355328 then
  lG dj k r7.2.Row.L r7.2.Row.At r7.2.Row.bN.Code r7.2.Row.bN.At r7.2.aM (l++ [r7.1]) else none else
  some (l,aL.mk r6.2.Row (ag (r6.2.aM - 1))) else
  some (l,aL.mk r5.2.Row (ag (r5.2.aM - 1)))
def sF (dj:nA):Nat→(List ax)→Int→Int→Int→Int→Option (List ah×aL)
 | 0,_,_,_,_,_=>none
 | k+1,wN,wK,wM,wL,jR=>(fG (aL.mk (bC.mk wN wK (bf.mk wM wL)) jR) gv).bind fun r4=>
  lG dj k r4.Row.L r4.Row.At r4.Row.bN.Code r4.Row.bN.At (ag (r4.aM+1)) []
def sE (dj:nA) (k:Nat) (r_:aL):Option (List ah×aL):=(jS r_ gv).bind fun r1=>
 bif r1.1 then
 if r1.2.aM=4 then
 (iP r1.2).bind fun r2=>
 (mc r2.2 14 r2.1.At).bind fun r3=>
 sF dj k r3.Row.L r3.Row.At r3.Row.bN.Code r3.Row.bN.At r3.aM else
 sF dj k r1.2.Row.L r1.2.Row.At r1.2.Row.bN.Code r1.2.Row.bN.At r1.2.aM else
 sF dj k r1.2.Row.L r1.2.Row.At r1.2.Row.bN.Code r1.2.Row.bN.At r1.2.aM
def gV:Nat→aL→Option (List ah×aL)
 | 0,_=>none
 | k+1,x0=>sE (gV k) k x0
def uY  (r_:aL):Option (List ah×aL):=ct (fun k (x:aL)=>gV k x) r_
theorem L8 (dj:nA) (k:Nat) (vC:ay Tryz.prog S (qc dj)):ay Tryz.prog S (qc (sE dj k)):=
 eH pk [wO jS,rE iP,zG mc,wS fG,tS jv,wR gM,E_ (ji dj)] ⟨zI,tR,DR,zL,wQ,zK,L4 dj vC,trivial⟩ Tryz.func27 [1] k (fun k=> [(1,⟨[0],[rA],fun x=>sF dj k x.1 x.2.1 x.2.2.1 x.2.2.2.1 x.2.2.2.2,false⟩),(0,⟨[0,3],[rA,zB],fun x=>lG dj k x.1.1 x.1.2.1 x.1.2.2.1 x.1.2.2.2.1 x.1.2.2.2.2 x.2,false⟩)]) ⟨fun _=>rfl,fun _=>rfl,trivial⟩ (fun _=>by kernel_rfl) (fun _=>by kernel_rfl) (by kernel_rfl)
theorem L6:ay Tryz.prog S (qc (uY)):=gQ (fun k x=>gV k x) (fun _=>rfl) Tryz.func27 (by kernel_rfl) (fun _=>rfl) fun k h=>L8 (gV k) k h
abbrev LN:=(List ax)→Int→Option (List ah×Int×bf)
abbrev E5 (f:LN):Entry S:=⟨11,[IY,q1],[zB,q1,q6],fun x=>f x.1 x.2⟩
def sA  (l:List ax) (an:Int):Option (List ah×Int×bf):=(uY (aL.mk (bC.mk l an (bf.mk 0 0)) 0)).bind fun r1=>
 (jv r1.2).bind fun r2=>
 bif !r2.1 then
 some ([],0,r2.2.Row.bN) else
 some (r1.1,r2.2.Row.At,bf.mk 0 0)
theorem LM:ay Tryz.prog S (E5 (sA)):=
 bJ pk [qc uY,tS jv] ⟨L6,wQ,trivial⟩ Tryz.func11 (by kernel_rfl) (fun _=>by kernel_rfl) (by kernel_rfl)
abbrev Q3:=(List UInt8)→Option (List ah×Bool)
abbrev C4 (f:Q3):Entry S:=⟨21,[q0],[zB,q3],fun x=>f x⟩
def mO  (s:List UInt8):Option (List ah×Bool):=(zj s).bind fun r1=>
 if r1.2.Code≠0 then
 some ([],false) else
 (sA r1.1 0).bind fun r2=>
 if r2.2.2.Code=0 then
 some (r2.1,decide (r2.2.1=(ag ((r1.1.length:Int) - 1)))) else
 some (r2.1,false)
theorem H9:ay Tryz.prog S (C4 (mO)):=
 bJ pk [Ii zj,E5 sA] ⟨Rk,LM,trivial⟩ Tryz.func21 (by kernel_rfl) (fun _=>by kernel_rfl) (by kernel_rfl)
abbrev N8:=Int→Option (List UInt8×Int)
abbrev BR (f:N8):Entry S:=⟨143,[q1],[q0,q1],fun x=>f x⟩
def sU:Nat→Int→(List UInt8×List UInt8×List UInt8×List UInt8×List UInt8×List UInt8×List UInt8×List UInt8×List UInt8×List UInt8×List UInt8×List UInt8×List UInt8)→Int→Option (List UInt8×Int)
 | 0,_,_,_=>none
 | k+1,kind,x8,x9=>if x9<13 then
  if 0≤x9 then
  if x9<([x8.1,x8.2.1,x8.2.2.1,x8.2.2.2.1,x8.2.2.2.2.1,x8.2.2.2.2.2.1,x8.2.2.2.2.2.2.1,x8.2.2.2.2.2.2.2.1,x8.2.2.2.2.2.2.2.2.1,x8.2.2.2.2.2.2.2.2.2.1,x8.2.2.2.2.2.2.2.2.2.2.1,x8.2.2.2.2.2.2.2.2.2.2.2.1,x8.2.2.2.2.2.2.2.2.2.2.2.2].length:Int) then
  (qp ([x8.1,x8.2.1,x8.2.2.1,x8.2.2.2.1,x8.2.2.2.2.1,x8.2.2.2.2.2.1,x8.2.2.2.2.2.2.1,x8.2.2.2.2.2.2.2.1,x8.2.2.2.2.2.2.2.2.1,x8.2.2.2.2.2.2.2.2.2.1,x8.2.2.2.2.2.2.2.2.2.2.1,x8.2.2.2.2.2.2.2.2.2.2.2.1,x8.2.2.2.2.2.2.2.2.2.2.2.2].getD x9.toNat [])).bind fun r1=>
  if r1.1=kind then
  some ([x8.1,x8.2.1,x8.2.2.1,x8.2.2.2.1,x8.2.2.2.2.1,x8.2.2.2.2.2.1,x8.2.2.2.2.2.2.1,x8.2.2.2.2.2.2.2.1,x8.2.2.2.2.2.2.2.2.1,x8.2.2.2.2.2.2.2.2.2.1,x8.2.2.2.2.2.2.2.2.2.2.1,x8.2.2.2.2.2.2.2.2.2.2.2.1,x8.2.2.2.2.2.2.2.2.2.2.2.2].getD x9.toNat [],r1.2) else
  sU k kind x8 (ag (x9+1)) else none else none else
  some ([],0)
def Gl (k:Nat) (kind:Int):Option (List UInt8×Int):=sU k kind iC 0
def qn  (kind:Int):Option (List UInt8×Int):=ct (fun k (x:Int)=>Gl k x) kind
theorem Gm:ay Tryz.prog S (BR (qn)):=i_ (fun k x=>Gl k x) (fun _=>rfl) fun k=>
 eH pk [BW qp] ⟨Gr,trivial⟩ Tryz.func143 [] k (fun k=> [(0,⟨[0,8,9],[q1,SJ,q1],fun x=>sU k x.1 x.2.1 x.2.2,false⟩)]) ⟨fun _=>rfl,trivial⟩ (fun _=>by kernel_rfl) (fun _=>by kernel_rfl) (by kernel_rfl)
abbrev N9:=Int→Option Int
abbrev yo (f:N9):Entry S:=⟨123,[q1],[q1],fun x=>f x⟩
def lO  (kind:Int):Option Int:=if kind=5 then
 some 6 else
 if kind=6 then
 some 6 else
 (qn kind).bind fun r1=>
 if 0<r1.2 then
 some r1.2 else
 some 7
theorem BS:ay Tryz.prog S (yo (lO)):=
 bJ pk [BR qn] ⟨Gm,trivial⟩ Tryz.func123 (by kernel_rfl) (fun _=>by kernel_rfl) (by kernel_rfl)
abbrev N_:=Int→Option (List Int)
abbrev yp (f:N_):Entry S:=⟨124,[q1],[zC],fun x=>f x⟩
def dQ  (kind:Int):Option (List Int):=(lO kind).bind fun r1=>
 if r1=7 then
 some [] else
 if r1=6 then
 some [6] else
 if r1=3 then
 some [4,4] else
 some [r1,ag (r1+1)]
theorem BT:ay Tryz.prog S (yp (dQ)):=
 bJ pk [yo lO] ⟨BS,trivial⟩ Tryz.func124 (by kernel_rfl) (fun _=>by kernel_rfl) (by kernel_rfl)
abbrev vq:=(List UInt8)→af→Int→Option (List UInt8)
abbrev vp (f:vq):Entry S:=⟨130,[mW,e_,q1],[],fun x=>f x.1 x.2.1 x.2.2⟩
def g_ (dB:vq):Nat→(List UInt8)→Int→Int→(List UInt8)→(List af)→Int→(List Int)→Int→Int→Option (List UInt8)
 | 0,_,_,_,_,_,_,_,_,_=>none
 | k+1,b,bR,bV,b8,bn,cq,mz,sj,dn=>if dn<sj then
  if 0≤dn then
  if dn<(mz.length:Int) then
  if (bn.length:Int)≤dn then
  (eE b 41).bind fun SL=>
  some SL.2 else
  if 0<dn then
  (qn bR).bind fun r32=>
  if aJ.length+r32.1.length≤9223372036854775807 then
  if (aJ++r32.1).length+aJ.length≤9223372036854775807 then
  (cQ b ((aJ++r32.1)++aJ)).bind fun SM=>
  if 0≤dn then
  if dn<(bn.length:Int) then
  (dB SM.2.2 (bn.getD dn.toNat af.z) (mz.getD dn.toNat 0)).bind fun SN=>
  g_ dB k SN bR bV b8 bn cq mz sj (ag (dn+1)) else none else none else none else none else
  if 0≤dn then
  if dn<(bn.length:Int) then
  (dB b (bn.getD dn.toNat af.z) (mz.getD dn.toNat 0)).bind fun SO=>
  g_ dB k SO bR bV b8 bn cq mz sj (ag (dn+1)) else none else none else none else none else
  (eE b 41).bind fun SP=>
  some SP.2
def hJ (dB:vq):Nat→(List UInt8)→Int→Int→(List UInt8)→(List af)→Int→(List Int)→Int→Int→Option (List UInt8)
 | 0,_,_,_,_,_,_,_,_,_=>none
 | k+1,b,bR,bV,b8,bn,cq,mz,sj,dn=>if dn<sj then
  if 0≤dn then
  if dn<(mz.length:Int) then
  if (bn.length:Int)≤dn then
  some b else
  if 0<dn then
  (qn bR).bind fun DN=>
  if aJ.length+DN.1.length≤9223372036854775807 then
  if (aJ++DN.1).length+aJ.length≤9223372036854775807 then
  (cQ b ((aJ++DN.1)++aJ)).bind fun SQ=>
  if 0≤dn then
  if dn<(bn.length:Int) then
  (dB SQ.2.2 (bn.getD dn.toNat af.z) (mz.getD dn.toNat 0)).bind fun SR=>
  hJ dB k SR bR bV b8 bn cq mz sj (ag (dn+1)) else none else none else none else none else
  if 0≤dn then
  if dn<(bn.length:Int) then
  (dB b (bn.getD dn.toNat af.z) (mz.getD dn.toNat 0)).bind fun SS=>
  hJ dB k SS bR bV b8 bn cq mz sj (ag (dn+1)) else none else none else none else none else
  some b
def jn (dB:vq) (k:Nat) (b:List UInt8) (e:af) (asked:Int):Option (List UInt8):=(lO e.Kind).bind fun r1=>
 if r1<asked then
 (eE b 40).bind fun r2=>
 if e.Kind=1 then
 (o_ e.N 10).bind fun r3=>
 (cQ r2.2 r3).bind fun r4=>
 (dQ e.Kind).bind fun r5=>
 g_ dB k r4.2.2 e.Kind e.N e.Name e.Kids e.At r5 (r5.length:Int) 0 else
 if e.Kind=3 then
 (eE r2.2 36).bind fun r6=>
 (dQ e.Kind).bind fun r7=>
 g_ dB k r6.2 e.Kind e.N e.Name e.Kids e.At r7 (r7.length:Int) 0 else
 if e.Kind=2 then
 (cQ r2.2 e.Name).bind fun r8=>
 (dQ e.Kind).bind fun r9=>
 g_ dB k r8.2.2 e.Kind e.N e.Name e.Kids e.At r9 (r9.length:Int) 0 else
 if e.Kind=4 then
 if fY.length+e.Name.length≤9223372036854775807 then
 if (fY++e.Name).length+bw.length≤9223372036854775807 then
 (cQ r2.2 ((fY++e.Name)++bw)).bind fun cW=>
 (dQ e.Kind).bind fun di=>
 g_ dB k cW.2.2 e.Kind e.N e.Name e.Kids e.At di (di.length:Int) 0 else none else none else
 if e.Kind=5 then
 (eE r2.2 45).bind fun cm=>
 (dQ e.Kind).bind fun dV=>
 g_ dB k cm.2 e.Kind e.N e.Name e.Kids e.At dV (dV.length:Int) 0 else
 if e.Kind=6 then
 (eE r2.2 33).bind fun iN=>
 (dQ e.Kind).bind fun fW=>
 g_ dB k iN.2 e.Kind e.N e.Name e.Kids e.At fW (fW.length:Int) 0 else
 (dQ e.Kind).bind fun r16=>
 g_ dB k r2.2 e.Kind e.N e.Name e.Kids e.At r16 (r16.length:Int) 0 else
 if e.Kind=1 then
 (o_ e.N 10).bind fun l_=>
 (cQ b l_).bind fun nY=>
 (dQ e.Kind).bind fun tM=>
 hJ dB k nY.2.2 e.Kind e.N e.Name e.Kids e.At tM (tM.length:Int) 0 else
 if e.Kind=3 then
 (eE b 36).bind fun pE=>
 (dQ e.Kind).bind fun rB=>
 hJ dB k pE.2 e.Kind e.N e.Name e.Kids e.At rB (rB.length:Int) 0 else
 if e.Kind=2 then
 (cQ b e.Name).bind fun wJ=>
 (dQ e.Kind).bind fun kE=>
 hJ dB k wJ.2.2 e.Kind e.N e.Name e.Kids e.At kE (kE.length:Int) 0 else
 if e.Kind=4 then
 if fY.length+e.Name.length≤9223372036854775807 then
 if (fY++e.Name).length+bw.length≤9223372036854775807 then
 (cQ b ((fY++e.Name)++bw)).bind fun eT=>
 (dQ e.Kind).bind fun tN=>
 hJ dB k eT.2.2 e.Kind e.N e.Name e.Kids e.At tN (tN.length:Int) 0 else none else none else
 if e.Kind=5 then
 (eE b 45).bind fun DM=>
 (dQ e.Kind).bind fun tO=>
 hJ dB k DM.2 e.Kind e.N e.Name e.Kids e.At tO (tO.length:Int) 0 else
 if e.Kind=6 then
 (eE b 33).bind fun mb=>
 (dQ e.Kind).bind fun zD=>
 hJ dB k mb.2 e.Kind e.N e.Name e.Kids e.At zD (zD.length:Int) 0 else
 (dQ e.Kind).bind fun zE=>
 hJ dB k b e.Kind e.N e.Name e.Kids e.At zE (zE.length:Int) 0
def kg:Nat→(List UInt8)→af→Int→Option (List UInt8)
 | 0,_,_,_=>none
 | k+1,x0,x1,x2=>jn (kg k) k x0 x1 x2
def yz  (b:List UInt8) (e:af) (asked:Int):Option (List UInt8):=ct (fun k (x:List UInt8×af×Int)=>kg k x.1 x.2.1 x.2.2) (b,e,asked)
theorem Oo (dB:vq) (k:Nat) (O7:ay Tryz.prog S (vp dB)):ay Tryz.prog S (vp (jn dB k)):=
 sX pk ⟨[yo lO,BK,NN,BJ,yp dQ,BR qn,vp dB],[],false,false,some (81,[.tmp 0, .const (.int .u8 41)]),[BK]⟩ ⟨BS,IM,Sb,DA,BT,Gm,O7,trivial⟩ (all_cons Sf all_nil) (all_nil) Tryz.func130 [] k (fun k=> [(0,⟨[0,4,55,56,57],[mW,l9,zC,q1,q1],fun x=>g_ dB k x.1 x.2.1.1 x.2.1.2.1 x.2.1.2.2.1 x.2.1.2.2.2.1 x.2.1.2.2.2.2 x.2.2.1 x.2.2.2.1 x.2.2.2.2,true⟩),(0,⟨[0,4,55,56,57],[mW,l9,zC,q1,q1],fun x=>hJ dB k x.1 x.2.1.1 x.2.1.2.1 x.2.1.2.2.1 x.2.1.2.2.2.1 x.2.1.2.2.2.2 x.2.2.1 x.2.2.2.1 x.2.2.2.2,false⟩)]) ⟨fun _=>rfl,fun _=>rfl,trivial⟩ (fun _=>by kernel_rfl) (fun _=>by kernel_rfl) (by kernel_rfl)
theorem On:ay Tryz.prog S (vp (yz)):=gQ (fun k x=>kg k x.1 x.2.1 x.2.2) (fun _=>rfl) Tryz.func130 (by kernel_rfl) (fun _=>rfl) fun k h=>Oo (kg k) k h
abbrev N3:=af→Option (List UInt8)
abbrev Gj (f:N3):Entry S:=⟨109,[e_],[q0],fun x=>f x⟩
def vk  (e:af):Option (List UInt8):=(yz [] (af.mk e.Kind e.N e.Name e.Kids e.At) 1).bind fun r1=>
 (x4 r1).bind fun r2=>
 some r2.1
theorem N0:ay Tryz.prog S (Gj (vk)):=
 bJ pk [vp yz,F1] ⟨On,IN,trivial⟩ Tryz.func109 (by kernel_rfl) (fun _=>by kernel_rfl) (by kernel_rfl)
abbrev oA:=(List UInt8)→(List ah)→Int→Option (List UInt8)
abbrev sD (f:oA):Entry S:=⟨41,[mW,fF,q1],[],fun x=>f x.1 x.2.1 x.2.2⟩
abbrev L3:=(List UInt8)→ah→Int→Option (List UInt8)
abbrev E9 (f:L3):Entry S:=⟨80,[mW,nW,q1],[],fun x=>f x.1 x.2.1 x.2.2⟩
def iB (dW:oA):Nat→(List UInt8)→Int→Int→(List UInt8)→(List UInt8)→(List af)→Int→(List ah)→(List ah)→Int→(List UInt8)→(List af)→Int→Int→Option (List UInt8)
 | 0,_,_,_,_,_,_,_,_,_,_,_,_,_,_=>none
 | k+1,b,dG,aP,aW,a_,bA,bO,bL,bG,b7,x,jb,dm,ou=>if ou<dm then
  if 0≤ou then
  if ou<(jb.length:Int) then
  (vk (af.mk ((jb.getD ou.toNat af.z).Kind) ((jb.getD ou.toNat af.z).N) ((jb.getD ou.toNat af.z).Name) ((jb.getD ou.toNat af.z).Kids) ((jb.getD ou.toNat af.z).At))).bind fun r1=>
  iB dW k b dG aP aW a_ bA bO bL bG b7 r1 jb dm (ag (ou+1)) else none else none else
  if 0<(bA.length:Int) then
  if bK.length+x.length≤9223372036854775807 then
  if (bK++x).length+bw.length≤9223372036854775807 then
  if aP=1 then
  if aW.length+gO.length≤9223372036854775807 then
  if (aW++gO).length+x.length≤9223372036854775807 then
  if ((aW++gO)++x).length+bh.length≤9223372036854775807 then
  (cQ b (((aW++gO)++x)++bh)).bind fun r2=>
  some r2.2.2 else none else none else none else
  if aP=2 then
  if iu.length+a_.length≤9223372036854775807 then
  if (iu++a_).length+((bK++x)++bw).length≤9223372036854775807 then
  if ((iu++a_)++((bK++x)++bw)).length+bh.length≤9223372036854775807 then
  (cQ b (((iu++a_)++((bK++x)++bw))++bh)).bind fun r3=>
  some r3.2.2 else none else none else none else
  if aP=3 then
  if eV.length+aW.length≤9223372036854775807 then
  if (eV++aW).length+aJ.length≤9223372036854775807 then
  if ((eV++aW)++aJ).length+a_.length≤9223372036854775807 then
  if (((eV++aW)++aJ)++a_).length+((bK++x)++bw).length≤9223372036854775807 then
  if ((((eV++aW)++aJ)++a_)++((bK++x)++bw)).length+bh.length≤9223372036854775807 then
  (cQ b (((((eV++aW)++aJ)++a_)++((bK++x)++bw))++bh)).bind fun r4=>
  some r4.2.2 else none else none else none else none else none else
  if aP=4 then
  if iV.length+aW.length≤9223372036854775807 then
  if (iV++aW).length+((bK++x)++bw).length≤9223372036854775807 then
  if ((iV++aW)++((bK++x)++bw)).length+bh.length≤9223372036854775807 then
  (cQ b (((iV++aW)++((bK++x)++bw))++bh)).bind fun r5=>
  some r5.2.2 else none else none else none else
  if aP=5 then
  if kT.length+aW.length≤9223372036854775807 then
  if (kT++aW).length+bh.length≤9223372036854775807 then
  (cQ b ((kT++aW)++bh)).bind fun r6=>
  some r6.2.2 else none else none else
  if aP=6 then
  if fX.length+((bK++x)++bw).length≤9223372036854775807 then
  if (fX++((bK++x)++bw)).length+aJ.length≤9223372036854775807 then
  (cQ b ((fX++((bK++x)++bw))++aJ)).bind fun r7=>
  (dW r7.2.2 bL dG).bind fun r8=>
  if 0<(bG.length:Int) then
  (cQ r8 pO).bind fun r9=>
  (dW r9.2.2 bG dG).bind fun cW=>
  some cW else
  some r8 else none else none else
  if aP=7 then
  (pn bO).bind fun di=>
  if jC.length+di.length≤9223372036854775807 then
  if (jC++di).length+aJ.length≤9223372036854775807 then
  (cQ b ((jC++di)++aJ)).bind fun cm=>
  (dW cm.2.2 bL dG).bind fun dV=>
  some dV else none else none else
  some b else none else none else
  if aP=1 then
  if aW.length+gO.length≤9223372036854775807 then
  if (aW++gO).length+x.length≤9223372036854775807 then
  if ((aW++gO)++x).length+bh.length≤9223372036854775807 then
  (cQ b (((aW++gO)++x)++bh)).bind fun iN=>
  some iN.2.2 else none else none else none else
  if aP=2 then
  if iu.length+a_.length≤9223372036854775807 then
  if (iu++a_).length+([]:List UInt8).length≤9223372036854775807 then
  if ((iu++a_)++ []).length+bh.length≤9223372036854775807 then
  (cQ b (((iu++a_)++ [])++bh)).bind fun fW=>
  some fW.2.2 else none else none else none else
  if aP=3 then
  if eV.length+aW.length≤9223372036854775807 then
  if (eV++aW).length+aJ.length≤9223372036854775807 then
  if ((eV++aW)++aJ).length+a_.length≤9223372036854775807 then
  if (((eV++aW)++aJ)++a_).length+([]:List UInt8).length≤9223372036854775807 then
  if ((((eV++aW)++aJ)++a_)++ []).length+bh.length≤9223372036854775807 then
  (cQ b (((((eV++aW)++aJ)++a_)++ [])++bh)).bind fun r16=>
  some r16.2.2 else none else none else none else none else none else
  if aP=4 then
  if iV.length+aW.length≤9223372036854775807 then
  if (iV++aW).length+([]:List UInt8).length≤9223372036854775807 then
  if ((iV++aW)++ []).length+bh.length≤9223372036854775807 then
  (cQ b (((iV++aW)++ [])++bh)).bind fun l_=>
  some l_.2.2 else none else none else none else
  if aP=5 then
  if kT.length+aW.length≤9223372036854775807 then
  if (kT++aW).length+bh.length≤9223372036854775807 then
  (cQ b ((kT++aW)++bh)).bind fun nY=>
  some nY.2.2 else none else none else
  if aP=6 then
  if fX.length+([]:List UInt8).length≤9223372036854775807 then
  if (fX++ []).length+aJ.length≤9223372036854775807 then
  (cQ b ((fX++ [])++aJ)).bind fun tM=>
  (dW tM.2.2 bL dG).bind fun pE=>
  if 0<(bG.length:Int) then
  (cQ pE pO).bind fun rB=>
  (dW rB.2.2 bG dG).bind fun wJ=>
  some wJ else
  some pE else none else none else
  if aP=7 then
  (pn bO).bind fun kE=>
  if jC.length+kE.length≤9223372036854775807 then
  if (jC++kE).length+aJ.length≤9223372036854775807 then
  (cQ b ((jC++kE)++aJ)).bind fun eT=>
  (dW eT.2.2 bL dG).bind fun tN=>
  some tN else none else none else
  some b
def E8 (dW:oA) (k:Nat) (b:List UInt8) (a:ah) (dG:Int):Option (List UInt8):=iB dW k b dG a.Kind a.Name a.Event a.X a.N a.aK a.aD a.At [] a.X (a.X.length:Int) 0
def xQ (dW:oA)  (b:List UInt8) (a:ah) (dG:Int):Option (List UInt8):=ct (fun k (x:List UInt8×ah×Int)=>E8 dW k x.1 x.2.1 x.2.2) (b,a,dG)
theorem L2 (dW:oA) (Cf:ay Tryz.prog S (sD dW)):ay Tryz.prog S (E9 (xQ dW)):=i_ (fun k x=>E8 dW k x.1 x.2.1 x.2.2) (fun _=>rfl) fun k=>
 eH pk [Gj vk,BJ,sD dW,NM] ⟨N0,DA,Cf,Sc,trivial⟩ Tryz.func80 [] k (fun k=> [(0,⟨[0,2,4,6,11,12,13],[mW,q1,nX,q0,kD,q1,q1],fun x=>iB dW k x.1 x.2.1 x.2.2.1.1 x.2.2.1.2.1 x.2.2.1.2.2.1 x.2.2.1.2.2.2.1 x.2.2.1.2.2.2.2.1 x.2.2.1.2.2.2.2.2.1 x.2.2.1.2.2.2.2.2.2.1 x.2.2.1.2.2.2.2.2.2.2 x.2.2.2.1 x.2.2.2.2.1 x.2.2.2.2.2.1 x.2.2.2.2.2.2,false⟩)]) ⟨fun _=>rfl,trivial⟩ (fun _=>by kernel_rfl) (fun _=>by kernel_rfl) (by kernel_rfl)
def qb (dW:oA):Nat→(List UInt8)→Int→(List ah)→Int→Int→Option (List UInt8)
 | 0,_,_,_,_,_=>none
 | k+1,b,dG,dO,pX,bQ=>if bQ<pX then
  if 0≤bQ then
  if bQ<(dO.length:Int) then
  (pz rW (ag (dG+1))).bind fun r3=>
  (cQ b r3).bind fun r4=>
  (xQ dW r4.2.2 (ah.mk ((dO.getD bQ.toNat ah.z).Kind) ((dO.getD bQ.toNat ah.z).Name) ((dO.getD bQ.toNat ah.z).Event) ((dO.getD bQ.toNat ah.z).X) ((dO.getD bQ.toNat ah.z).N) ((dO.getD bQ.toNat ah.z).aK) ((dO.getD bQ.toNat ah.z).aD) ((dO.getD bQ.toNat ah.z).At)) (ag (dG+1))).bind fun r5=>
  (eE r5 10).bind fun r6=>
  qb dW k r6.2 dG dO pX (ag (bQ+1)) else none else none else
  (pz rW dG).bind fun r7=>
  if r7.length+cY.length≤9223372036854775807 then
  (cQ b (r7++cY)).bind fun r8=>
  some r8.2.2 else none
def sC (dW:oA) (k:Nat) (b:List UInt8) (l:List ah) (dG:Int):Option (List UInt8):=if (l.length:Int)=0 then
 (cQ b As).bind fun r1=>
 some r1.2.2 else
 (cQ b rV).bind fun r2=>
 qb dW k r2.2.2 dG l (l.length:Int) 0
def nw:Nat→(List UInt8)→(List ah)→Int→Option (List UInt8)
 | 0,_,_,_=>none
 | k+1,x0,x1,x2=>sC (nw k) k x0 x1 x2
def xP  (b:List UInt8) (l:List ah) (dG:Int):Option (List UInt8):=ct (fun k (x:List UInt8×List ah×Int)=>nw k x.1 x.2.1 x.2.2) (b,l,dG)
theorem LZ (dW:oA) (k:Nat) (Cf:ay Tryz.prog S (sD dW)):ay Tryz.prog S (sD (sC dW k)):=
 eH pk [BJ,NP,E9 (xQ dW),BK] ⟨DA,Se,L2 dW Cf,IM,trivial⟩ Tryz.func41 [] k (fun k=> [(0,⟨[0,2,15,16,17],[mW,q1,fF,q1,q1],fun x=>qb dW k x.1 x.2.1 x.2.2.1 x.2.2.2.1 x.2.2.2.2,false⟩)]) ⟨fun _=>rfl,trivial⟩ (fun _=>by kernel_rfl) (fun _=>by kernel_rfl) (by kernel_rfl)
theorem LY:ay Tryz.prog S (sD (xP)):=gQ (fun k x=>nw k x.1 x.2.1 x.2.2) (fun _=>rfl) Tryz.func41 (by kernel_rfl) (fun _=>rfl) fun k h=>LZ (nw k) k h
abbrev LQ:=(List ah)→Int→Option (List UInt8)
abbrev Be (f:LQ):Entry S:=⟨20,[fF,q1],[q0],fun x=>f x.1 x.2⟩
def qa  (l:List ah) (dG:Int):Option (List UInt8):=(xP [] l (max dG 0)).bind fun r1=>(x4 r1).bind fun r2=>some r2.1
theorem E6:ay Tryz.prog S (Be (qa)):=
 bJ pk [sD xP,F1] ⟨LY,IN,trivial⟩ Tryz.func20 (by kernel_rfl) (fun _=>by kernel_rfl) (by kernel_rfl)
abbrev Rm:=(List UInt8)→Option Bool
abbrev Db (f:Rm):Entry S:=⟨101,[q0],[q3],fun x=>f x⟩
def lY  (s:List UInt8):Option Bool:=if s= [] then
 some false else
 if 24<(s.length:Int) then
 some false else
 (nR s).bind fun r1=>
 bif r1 then
 some false else
 if (0:Int)≤0 then
 if 0<(s.length:Int) then
 (mQ ((s.getD (0:Int).toNat 0).toNat:Int)).bind fun r2=>
 bif !r2.2 then
 (ry s 0).bind fun r3=>
 some (decide (r3=(s.length:Int))) else
 some false else none else none
theorem Ij:ay Tryz.prog S (Db (lY)):=
 bJ pk [zk nR,zl mQ,De ry] ⟨Dc,Df,Ik,trivial⟩ Tryz.func101 (by kernel_rfl) (fun _=>by kernel_rfl) (by kernel_rfl)
abbrev Mm:=ah→Option Bool
abbrev Fg (f:Mm):Entry S:=⟨74,[nW],[q3],fun x=>f x⟩
def qe:Nat→Int→(List UInt8)→(List UInt8)→(List af)→Int→(List ah)→(List ah)→Int→Int→Option Bool
 | 0,_,_,_,_,_,_,_,_,_=>none
 | k+1,aP,aW,a_,bA,bO,bL,bG,b7,blocks=>if 0<blocks then
  if 1<blocks then
  some true else
  some (decide ((bG.length:Int)=0)) else
  if (bL.length:Int)=0 then
  if 1<blocks then
  some true else
  some (decide ((bG.length:Int)=0)) else
  some false
def lH:Nat→Int→(List UInt8)→(List UInt8)→(List af)→Int→(List ah)→(List ah)→Int→Int→Int→Int→Option Bool
 | 0,_,_,_,_,_,_,_,_,_,_,_=>none
 | k+1,aP,aW,a_,bA,bO,bL,bG,b7,least,most,blocks=>if (bA.length:Int)<least then
  some false else
  if most<(bA.length:Int) then
  some false else
  if bO≠0 then
  if aP≠7 then
  some false else
  if bO<0 then
  some false else
  qe k aP aW a_ bA bO bL bG b7 blocks else
  qe k aP aW a_ bA bO bL bG b7 blocks
def gf:Nat→Int→(List UInt8)→(List UInt8)→(List af)→Int→(List ah)→(List ah)→Int→Int→Int→Bool→Bool→Int→Option Bool
 | 0,_,_,_,_,_,_,_,_,_,_,_,_,_=>none
 | k+1,aP,aW,a_,bA,bO,bL,bG,b7,least,most,name,event,blocks=>if name≠(decide (aW≠ [])) then
  some false else
  bif name then
  (lY aW).bind fun r1=>
  bif !r1 then
  some false else
  if event≠(decide (a_≠ [])) then
  some false else
  bif event then
  (lY a_).bind fun r2=>
  bif !r2 then
  some false else
  lH k aP aW a_ bA bO bL bG b7 least most blocks else
  lH k aP aW a_ bA bO bL bG b7 least most blocks else
  if event≠(decide (a_≠ [])) then
  some false else
  bif event then
  (lY a_).bind fun r3=>
  bif !r3 then
  some false else
  lH k aP aW a_ bA bO bL bG b7 least most blocks else
  lH k aP aW a_ bA bO bL bG b7 least most blocks
def sI (k:Nat) (a:ah):Option Bool:=if a.Kind=1 then
 if a.Kind=1 then
 gf k a.Kind a.Name a.Event a.X a.N a.aK a.aD a.At 1 1 true false 0 else
 if a.Kind=2 then
 gf k a.Kind a.Name a.Event a.X a.N a.aK a.aD a.At 0 1 false true 0 else
 if a.Kind=3 then
 gf k a.Kind a.Name a.Event a.X a.N a.aK a.aD a.At 0 1 true true 0 else
 if a.Kind=5 then
 gf k a.Kind a.Name a.Event a.X a.N a.aK a.aD a.At 0 0 true false 0 else
 if a.Kind=6 then
 gf k a.Kind a.Name a.Event a.X a.N a.aK a.aD a.At 1 1 false false 2 else
 if a.Kind=7 then
 gf k a.Kind a.Name a.Event a.X a.N a.aK a.aD a.At 0 0 false false 1 else
 some false else
 if a.Kind=4 then
 gf k a.Kind a.Name a.Event a.X a.N a.aK a.aD a.At 1 1 true false 0 else
 if a.Kind=2 then
 gf k a.Kind a.Name a.Event a.X a.N a.aK a.aD a.At 0 1 false true 0 else
 if a.Kind=3 then
 gf k a.Kind a.Name a.Event a.X a.N a.aK a.aD a.At 0 1 true true 0 else
 if a.Kind=5 then
 gf k a.Kind a.Name a.Event a.X a.N a.aK a.aD a.At 0 0 true false 0 else
 if a.Kind=6 then
 gf k a.Kind a.Name a.Event a.X a.N a.aK a.aD a.At 1 1 false false 2 else
 if a.Kind=7 then
 gf k a.Kind a.Name a.Event a.X a.N a.aK a.aD a.At 0 0 false false 1 else
 some false
def sH  (a:ah):Option Bool:=ct (fun k (x:ah)=>sI k x) a
theorem Ml:ay Tryz.prog S (Fg (sH)):=i_ (fun k x=>sI k x) (fun _=>rfl) fun k=>
 eH pk [Db lY] ⟨Ij,trivial⟩ Tryz.func74 [3,13,16] k (fun k=> [(1,⟨[1,3,4,5,6,7],[nX,q1,q1,q3,q3,q1],fun x=>gf k x.1.1 x.1.2.1 x.1.2.2.1 x.1.2.2.2.1 x.1.2.2.2.2.1 x.1.2.2.2.2.2.1 x.1.2.2.2.2.2.2.1 x.1.2.2.2.2.2.2.2 x.2.1 x.2.2.1 x.2.2.2.1 x.2.2.2.2.1 x.2.2.2.2.2,false⟩),(3,⟨[1,3,4,7],[nX,q1,q1,q1],fun x=>lH k x.1.1 x.1.2.1 x.1.2.2.1 x.1.2.2.2.1 x.1.2.2.2.2.1 x.1.2.2.2.2.2.1 x.1.2.2.2.2.2.2.1 x.1.2.2.2.2.2.2.2 x.2.1 x.2.2.1 x.2.2.2,false⟩),(5,⟨[1,7],[nX,q1],fun x=>qe k x.1.1 x.1.2.1 x.1.2.2.1 x.1.2.2.2.1 x.1.2.2.2.2.1 x.1.2.2.2.2.2.1 x.1.2.2.2.2.2.2.1 x.1.2.2.2.2.2.2.2 x.2,false⟩)]) ⟨fun _=>rfl,fun _=>rfl,fun _=>rfl,trivial⟩ (fun _=>by kernel_rfl) (fun _=>by kernel_rfl) (by kernel_rfl)
abbrev Ol:=af→Option Bool
abbrev Gq (f:Ol):Entry S:=⟨122,[e_],[q3],fun x=>f x⟩
def vo:Nat→Int→Int→(List UInt8)→(List af)→Int→Option Bool
 | 0,_,_,_,_,_=>none
 | k+1,bR,bV,b8,bn,cq=>if bV=0 then some true else if bR=1 then some (decide (0<bV)) else some false
def sV:Nat→Int→Int→(List UInt8)→(List af)→Int→Bool→Option Bool
 | 0,_,_,_,_,_,_=>none
 | k+1,bR,bV,b8,bn,cq,named=>if named≠(decide (b8≠ [])) then
  some false else
  bif named then
  (lY b8).bind fun r3=>
  bif !r3 then
  some false else
  vo k bR bV b8 bn cq else
  vo k bR bV b8 bn cq
def yy (k:Nat) (e:af):Option Bool:=if e.Kind=2 then
 if e.Kind<1 then
 some false else
 if 19<e.Kind then
 some false else
 (dQ e.Kind).bind fun r1=>
 if (e.Kids.length:Int)≠(r1.length:Int) then
 some false else
 sV k e.Kind e.N e.Name e.Kids e.At true else
 if e.Kind<1 then
 some false else
 if 19<e.Kind then
 some false else
 (dQ e.Kind).bind fun r2=>
 if (e.Kids.length:Int)≠(r2.length:Int) then
 some false else
 sV k e.Kind e.N e.Name e.Kids e.At (decide (e.Kind=4))
def yx  (e:af):Option Bool:=ct (fun k (x:af)=>yy k x) e
theorem Oj:ay Tryz.prog S (Gq (yx)):=i_ (fun k x=>yy k x) (fun _=>rfl) fun k=>
 eH pk [yp dQ,Db lY] ⟨BT,Ij,trivial⟩ Tryz.func122 [2,5] k (fun k=> [(1,⟨[1,3],[l9,q3],fun x=>sV k x.1.1 x.1.2.1 x.1.2.2.1 x.1.2.2.2.1 x.1.2.2.2.2 x.2,false⟩),(3,⟨[1],[l9],fun x=>vo k x.1 x.2.1 x.2.2.1 x.2.2.2.1 x.2.2.2.2,false⟩)]) ⟨fun _=>rfl,fun _=>rfl,trivial⟩ (fun _=>by kernel_rfl) (fun _=>by kernel_rfl) (by kernel_rfl)
abbrev yw:=af→Int→Int→Option Bool
abbrev vn (f:yw):Entry S:=⟨103,[e_,q1,q1],[q3],fun x=>f x.1 x.2.1 x.2.2⟩
def mK (lp:yw):Nat→Int→Int→Int→(List UInt8)→(List af)→Int→(List Int)→Int→Int→Option Bool
 | 0,_,_,_,_,_,_,_,_,_=>none
 | k+1,aM,bR,bV,b8,bn,cq,EP,K2,pY=>if pY<K2 then
  if 0≤pY then
  if pY<(EP.length:Int) then
  if 0≤pY then
  if pY<(bn.length:Int) then
  (lp (bn.getD pY.toNat af.z) (EP.getD pY.toNat 0) aM).bind fun r9=>
  bif !r9 then
  some false else
  mK lp k aM bR bV b8 bn cq EP K2 (ag (pY+1)) else none else none else none else none else
  some true
def yu (lp:yw) (k:Nat) (e:af) (asked:Int) (aM:Int):Option Bool:=(yx (af.mk e.Kind e.N e.Name e.Kids e.At)).bind fun r1=>
 bif !r1 then
 some false else
 (lO e.Kind).bind fun r2=>
 if r2<asked then
 (lO e.Kind).bind fun r3=>
 if r3=6 then
 if 12<(ag ((ag (aM+1))+1)) then
 some false else
 (dQ e.Kind).bind fun r4=>
 mK lp k (ag ((ag (aM+1))+1)) e.Kind e.N e.Name e.Kids e.At r4 (r4.length:Int) 0 else
 if 12<(ag (aM+1)) then
 some false else
 (dQ e.Kind).bind fun r5=>
 mK lp k (ag (aM+1)) e.Kind e.N e.Name e.Kids e.At r5 (r5.length:Int) 0 else
 (lO e.Kind).bind fun r6=>
 if r6=6 then
 if 12<(ag (aM+1)) then
 some false else
 (dQ e.Kind).bind fun r7=>
 mK lp k (ag (aM+1)) e.Kind e.N e.Name e.Kids e.At r7 (r7.length:Int) 0 else
 if 12<aM then
 some false else
 (dQ e.Kind).bind fun r8=>
 mK lp k aM e.Kind e.N e.Name e.Kids e.At r8 (r8.length:Int) 0
def oO:Nat→af→Int→Int→Option Bool
 | 0,_,_,_=>none
 | k+1,x0,x1,x2=>yu (oO k) k x0 x1 x2
def yt  (e:af) (asked:Int) (aM:Int):Option Bool:=ct (fun k (x:af×Int×Int)=>oO k x.1 x.2.1 x.2.2) (e,asked,aM)
theorem Oi (lp:yw) (k:Nat) (O6:ay Tryz.prog S (vn lp)):ay Tryz.prog S (vn (yu lp k)):=
 eH pk [Gq yx,yo lO,yp dQ,vn lp] ⟨Oj,BS,BT,O6,trivial⟩ Tryz.func103 [] k (fun k=> [(0,⟨[2,3,29,30,31],[q1,l9,zC,q1,q1],fun x=>mK lp k x.1 x.2.1.1 x.2.1.2.1 x.2.1.2.2.1 x.2.1.2.2.2.1 x.2.1.2.2.2.2 x.2.2.1 x.2.2.2.1 x.2.2.2.2,false⟩)]) ⟨fun _=>rfl,trivial⟩ (fun _=>by kernel_rfl) (fun _=>by kernel_rfl) (by kernel_rfl)
theorem Oh:ay Tryz.prog S (vn (yt)):=gQ (fun k x=>oO k x.1 x.2.1 x.2.2) (fun _=>rfl) Tryz.func103 (by kernel_rfl) (fun _=>rfl) fun k h=>Oi (oO k) k h
abbrev N5:=af→Option Bool
abbrev Gk (f:N5):Entry S:=⟨77,[e_],[q3],fun x=>f x⟩
def qm  (e:af):Option Bool:=(yt (af.mk e.Kind e.N e.Name e.Kids e.At) 1 0).bind fun r1=>some r1
theorem N4:ay Tryz.prog S (Gk (qm)):=
 bJ pk [vn yt] ⟨Oh,trivial⟩ Tryz.func77 (by kernel_rfl) (fun _=>by kernel_rfl) (by kernel_rfl)
abbrev Mi:=af→Option Bool
abbrev Mg (f:Mi):Entry S:=⟨76,[e_],[q3],fun x=>f x⟩
def jF  (e:af):Option Bool:=(qm (af.mk e.Kind e.N e.Name e.Kids e.At)).bind fun r1=>some (!r1)
theorem Mh:ay Tryz.prog S (Mg (jF)):=
 bJ pk [Gk qm] ⟨N4,trivial⟩ Tryz.func76 (by kernel_rfl) (fun _=>by kernel_rfl) (by kernel_rfl)
abbrev U7:=(List af)→(af→Option Bool)→Option Int
abbrev J9 (f:U7):Entry S:=⟨102,[kD,DK],[q1],fun x=>f x.1 x.2⟩
def mu:Nat→(List af)→(af→Option Bool)→Int→Int→Option Int
 | 0,_,_,_,_=>none
 | k+1,s,f,x7,x8=>if x8<x7 then
  if 0≤x8 then
  if x8<(s.length:Int) then
  (f (s.getD x8.toNat af.z)).bind fun r1=>
  bif r1 then
  some x8 else
  mu k s f x7 (ag (x8+1)) else none else none else
  some (-1)
def J8 (k:Nat) (s:List af) (f:af→Option Bool):Option Int:=mu k s f (s.length:Int) 0
def xl  (s:List af) (f:af→Option Bool):Option Int:=ct (fun k (x:List af×(af→Option Bool))=>J8 k x.1 x.2) (s,f)
theorem U6:ay Tryz.prog S (J9 (xl)):=i_ (fun k x=>J8 k x.1 x.2) (fun _=>rfl) fun k=>
 eH pk [] trivial Tryz.func102 [] k (fun k=> [(0,⟨[0,1,7,8],[kD,DK,q1,q1],fun x=>mu k x.1 x.2.1 x.2.2.1 x.2.2.2,false⟩)]) ⟨fun _=>rfl,trivial⟩ (fun _=>by kernel_rfl) (fun _=>by kernel_rfl) (by kernel_rfl)
abbrev U2:=(List af)→(af→Option Bool)→Option Bool
abbrev J5 (f:U2):Entry S:=⟨75,[kD,DK],[q3],fun x=>f x.1 x.2⟩
def rX  (s:List af) (f:af→Option Bool):Option Bool:=(xl s f).bind fun r1=>some (decide (0≤r1))
theorem U1:ay Tryz.prog S (J5 (rX)):=
 bJ pk [J9 xl] ⟨U6,trivial⟩ Tryz.func75 (by kernel_rfl) (fun _=>by kernel_rfl) (by kernel_rfl)
abbrev xT:=(List ah)→Int→Option Bool
abbrev uZ (f:xT):Entry S:=⟨40,[fF,q1],[q3],fun x=>f x.1 x.2⟩
def fy (gw:xT):Nat→Int→(List ah)→Int→Int→Option Bool
 | 0,_,_,_,_=>none
 | k+1,aM,eD,jb,dm=>if dm<jb then
  if 0≤dm then
  if dm<(eD.length:Int) then
  (sH (ah.mk ((eD.getD dm.toNat ah.z).Kind) ((eD.getD dm.toNat ah.z).Name) ((eD.getD dm.toNat ah.z).Event) ((eD.getD dm.toNat ah.z).X) ((eD.getD dm.toNat ah.z).N) ((eD.getD dm.toNat ah.z).aK) ((eD.getD dm.toNat ah.z).aD) ((eD.getD dm.toNat ah.z).At))).bind fun r1=>
  bif !r1 then
  some false else
  (rX ((eD.getD dm.toNat ah.z).X) (fun y=>jF y)).bind fun r2=>
  bif r2 then
  some false else
  if ((eD.getD dm.toNat ah.z).Kind)=6 then
  (gw ((eD.getD dm.toNat ah.z).aK) (ag (aM+1))).bind fun r3=>
  bif !r3 then
  some false else
  if 0<(((eD.getD dm.toNat ah.z).aD).length:Int) then
  (gw ((eD.getD dm.toNat ah.z).aD) (ag (aM+1))).bind fun r4=>
  bif !r4 then
  some false else
  fy gw k aM eD jb (ag (dm+1)) else
  fy gw k aM eD jb (ag (dm+1)) else
  if ((eD.getD dm.toNat ah.z).Kind)=7 then
  (gw ((eD.getD dm.toNat ah.z).aK) (ag (aM+1))).bind fun r5=>
  bif !r5 then
  some false else
  if 0<(((eD.getD dm.toNat ah.z).aD).length:Int) then
  (gw ((eD.getD dm.toNat ah.z).aD) (ag (aM+1))).bind fun r6=>
  bif !r6 then
  some false else
  fy gw k aM eD jb (ag (dm+1)) else
  fy gw k aM eD jb (ag (dm+1)) else
  if 0<(((eD.getD dm.toNat ah.z).aD).length:Int) then
  (gw ((eD.getD dm.toNat ah.z).aD) (ag (aM+1))).bind fun r7=>
  bif !r7 then
  some false else
  fy gw k aM eD jb (ag (dm+1)) else
  fy gw k aM eD jb (ag (dm+1)) else none else none else
  some true
def oD (gw:xT) (k:Nat) (l:List ah) (aM:Int):Option Bool:=if 4<aM then
 some false else
 fy gw k aM l (l.length:Int) 0
def fV:Nat→(List ah)→Int→Option Bool
 | 0,_,_=>none
 | k+1,x0,x1=>oD (fV k) k x0 x1
def sG  (l:List ah) (aM:Int):Option Bool:=ct (fun k (x:List ah×Int)=>fV k x.1 x.2) (l,aM)
theorem Mk (gw:xT) (k:Nat) (O3:ay Tryz.prog S (uZ gw)):ay Tryz.prog S (uZ (oD gw k)):=
 sX pk ⟨[Fg sH,J5 rX,uZ gw],[⟨76,[.st 1],[],[.bool],fun x c=>jF x⟩],false,false,none,[]⟩ ⟨Ml,U1,O3,trivial⟩ (all_nil) (all_cons (fq.of (a:= [.st 1]) (c:= []) (r:= [.bool]) Mh (fun _ _ z h=>⟨z,h,rfl⟩)) all_nil) Tryz.func40 [] k (fun k=> [(0,⟨[1,10,11,12],[q1,fF,q1,q1],fun x=>fy gw k x.1 x.2.1 x.2.2.1 x.2.2.2,false⟩)]) ⟨fun _=>rfl,trivial⟩ (fun _=>by kernel_rfl) (fun _=>by kernel_rfl) (by kernel_rfl)
theorem Mj:ay Tryz.prog S (uZ (sG)):=gQ (fun k x=>fV k x.1 x.2) (fun _=>rfl) Tryz.func40 (by kernel_rfl) (fun _=>rfl) fun k h=>Mk (fV k) k h
abbrev LR:=(List ah)→Option Bool
abbrev Bf (f:LR):Entry S:=⟨19,[fF],[q3],fun x=>f x⟩
def j6  (l:List ah):Option Bool:=(sG l 1).bind fun r1=>some r1
theorem E7:ay Tryz.prog S (Bf (j6)):=
 bJ pk [uZ sG] ⟨Mj,trivial⟩ Tryz.func19 (by kernel_rfl) (fun _=>by kernel_rfl) (by kernel_rfl)
abbrev Q2:=Option Bool
abbrev H8 (f:Q2):Entry S:=⟨9,[],[q3],fun x=>f⟩
def nQ:Option Bool:=(mO JR).bind fun r1=>
 (mO Ej).bind fun r2=>
 bif r1.2 then
 bif !r2.2 then
 (qa r1.1 0).bind fun r3=>
 if r3=JQ then
 (j6 r1.1).bind fun r4=>
 bif r4 then
 (j6 [ah.mk 0 [] [] [] 0 [] [] 0]).bind fun r5=>
 some (!r5) else
 some false else
 some false else
 some false else
 some false
theorem Q1:ay Tryz.prog S (H8 (nQ)):=
 bJ pk [C4 mO,Be qa,Bf j6] ⟨H9,E6,E7,trivial⟩ Tryz.func9 (by kernel_rfl) (fun _=>by kernel_rfl) (by kernel_rfl)
abbrev zR:=af→Int→Option (List Int)
abbrev wW (f:zR):Entry S:=⟨47,[e_,q1],[IZ],fun x=>f x.1 x.2⟩
def rH (oa:zR):Nat→Int→Int→Int→(List UInt8)→(List af)→Int→(List Int)→Int→Option (List Int)
 | 0,_,_,_,_,_,_,_,_=>none
 | k+1,most,bR,bV,b8,bn,cq,out,i=>if i<(bn.length:Int) then
  if (out.length:Int)≤most then
  if 0≤i then
  if i<(bn.length:Int) then
  (oa (bn.getD i.toNat af.z) (ag (most - (out.length:Int)))).bind fun r1=>
  if (out.length+r1.length)*8≤140737488355328 then
  rH oa k most bR bV b8 bn cq (out++r1) (ag (i+1)) else none else none else none else
  some out else
  some out
def Jm (oa:zR) (k:Nat) (e:af) (most:Int):Option (List Int):=rH oa k most e.Kind e.N e.Name e.Kids e.At [e.Kind] 0
def t_:Nat→af→Int→Option (List Int)
 | 0,_,_=>none
 | k+1,x0,x1=>Jm (t_ k) k x0 x1
def zQ  (e:af) (most:Int):Option (List Int):=ct (fun k (x:af×Int)=>t_ k x.1 x.2) (e,most)
theorem TB (oa:zR) (k:Nat) (O_:ay Tryz.prog S (wW oa)):ay Tryz.prog S (wW (Jm oa k)):=
 eH pk [wW oa] ⟨O_,trivial⟩ Tryz.func47 [] k (fun k=> [(0,⟨[1,2,5,6],[q1,l9,IZ,q1],fun x=>rH oa k x.1 x.2.1.1 x.2.1.2.1 x.2.1.2.2.1 x.2.1.2.2.2.1 x.2.1.2.2.2.2 x.2.2.1 x.2.2.2,false⟩)]) ⟨fun _=>rfl,trivial⟩ (fun _=>by kernel_rfl) (fun _=>by kernel_rfl) (by kernel_rfl)
theorem TA:ay Tryz.prog S (wW (zQ)):=gQ (fun k x=>t_ k x.1 x.2) (fun _=>rfl) Tryz.func47 (by kernel_rfl) (fun _=>rfl) fun k h=>TB (t_ k) k h
abbrev wj:=(List ah)→Int→Option Bool
abbrev wh (f:wj):Entry S:=⟨23,[fF,q1],[q3],fun x=>f x.1 x.2⟩
mutual
def jO (jD:wj):Nat→(List ah)→Int→Int→Option Bool
 | 0,_,_,_=>none
 | k+1,l,deep,i=>if i<(l.length:Int) then
  if 0≤i then
  if i<(l.length:Int) then
  if 3<(((l.getD i.toNat ah.z).X).length:Int) then
  some false else
  if 0≤i then
  if i<(l.length:Int) then
  if 40<(((l.getD i.toNat ah.z).Name).length:Int) then
  some false else
  if 0≤i then
  if i<(l.length:Int) then
  if 40<(((l.getD i.toNat ah.z).Event).length:Int) then
  some false else
  if 0≤i then
  if i<(l.length:Int) then
  (jD ((l.getD i.toNat ah.z).aK) (ag (deep - 1))).bind fun r1=>
  bif !r1 then
  some false else
  if 0≤i then
  if i<(l.length:Int) then
  (jD ((l.getD i.toNat ah.z).aD) (ag (deep - 1))).bind fun r2=>
  bif !r2 then
  some false else
  o6 jD k l deep i 0 else none else none else none else none else none else none else none else none else none else none else
  some true
def o6 (jD:wj):Nat→(List ah)→Int→Int→Int→Option Bool
 | 0,_,_,_,_=>none
 | k+1,l,deep,i,k_=>if 0≤i then
  if i<(l.length:Int) then
  if k_<(((l.getD i.toNat ah.z).X).length:Int) then
  if 0≤i then
  if i<(l.length:Int) then
  if 0≤k_ then
  if k_<(((l.getD i.toNat ah.z).X).length:Int) then
  (zQ (((l.getD i.toNat ah.z).X).getD k_.toNat af.z) 60).bind fun r3=>
  if 60<(r3.length:Int) then
  some false else
  o6 jD k l deep i (ag (k_+1)) else none else none else none else none else
  jO jD k l deep (ag (i+1)) else none else none
end
def o5 (jD:wj) (k:Nat) (l:List ah) (deep:Int):Option Bool:=if deep=0 then
 some false else
 if 12<(l.length:Int) then
 some false else
 jO jD k l deep 0
def iK:Nat→(List ah)→Int→Option Bool
 | 0,_,_=>none
 | k+1,x0,x1=>o5 (iK k) k x0 x1
def zf  (l:List ah) (deep:Int):Option Bool:=ct (fun k (x:List ah×Int)=>iK k x.1 x.2) (l,deep)
theorem Q0 (jD:wj) (k:Nat) (O8:ay Tryz.prog S (wh jD)):ay Tryz.prog S (wh (o5 jD k)):=
 eH pk [wh jD,wW zQ] ⟨O8,TA,trivial⟩ Tryz.func23 [] k (fun k=> [(0,⟨[0,1,5],[fF,q1,q1],fun x=>jO jD k x.1 x.2.1 x.2.2,false⟩),(2,⟨[0,1,5,6],[fF,q1,q1,q1],fun x=>o6 jD k x.1 x.2.1 x.2.2.1 x.2.2.2,false⟩)]) ⟨fun _=>rfl,fun _=>rfl,trivial⟩ (fun _=>by kernel_rfl) (fun _=>by kernel_rfl) (by kernel_rfl)
theorem QZ:ay Tryz.prog S (wh (zf)):=gQ (fun k x=>iK k x.1 x.2) (fun _=>rfl) Tryz.func23 (by kernel_rfl) (fun _=>rfl) fun k h=>Q0 (iK k) k h
abbrev Tx:=Int→Option Bool
abbrev Jk (f:Tx):Entry S:=⟨49,[q2],[q3],fun x=>f x⟩
def tW  (x:Int):Option Bool:=if 97≤x then
 if x≤122 then
 some true else
 if 65≤x then
 if x≤90 then
 some true else
 some (decide (x=95)) else
 some (decide (x=95)) else
 if 65≤x then
 if x≤90 then
 some true else
 some (decide (x=95)) else
 some (decide (x=95))
theorem Tw:ay Tryz.prog S (Jk (tW)):=
 bJ pk [] trivial Tryz.func49 (by kernel_rfl) (fun _=>by kernel_rfl) (by kernel_rfl)
abbrev Tv:=Int→Option Bool
abbrev Jj (f:Tv):Entry S:=⟨50,[q2],[q3],fun x=>f x⟩
def wV  (x:Int):Option Bool:=if 48≤x then some (decide (x≤57)) else some false
theorem Tu:ay Tryz.prog S (Jj (wV)):=
 bJ pk [] trivial Tryz.func50 (by kernel_rfl) (fun _=>by kernel_rfl) (by kernel_rfl)
abbrev Tt:=(List UInt8)→Option Bool
abbrev Ji (f:Tt):Entry S:=⟨132,[q0],[q3],fun x=>f x⟩
def tV:Nat→(List UInt8)→(List UInt8×List UInt8×List UInt8×List UInt8×List UInt8×List UInt8×List UInt8×List UInt8×List UInt8×List UInt8×List UInt8×List UInt8×List UInt8×List UInt8×List UInt8×List UInt8×List UInt8×List UInt8×List UInt8×List UInt8×List UInt8×List UInt8×List UInt8×List UInt8×List UInt8×List UInt8×List UInt8×List UInt8×List UInt8×List UInt8×List UInt8×List UInt8×List UInt8×List UInt8×List UInt8)→Int→Option Bool
 | 0,_,_,_=>none
 | k+1,s,words,i=>if i<35 then
  if 0≤i then
  if i<([words.1,words.2.1,words.2.2.1,words.2.2.2.1,words.2.2.2.2.1,words.2.2.2.2.2.1,words.2.2.2.2.2.2.1,words.2.2.2.2.2.2.2.1,words.2.2.2.2.2.2.2.2.1,words.2.2.2.2.2.2.2.2.2.1,words.2.2.2.2.2.2.2.2.2.2.1,words.2.2.2.2.2.2.2.2.2.2.2.1,words.2.2.2.2.2.2.2.2.2.2.2.2.1,words.2.2.2.2.2.2.2.2.2.2.2.2.2.1,words.2.2.2.2.2.2.2.2.2.2.2.2.2.2.1,words.2.2.2.2.2.2.2.2.2.2.2.2.2.2.2.1,words.2.2.2.2.2.2.2.2.2.2.2.2.2.2.2.2.1,words.2.2.2.2.2.2.2.2.2.2.2.2.2.2.2.2.2.1,words.2.2.2.2.2.2.2.2.2.2.2.2.2.2.2.2.2.2.1,words.2.2.2.2.2.2.2.2.2.2.2.2.2.2.2.2.2.2.2.1,words.2.2.2.2.2.2.2.2.2.2.2.2.2.2.2.2.2.2.2.2.1,words.2.2.2.2.2.2.2.2.2.2.2.2.2.2.2.2.2.2.2.2.2.1,words.2.2.2.2.2.2.2.2.2.2.2.2.2.2.2.2.2.2.2.2.2.2.1,words.2.2.2.2.2.2.2.2.2.2.2.2.2.2.2.2.2.2.2.2.2.2.2.1,words.2.2.2.2.2.2.2.2.2.2.2.2.2.2.2.2.2.2.2.2.2.2.2.2.1,words.2.2.2.2.2.2.2.2.2.2.2.2.2.2.2.2.2.2.2.2.2.2.2.2.2.1,words.2.2.2.2.2.2.2.2.2.2.2.2.2.2.2.2.2.2.2.2.2.2.2.2.2.2.1,words.2.2.2.2.2.2.2.2.2.2.2.2.2.2.2.2.2.2.2.2.2.2.2.2.2.2.2.1,words.2.2.2.2.2.2.2.2.2.2.2.2.2.2.2.2.2.2.2.2.2.2.2.2.2.2.2.2.1,words.2.2.2.2.2.2.2.2.2.2.2.2.2.2.2.2.2.2.2.2.2.2.2.2.2.2.2.2.2.1,words.2.2.2.2.2.2.2.2.2.2.2.2.2.2.2.2.2.2.2.2.2.2.2.2.2.2.2.2.2.2.1,words.2.2.2.2.2.2.2.2.2.2.2.2.2.2.2.2.2.2.2.2.2.2.2.2.2.2.2.2.2.2.2.1,words.2.2.2.2.2.2.2.2.2.2.2.2.2.2.2.2.2.2.2.2.2.2.2.2.2.2.2.2.2.2.2.2.1,words.2.2.2.2.2.2.2.2.2.2.2.2.2.2.2.2.2.2.2.2.2.2.2.2.2.2.2.2.2.2.2.2.2.1,words.2.2.2.2.2.2.2.2.2.2.2.2.2.2.2.2.2.2.2.2.2.2.2.2.2.2.2.2.2.2.2.2.2.2].length:Int) then
  if ([words.1,words.2.1,words.2.2.1,words.2.2.2.1,words.2.2.2.2.1,words.2.2.2.2.2.1,words.2.2.2.2.2.2.1,words.2.2.2.2.2.2.2.1,words.2.2.2.2.2.2.2.2.1,words.2.2.2.2.2.2.2.2.2.1,words.2.2.2.2.2.2.2.2.2.2.1,words.2.2.2.2.2.2.2.2.2.2.2.1,words.2.2.2.2.2.2.2.2.2.2.2.2.1,words.2.2.2.2.2.2.2.2.2.2.2.2.2.1,words.2.2.2.2.2.2.2.2.2.2.2.2.2.2.1,words.2.2.2.2.2.2.2.2.2.2.2.2.2.2.2.1,words.2.2.2.2.2.2.2.2.2.2.2.2.2.2.2.2.1,words.2.2.2.2.2.2.2.2.2.2.2.2.2.2.2.2.2.1,words.2.2.2.2.2.2.2.2.2.2.2.2.2.2.2.2.2.2.1,words.2.2.2.2.2.2.2.2.2.2.2.2.2.2.2.2.2.2.2.1,words.2.2.2.2.2.2.2.2.2.2.2.2.2.2.2.2.2.2.2.2.1,words.2.2.2.2.2.2.2.2.2.2.2.2.2.2.2.2.2.2.2.2.2.1,words.2.2.2.2.2.2.2.2.2.2.2.2.2.2.2.2.2.2.2.2.2.2.1,words.2.2.2.2.2.2.2.2.2.2.2.2.2.2.2.2.2.2.2.2.2.2.2.1,words.2.2.2.2.2.2.2.2.2.2.2.2.2.2.2.2.2.2.2.2.2.2.2.2.1,words.2.2.2.2.2.2.2.2.2.2.2.2.2.2.2.2.2.2.2.2.2.2.2.2.2.1,words.2.2.2.2.2.2.2.2.2.2.2.2.2.2.2.2.2.2.2.2.2.2.2.2.2.2.1,words.2.2.2.2.2.2.2.2.2.2.2.2.2.2.2.2.2.2.2.2.2.2.2.2.2.2.2.1,words.2.2.2.2.2.2.2.2.2.2.2.2.2.2.2.2.2.2.2.2.2.2.2.2.2.2.2.2.1,words.2.2.2.2.2.2.2.2.2.2.2.2.2.2.2.2.2.2.2.2.2.2.2.2.2.2.2.2.2.1,words.2.2.2.2.2.2.2.2.2.2.2.2.2.2.2.2.2.2.2.2.2.2.2.2.2.2.2.2.2.2.1,words.2.2.2.2.2.2.2.2.2.2.2.2.2.2.2.2.2.2.2.2.2.2.2.2.2.2.2.2.2.2.2.1,words.2.2.2.2.2.2.2.2.2.2.2.2.2.2.2.2.2.2.2.2.2.2.2.2.2.2.2.2.2.2.2.2.1,words.2.2.2.2.2.2.2.2.2.2.2.2.2.2.2.2.2.2.2.2.2.2.2.2.2.2.2.2.2.2.2.2.2.1,words.2.2.2.2.2.2.2.2.2.2.2.2.2.2.2.2.2.2.2.2.2.2.2.2.2.2.2.2.2.2.2.2.2.2].getD i.toNat [])=s then
  some true else
  tV k s words (ag (i+1)) else none else none else
  some false
def Jh (k:Nat) (s:List UInt8):Option Bool:=tV k s Ft 0
def wU  (s:List UInt8):Option Bool:=ct (fun k (x:List UInt8)=>Jh k x) s
theorem Tq:ay Tryz.prog S (Ji (wU)):=i_ (fun k x=>Jh k x) (fun _=>rfl) fun k=>
 eH pk [] trivial Tryz.func132 [] k (fun k=> [(0,⟨[0,3,4],[q0,SK,q1],fun x=>tV k x.1 x.2.1 x.2.2,false⟩)]) ⟨fun _=>rfl,trivial⟩ (fun _=>by kernel_rfl) (fun _=>by kernel_rfl) (by kernel_rfl)
abbrev Tp:=(List UInt8)→Option Bool
abbrev DZ (f:Tp):Entry S:=⟨111,[q0],[q3],fun x=>f x⟩
def rF:Nat→(List UInt8)→Int→Option Bool
 | 0,_,_=>none
 | k+1,s,i=>if i<(s.length:Int) then
  if 0≤i then
  if i<(s.length:Int) then
  (tW ((s.getD i.toNat 0).toNat:Int)).bind fun r2=>
  bif !r2 then
  if 0≤i then
  if i<(s.length:Int) then
  (wV ((s.getD i.toNat 0).toNat:Int)).bind fun r3=>
  bif !r3 then
  some false else
  rF k s (ag (i+1)) else none else none else
  rF k s (ag (i+1)) else none else none else
  (wU s).bind fun r4=>
  some (!r4)
def DY (k:Nat) (s:List UInt8):Option Bool:=if (s.length:Int)=0 then
 some false else
 if 24<(s.length:Int) then
 some false else
 if (0:Int)≤0 then
 if 0<(s.length:Int) then
 (tW ((s.getD (0:Int).toNat 0).toNat:Int)).bind fun r1=>
 bif !r1 then
 some false else
 rF k s 0 else none else none
def n5  (s:List UInt8):Option Bool:=ct (fun k (x:List UInt8)=>DY k x) s
theorem Jg:ay Tryz.prog S (DZ (n5)):=i_ (fun k x=>DY k x) (fun _=>rfl) fun k=>
 eH pk [Jk tW,Jj wV,Ji wU] ⟨Tw,Tu,Tq,trivial⟩ Tryz.func111 [] k (fun k=> [(0,⟨[0,3],[q0,q1],fun x=>rF k x.1 x.2,false⟩)]) ⟨fun _=>rfl,trivial⟩ (fun _=>by kernel_rfl) (fun _=>by kernel_rfl) (by kernel_rfl)
abbrev w7:=af→Option Bool
abbrev w6 (f:w7):Entry S:=⟨133,[e_],[q3],fun x=>f x⟩
def mm (fT:w7):Nat→Int→Int→(List UInt8)→(List af)→Int→Int→Int→Option Bool
 | 0,_,_,_,_,_,_,_=>none
 | k+1,bR,bV,b8,bn,cq,kids,i=>if i<kids then
  if 0≤i then
  if i<(bn.length:Int) then
  (fT (bn.getD i.toNat af.z)).bind fun r2=>
  bif !r2 then
  some false else
  mm fT k bR bV b8 bn cq kids (ag (i+1)) else none else none else
  some true
def kI (fT:w7):Nat→Int→Int→(List UInt8)→(List af)→Int→Bool→Int→Option Bool
 | 0,_,_,_,_,_,_,_=>none
 | k+1,bR,bV,b8,bn,cq,named,kids=>if bR<1 then
  some false else
  if 19<bR then
  some false else
  if (bn.length:Int)≠kids then
  some false else
  if named≠(decide (b8≠ [])) then
  some false else
  bif named then
  (n5 b8).bind fun r1=>
  bif !r1 then
  some false else
  if bV<0 then
  some false else
  if 0<bV then
  if bR≠1 then
  some false else
  mm fT k bR bV b8 bn cq kids 0 else
  mm fT k bR bV b8 bn cq kids 0 else
  if bV<0 then
  some false else
  if 0<bV then
  if bR≠1 then
  some false else
  mm fT k bR bV b8 bn cq kids 0 else
  mm fT k bR bV b8 bn cq kids 0
def zV (fT:w7) (k:Nat) (e:af):Option Bool:=if e.Kind=2 then
 if e.Kind<5 then
 kI fT k e.Kind e.N e.Name e.Kids e.At true 0 else
 if e.Kind≤6 then
 kI fT k e.Kind e.N e.Name e.Kids e.At true 1 else
 kI fT k e.Kind e.N e.Name e.Kids e.At true 2 else
 if e.Kind<5 then
 kI fT k e.Kind e.N e.Name e.Kids e.At (decide (e.Kind=4)) 0 else
 if e.Kind≤6 then
 kI fT k e.Kind e.N e.Name e.Kids e.At (decide (e.Kind=4)) 1 else
 kI fT k e.Kind e.N e.Name e.Kids e.At (decide (e.Kind=4)) 2
def jV:Nat→af→Option Bool
 | 0,_=>none
 | k+1,x0=>zV (jV k) k x0
def zU  (e:af):Option Bool:=ct (fun k (x:af)=>jV k x) e
theorem TM (fT:w7) (k:Nat) (Pb:ay Tryz.prog S (w6 fT)):ay Tryz.prog S (w6 (zV fT k)):=
 eH pk [DZ n5,w6 fT] ⟨Jg,Pb,trivial⟩ Tryz.func133 [3] k (fun k=> [(1,⟨[1,3,4],[l9,q3,q1],fun x=>kI fT k x.1.1 x.1.2.1 x.1.2.2.1 x.1.2.2.2.1 x.1.2.2.2.2 x.2.1 x.2.2,false⟩),(0,⟨[1,4,5],[l9,q1,q1],fun x=>mm fT k x.1.1 x.1.2.1 x.1.2.2.1 x.1.2.2.2.1 x.1.2.2.2.2 x.2.1 x.2.2,false⟩)]) ⟨fun _=>rfl,fun _=>rfl,trivial⟩ (fun _=>by kernel_rfl) (fun _=>by kernel_rfl) (by kernel_rfl)
theorem TL:ay Tryz.prog S (w6 (zU)):=gQ (fun k x=>jV k x) (fun _=>rfl) Tryz.func133 (by kernel_rfl) (fun _=>rfl) fun k h=>TM (jV k) k h
abbrev TH:=Int→Option Int
abbrev zS (f:TH):Entry S:=⟨95,[q1],[q1],fun x=>f x⟩
def mY  (k_:Int):Option Int:=if k_=19 then
 some 1 else
 if k_=18 then
 some 2 else
 if 12≤k_ then
 if k_≤17 then
 some 3 else
 if k_=10 then
 some 4 else
 if k_=11 then
 some 4 else
 if k_=7 then
 some 5 else
 if k_=8 then
 some 5 else
 if k_=9 then
 some 5 else
 if k_=5 then
 some 6 else
 if k_=6 then
 some 6 else
 some 7 else
 if k_=10 then
 some 4 else
 if k_=11 then
 some 4 else
 if k_=7 then
 some 5 else
 if k_=8 then
 some 5 else
 if k_=9 then
 some 5 else
 if k_=5 then
 some 6 else
 if k_=6 then
 some 6 else
 some 7
theorem D3:ay Tryz.prog S (zS (mY)):=
 bJ pk [] trivial Tryz.func95 (by kernel_rfl) (fun _=>by kernel_rfl) (by kernel_rfl)
abbrev w5:=af→Option Int
abbrev wZ (f:w5):Entry S:=⟨134,[e_],[q1],fun x=>f x⟩
mutual
def iT (gP:w5):Nat→Int→Int→(List UInt8)→(List af)→Int→Int→Int→Option Int
 | 0,_,_,_,_,_,_,_=>none
 | k+1,bR,bV,b8,bn,cq,most,i=>if i<(bn.length:Int) then
  (mY bR).bind fun r1=>
  if r1<6 then
  if r1=3 then
  n6 gP k bR bV b8 bn cq most i r1 4 else
  n6 gP k bR bV b8 bn cq most i r1 (ag (r1+i)) else
  n6 gP k bR bV b8 bn cq most i r1 6 else
  some most
def n6 (gP:w5):Nat→Int→Int→(List UInt8)→(List af)→Int→Int→Int→Int→Int→Option Int
 | 0,_,_,_,_,_,_,_,_,_=>none
 | k+1,bR,bV,b8,bn,cq,most,i,n,asks=>if 0≤i then
  if i<(bn.length:Int) then
  (gP (bn.getD i.toNat af.z)).bind fun r2=>
  if 0≤i then
  if i<(bn.length:Int) then
  (mY ((bn.getD i.toNat af.z).Kind)).bind fun r3=>
  if r3<asks then
  if n=6 then
  iT gP k bR bV b8 bn cq (max most (ag ((ag (r2+1))+1))) (ag (i+1)) else
  iT gP k bR bV b8 bn cq (max most (ag (r2+1))) (ag (i+1)) else
  if n=6 then
  iT gP k bR bV b8 bn cq (max most (ag (r2+1))) (ag (i+1)) else
  iT gP k bR bV b8 bn cq (max most r2) (ag (i+1)) else none else none else none else none
end
def pH (gP:w5) (k:Nat) (e:af):Option Int:=iT gP k e.Kind e.N e.Name e.Kids e.At 0 0
def iS:Nat→af→Option Int
 | 0,_=>none
 | k+1,x0=>pH (iS k) k x0
def ue  (e:af):Option Int:=ct (fun k (x:af)=>iS k x) e
theorem TJ (gP:w5) (k:Nat) (Pa:ay Tryz.prog S (wZ gP)):ay Tryz.prog S (wZ (pH gP k)):=
 eH pk [zS mY,wZ gP] ⟨D3,Pa,trivial⟩ Tryz.func134 [8] k (fun k=> [(0,⟨[1,3,4],[l9,q1,q1],fun x=>iT gP k x.1.1 x.1.2.1 x.1.2.2.1 x.1.2.2.2.1 x.1.2.2.2.2 x.2.1 x.2.2,false⟩),(1,⟨[1,3,4,5,6],[l9,q1,q1,q1,q1],fun x=>n6 gP k x.1.1 x.1.2.1 x.1.2.2.1 x.1.2.2.2.1 x.1.2.2.2.2 x.2.1 x.2.2.1 x.2.2.2.1 x.2.2.2.2,false⟩)]) ⟨fun _=>rfl,fun _=>rfl,trivial⟩ (fun _=>by kernel_rfl) (fun _=>by kernel_rfl) (by kernel_rfl)
theorem TI:ay Tryz.prog S (wZ (ue)):=gQ (fun k x=>iS k x) (fun _=>rfl) Tryz.func134 (by kernel_rfl) (fun _=>rfl) fun k h=>TJ (iS k) k h
abbrev TE:=af→Option Bool
abbrev Jo (f:TE):Entry S:=⟨112,[e_],[q3],fun x=>f x⟩
def ud  (e:af):Option Bool:=(zU (af.mk e.Kind e.N e.Name e.Kids e.At)).bind fun r1=>
 bif r1 then
 (ue (af.mk e.Kind e.N e.Name e.Kids e.At)).bind fun r2=>
 some (decide (r2≤12)) else
 some false
theorem TD:ay Tryz.prog S (Jo (ud)):=
 bJ pk [w6 zU,wZ ue] ⟨TL,TI,trivial⟩ Tryz.func112 (by kernel_rfl) (fun _=>by kernel_rfl) (by kernel_rfl)
abbrev jW:=(List ah)→Int→Option Bool
abbrev uk (f:jW):Entry S:=⟨48,[fF,q1],[q3],fun x=>f x.1 x.2⟩
abbrev T6:=ah→Int→Option Bool
abbrev Jw (f:T6):Entry S:=⟨82,[nW,q1],[q3],fun x=>f x.1 x.2⟩
def iU (bl:jW):Nat→Int→Int→(List UInt8)→(List UInt8)→(List af)→Int→(List ah)→(List ah)→Int→Bool→Option Bool
 | 0,_,_,_,_,_,_,_,_,_,_=>none
 | k+1,deep,aP,aW,a_,bA,bO,bL,bG,b7,blocks=>if 0<(bA.length:Int) then
  if (0:Int)≤0 then
  if 0<(bA.length:Int) then
  (ud (bA.getD (0:Int).toNat af.z)).bind fun r4=>
  bif !r4 then
  some false else
  bif !blocks then
  some true else
  (bl bL deep).bind fun r5=>
  bif r5 then
  (bl bG deep).bind fun r6=>
  some r6 else
  some false else none else none else
  bif !blocks then
  some true else
  (bl bL deep).bind fun r7=>
  bif r7 then
  (bl bG deep).bind fun r8=>
  some r8 else
  some false
def rN (bl:jW):Nat→Int→Int→(List UInt8)→(List UInt8)→(List af)→Int→(List ah)→(List ah)→Int→Bool→Option Bool
 | 0,_,_,_,_,_,_,_,_,_,_=>none
 | k+1,deep,aP,aW,a_,bA,bO,bL,bG,b7,blocks=>if bO<0 then
  some false else
  if bO≠0 then
  if aP≠7 then
  some false else
  bif !blocks then
  if 0<(bL.length:Int) then
  some false else
  if aP≠6 then
  if 0<(bG.length:Int) then
  some false else
  iU bl k deep aP aW a_ bA bO bL bG b7 blocks else
  iU bl k deep aP aW a_ bA bO bL bG b7 blocks else
  if aP≠6 then
  if 0<(bG.length:Int) then
  some false else
  iU bl k deep aP aW a_ bA bO bL bG b7 blocks else
  iU bl k deep aP aW a_ bA bO bL bG b7 blocks else
  bif !blocks then
  if 0<(bL.length:Int) then
  some false else
  if aP≠6 then
  if 0<(bG.length:Int) then
  some false else
  iU bl k deep aP aW a_ bA bO bL bG b7 blocks else
  iU bl k deep aP aW a_ bA bO bL bG b7 blocks else
  if aP≠6 then
  if 0<(bG.length:Int) then
  some false else
  iU bl k deep aP aW a_ bA bO bL bG b7 blocks else
  iU bl k deep aP aW a_ bA bO bL bG b7 blocks
def fH (bl:jW):Nat→Int→Int→(List UInt8)→(List UInt8)→(List af)→Int→(List ah)→(List ah)→Int→Bool→Bool→Bool→Option Bool
 | 0,_,_,_,_,_,_,_,_,_,_,_,_=>none
 | k+1,deep,aP,aW,a_,bA,bO,bL,bG,b7,event,named,blocks=>if named≠(decide (aW≠ [])) then
  some false else
  bif named then
  (n5 aW).bind fun r1=>
  bif !r1 then
  some false else
  if event≠(decide (a_≠ [])) then
  some false else
  bif event then
  (n5 a_).bind fun r2=>
  bif !r2 then
  some false else
  rN bl k deep aP aW a_ bA bO bL bG b7 blocks else
  rN bl k deep aP aW a_ bA bO bL bG b7 blocks else
  if event≠(decide (a_≠ [])) then
  some false else
  bif event then
  (n5 a_).bind fun r3=>
  bif !r3 then
  some false else
  rN bl k deep aP aW a_ bA bO bL bG b7 blocks else
  rN bl k deep aP aW a_ bA bO bL bG b7 blocks
def kK (bl:jW):Nat→Int→Int→(List UInt8)→(List UInt8)→(List af)→Int→(List ah)→(List ah)→Int→Bool→Bool→Bool→Bool→Option Bool
 | 0,_,_,_,_,_,_,_,_,_,_,_,_,_=>none
 | k+1,deep,aP,aW,a_,bA,bO,bL,bG,b7,x,may,event,named=>if aP=6 then
  if aP<1 then
  some false else
  if 7<aP then
  some false else
  if 1<(bA.length:Int) then
  some false else
  bif x then
  if (bA.length:Int)=0 then
  some false else
  bif !x then
  bif !may then
  if 0<(bA.length:Int) then
  some false else
  fH bl k deep aP aW a_ bA bO bL bG b7 event named true else
  fH bl k deep aP aW a_ bA bO bL bG b7 event named true else
  fH bl k deep aP aW a_ bA bO bL bG b7 event named true else
  bif !x then
  bif !may then
  if 0<(bA.length:Int) then
  some false else
  fH bl k deep aP aW a_ bA bO bL bG b7 event named true else
  fH bl k deep aP aW a_ bA bO bL bG b7 event named true else
  fH bl k deep aP aW a_ bA bO bL bG b7 event named true else
  if aP<1 then
  some false else
  if 7<aP then
  some false else
  if 1<(bA.length:Int) then
  some false else
  bif x then
  if (bA.length:Int)=0 then
  some false else
  bif !x then
  bif !may then
  if 0<(bA.length:Int) then
  some false else
  fH bl k deep aP aW a_ bA bO bL bG b7 event named (decide (aP=7)) else
  fH bl k deep aP aW a_ bA bO bL bG b7 event named (decide (aP=7)) else
  fH bl k deep aP aW a_ bA bO bL bG b7 event named (decide (aP=7)) else
  bif !x then
  bif !may then
  if 0<(bA.length:Int) then
  some false else
  fH bl k deep aP aW a_ bA bO bL bG b7 event named (decide (aP=7)) else
  fH bl k deep aP aW a_ bA bO bL bG b7 event named (decide (aP=7)) else
  fH bl k deep aP aW a_ bA bO bL bG b7 event named (decide (aP=7))
def uo (bl:jW):Nat→Int→Int→(List UInt8)→(List UInt8)→(List af)→Int→(List ah)→(List ah)→Int→Bool→Option Bool
 | 0,_,_,_,_,_,_,_,_,_,_=>none
 | k+1,deep,aP,aW,a_,bA,bO,bL,bG,b7,x=>if aP=2 then
  if aP=1 then
  kK bl k deep aP aW a_ bA bO bL bG b7 x true true true else
  if aP=3 then
  kK bl k deep aP aW a_ bA bO bL bG b7 x true true true else
  if aP=4 then
  kK bl k deep aP aW a_ bA bO bL bG b7 x true true true else
  kK bl k deep aP aW a_ bA bO bL bG b7 x true true (decide (aP=5)) else
  if aP=1 then
  kK bl k deep aP aW a_ bA bO bL bG b7 x (decide (aP=3)) (decide (aP=3)) true else
  if aP=3 then
  kK bl k deep aP aW a_ bA bO bL bG b7 x (decide (aP=3)) (decide (aP=3)) true else
  if aP=4 then
  kK bl k deep aP aW a_ bA bO bL bG b7 x (decide (aP=3)) (decide (aP=3)) true else
  kK bl k deep aP aW a_ bA bO bL bG b7 x (decide (aP=3)) (decide (aP=3)) (decide (aP=5))
def z6 (bl:jW) (k:Nat) (a:ah) (deep:Int):Option Bool:=if a.Kind=1 then
 uo bl k deep a.Kind a.Name a.Event a.X a.N a.aK a.aD a.At true else
 if a.Kind=4 then
 uo bl k deep a.Kind a.Name a.Event a.X a.N a.aK a.aD a.At true else
 uo bl k deep a.Kind a.Name a.Event a.X a.N a.aK a.aD a.At (decide (a.Kind=6))
def zZ (bl:jW)  (a:ah) (deep:Int):Option Bool:=ct (fun k (x:ah×Int)=>z6 bl k x.1 x.2) (a,deep)
theorem T5 (bl:jW) (Ci:ay Tryz.prog S (uk bl)):ay Tryz.prog S (Jw (zZ bl)):=i_ (fun k x=>z6 bl k x.1 x.2) (fun _=>rfl) fun k=>
 eH pk [DZ n5,Jo ud,uk bl] ⟨Jg,TD,Ci,trivial⟩ Tryz.func82 [1,4,6,9,12] k (fun k=> [(1,⟨[1,2,5],[q1,nX,q3],fun x=>uo bl k x.1 x.2.1.1 x.2.1.2.1 x.2.1.2.2.1 x.2.1.2.2.2.1 x.2.1.2.2.2.2.1 x.2.1.2.2.2.2.2.1 x.2.1.2.2.2.2.2.2.1 x.2.1.2.2.2.2.2.2.2 x.2.2,false⟩),(3,⟨[1,2,5,6,7,8],[q1,nX,q3,q3,q3,q3],fun x=>kK bl k x.1 x.2.1.1 x.2.1.2.1 x.2.1.2.2.1 x.2.1.2.2.2.1 x.2.1.2.2.2.2.1 x.2.1.2.2.2.2.2.1 x.2.1.2.2.2.2.2.2.1 x.2.1.2.2.2.2.2.2.2 x.2.2.1 x.2.2.2.1 x.2.2.2.2.1 x.2.2.2.2.2,false⟩),(5,⟨[1,2,7,8,9],[q1,nX,q3,q3,q3],fun x=>fH bl k x.1 x.2.1.1 x.2.1.2.1 x.2.1.2.2.1 x.2.1.2.2.2.1 x.2.1.2.2.2.2.1 x.2.1.2.2.2.2.2.1 x.2.1.2.2.2.2.2.2.1 x.2.1.2.2.2.2.2.2.2 x.2.2.1 x.2.2.2.1 x.2.2.2.2,false⟩),(7,⟨[1,2,9],[q1,nX,q3],fun x=>rN bl k x.1 x.2.1.1 x.2.1.2.1 x.2.1.2.2.1 x.2.1.2.2.2.1 x.2.1.2.2.2.2.1 x.2.1.2.2.2.2.2.1 x.2.1.2.2.2.2.2.2.1 x.2.1.2.2.2.2.2.2.2 x.2.2,false⟩),(9,⟨[1,2,9],[q1,nX,q3],fun x=>iU bl k x.1 x.2.1.1 x.2.1.2.1 x.2.1.2.2.1 x.2.1.2.2.2.1 x.2.1.2.2.2.2.1 x.2.1.2.2.2.2.2.1 x.2.1.2.2.2.2.2.2.1 x.2.1.2.2.2.2.2.2.2 x.2.2,false⟩)]) ⟨fun _=>rfl,fun _=>rfl,fun _=>rfl,fun _=>rfl,fun _=>rfl,trivial⟩ (fun _=>by kernel_rfl) (fun _=>by kernel_rfl) (by kernel_rfl)
def um (bl:jW):Nat→(List ah)→Int→Int→Option Bool
 | 0,_,_,_=>none
 | k+1,l,deep,i=>if i<(l.length:Int) then
  if 0≤i then
  if i<(l.length:Int) then
  (zZ bl (l.getD i.toNat ah.z) (ag (deep+1))).bind fun r1=>
  bif !r1 then
  some false else
  um bl k l deep (ag (i+1)) else none else none else
  some true
def zY (bl:jW) (k:Nat) (l:List ah) (deep:Int):Option Bool:=if deep=4 then some false else um bl k l deep 0
def pL:Nat→(List ah)→Int→Option Bool
 | 0,_,_=>none
 | k+1,x0,x1=>zY (pL k) k x0 x1
def zX  (l:List ah) (deep:Int):Option Bool:=ct (fun k (x:List ah×Int)=>pL k x.1 x.2) (l,deep)
theorem T4 (bl:jW) (k:Nat) (Ci:ay Tryz.prog S (uk bl)):ay Tryz.prog S (uk (zY bl k)):=
 eH pk [Jw (zZ bl)] ⟨T5 bl Ci,trivial⟩ Tryz.func48 [] k (fun k=> [(0,⟨[0,1,5],[fF,q1,q1],fun x=>um bl k x.1 x.2.1 x.2.2,false⟩)]) ⟨fun _=>rfl,trivial⟩ (fun _=>by kernel_rfl) (fun _=>by kernel_rfl) (by kernel_rfl)
theorem TZ:ay Tryz.prog S (uk (zX)):=gQ (fun k x=>pL k x.1 x.2) (fun _=>rfl) Tryz.func48 (by kernel_rfl) (fun _=>rfl) fun k h=>T4 (pL k) k h
abbrev TU:=(List ah)→Option Bool
abbrev Jt (f:TU):Entry S:=⟨24,[fF],[q3],fun x=>f x⟩
def w9  (l:List ah):Option Bool:=(zX l 0).bind fun r1=>some r1
theorem TT:ay Tryz.prog S (Jt (w9)):=
 bJ pk [uk zX] ⟨TZ,trivial⟩ Tryz.func24 (by kernel_rfl) (fun _=>by kernel_rfl) (by kernel_rfl)
abbrev TQ:=Int→Option (List UInt8)
abbrev Js (f:TQ):Entry S:=⟨32,[q1],[q0],fun x=>f x⟩
def rL:Nat→Int→(List UInt8)→Int→Option (List UInt8)
 | 0,_,_,_=>none
 | k+1,n,s,i=>if i<n then
  if s.length+rW.length≤9223372036854775807 then
  rL k n (s++rW) (ag (i+1)) else none else
  some s
def Jr (k:Nat) (n:Int):Option (List UInt8):=rL k n [] 0
def w8  (n:Int):Option (List UInt8):=ct (fun k (x:Int)=>Jr k x) n
theorem TP:ay Tryz.prog S (Js (w8)):=i_ (fun k x=>Jr k x) (fun _=>rfl) fun k=>
 eH pk [] trivial Tryz.func32 [] k (fun k=> [(0,⟨[0,3,4],[q1,q0,q1],fun x=>rL k x.1 x.2.1 x.2.2,false⟩)]) ⟨fun _=>rfl,trivial⟩ (fun _=>by kernel_rfl) (fun _=>by kernel_rfl) (by kernel_rfl)
abbrev D1:=Int→Option (List UInt8)
abbrev tZ (f:D1):Entry S:=⟨68,[q1],[q0],fun x=>f x⟩
def D0 (uv:D1) (k:Nat) (n:Int):Option (List UInt8):=if n≤(-10) then
 if ¬ (10:Int)=0 then
 if ¬ (10:Int)=0 then
 (uv (ag (n.tdiv 10))).bind fun r1=>
 if 0≤(ag ((ag (0 - (n.tmod 10)))+1)) then
 if (ag ((ag (0 - (n.tmod 10)))+1))≤(jY.length:Int) then
 if 0≤(ag (0 - (n.tmod 10))) then
 if (ag (0 - (n.tmod 10)))≤(ag ((ag (0 - (n.tmod 10)))+1)) then
 if r1.length+(cut jY (ag (0 - (n.tmod 10))) (ag ((ag (0 - (n.tmod 10)))+1))).length≤9223372036854775807 then
 some (r1++(cut jY (ag (0 - (n.tmod 10))) (ag ((ag (0 - (n.tmod 10)))+1)))) else none else none else none else none else none else none else none else
 if n<0 then
 if 0≤(ag ((ag (0 - n))+1)) then
 if (ag ((ag (0 - n))+1))≤(jY.length:Int) then
 if 0≤(ag (0 - n)) then
 if (ag (0 - n))≤(ag ((ag (0 - n))+1)) then
 if dA.length+(cut jY (ag (0 - n)) (ag ((ag (0 - n))+1))).length≤9223372036854775807 then
 some (dA++(cut jY (ag (0 - n)) (ag ((ag (0 - n))+1)))) else none else none else none else none else none else
 if n<10 then
 if 0≤(ag (n+1)) then
 if (ag (n+1))≤(jY.length:Int) then
 if 0≤n then
 if n≤(ag (n+1)) then
 some (cut jY n (ag (n+1))) else none else none else none else none else
 if ¬ (10:Int)=0 then
 (uv (ag (n.tdiv 10))).bind fun r2=>
 if ¬ (10:Int)=0 then
 if ¬ (10:Int)=0 then
 if 0≤(ag ((n.tmod 10)+1)) then
 if (ag ((n.tmod 10)+1))≤(jY.length:Int) then
 if 0≤(n.tmod 10) then
 if (n.tmod 10)≤(ag ((n.tmod 10)+1)) then
 if r2.length+(cut jY (n.tmod 10) (ag ((n.tmod 10)+1))).length≤9223372036854775807 then
 some (r2++(cut jY (n.tmod 10) (ag ((n.tmod 10)+1)))) else none else none else none else none else none else none else none else none
def tY:Nat→Int→Option (List UInt8)
 | 0,_=>none
 | k+1,x0=>D0 (tY k) k x0
def tX  (n:Int):Option (List UInt8):=ct (fun k (x:Int)=>tY k x) n
theorem Tz (uv:D1) (k:Nat) (O9:ay Tryz.prog S (tZ uv)):ay Tryz.prog S (tZ (D0 uv k)):=
 bJ pk [tZ uv] ⟨O9,trivial⟩ Tryz.func68 (by kernel_rfl) (fun _=>by kernel_rfl) (by kernel_rfl)
theorem Jl:ay Tryz.prog S (tZ (tX)):=gQ (fun k x=>tY k x) (fun _=>rfl) Tryz.func68 (by kernel_rfl) (fun _=>rfl) fun k h=>Tz (tY k) k h
abbrev TO:=Int→Option (List UInt8)
abbrev Jq (f:TO):Entry S:=⟨96,[q1],[q0],fun x=>f x⟩
def mo  (k_:Int):Option (List UInt8):=if 0≤k_ then
 if k_<(JG.length:Int) then
 some (JG.getD k_.toNat []) else none else none
theorem TN:ay Tryz.prog S (Jq (mo)):=
 bJ pk [] trivial Tryz.func96 (by kernel_rfl) (fun _=>by kernel_rfl) (by kernel_rfl)
abbrev wY:=af→Option (List UInt8)
abbrev rI (f:wY):Entry S:=⟨66,[e_],[q0],fun x=>f x⟩
abbrev TG:=af→Int→Option (List UInt8)
abbrev Jp (f:TG):Entry S:=⟨97,[e_,q1],[q0],fun x=>f x.1 x.2⟩
def jy (fe:wY)  (e:af) (asks:Int):Option (List UInt8):=(mY e.Kind).bind fun r1=>
 if r1<asks then
 (fe (af.mk e.Kind e.N e.Name e.Kids e.At)).bind fun r2=>
 if bK.length+r2.length≤9223372036854775807 then
 if (bK++r2).length+bw.length≤9223372036854775807 then
 some ((bK++r2)++bw) else none else none else
 (fe (af.mk e.Kind e.N e.Name e.Kids e.At)).bind fun r3=>
 some r3
theorem TF (fe:wY) (Cg:ay Tryz.prog S (rI fe)):ay Tryz.prog S (Jp (jy fe)):=
 bJ pk [zS mY,rI fe] ⟨D3,Cg,trivial⟩ Tryz.func97 (by kernel_rfl) (fun _=>by kernel_rfl) (by kernel_rfl)
def jw (fe:wY) (k:Nat) (e:af):Option (List UInt8):=(mY e.Kind).bind fun r1=>
 if e.Kind=1 then
 (tX e.N).bind fun r2=>
 some r2 else
 if e.Kind=2 then
 some e.Name else
 if e.Kind=3 then
 some jB else
 if e.Kind=4 then
 if fY.length+e.Name.length≤9223372036854775807 then
 if (fY++e.Name).length+bw.length≤9223372036854775807 then
 some ((fY++e.Name)++bw) else none else none else
 if e.Kind=5 then
 if e.Kind=5 then
 (mo e.Kind).bind fun r3=>
 if (0:Int)≤0 then
 if 0<(e.Kids.length:Int) then
 (jy fe (e.Kids.getD (0:Int).toNat af.z) 6).bind fun r4=>
 if r3.length+r4.length≤9223372036854775807 then
 some (r3++r4) else none else none else none else
 if r1=3 then
 if (0:Int)≤0 then
 if 0<(e.Kids.length:Int) then
 (jy fe (e.Kids.getD (0:Int).toNat af.z) 4).bind fun r5=>
 if r5.length+aJ.length≤9223372036854775807 then
 (mo e.Kind).bind fun r6=>
 if (r5++aJ).length+r6.length≤9223372036854775807 then
 if ((r5++aJ)++r6).length+aJ.length≤9223372036854775807 then
 if (0:Int)≤1 then
 if 1<(e.Kids.length:Int) then
 (jy fe (e.Kids.getD (1:Int).toNat af.z) (ag (r1+1))).bind fun r7=>
 if (((r5++aJ)++r6)++aJ).length+r7.length≤9223372036854775807 then
 some ((((r5++aJ)++r6)++aJ)++r7) else none else none else none else none else none else none else none else none else
 if (0:Int)≤0 then
 if 0<(e.Kids.length:Int) then
 (jy fe (e.Kids.getD (0:Int).toNat af.z) r1).bind fun r8=>
 if r8.length+aJ.length≤9223372036854775807 then
 (mo e.Kind).bind fun r9=>
 if (r8++aJ).length+r9.length≤9223372036854775807 then
 if ((r8++aJ)++r9).length+aJ.length≤9223372036854775807 then
 if (0:Int)≤1 then
 if 1<(e.Kids.length:Int) then
 (jy fe (e.Kids.getD (1:Int).toNat af.z) (ag (r1+1))).bind fun cW=>
 if (((r8++aJ)++r9)++aJ).length+cW.length≤9223372036854775807 then
 some ((((r8++aJ)++r9)++aJ)++cW) else none else none else none else none else none else none else none else none else
 if e.Kind=6 then
 (mo e.Kind).bind fun di=>
 if (0:Int)≤0 then
 if 0<(e.Kids.length:Int) then
 (jy fe (e.Kids.getD (0:Int).toNat af.z) 6).bind fun cm=>
 if di.length+cm.length≤9223372036854775807 then
 some (di++cm) else none else none else none else
 if r1=3 then
 if (0:Int)≤0 then
 if 0<(e.Kids.length:Int) then
 (jy fe (e.Kids.getD (0:Int).toNat af.z) 4).bind fun dV=>
 if dV.length+aJ.length≤9223372036854775807 then
 (mo e.Kind).bind fun iN=>
 if (dV++aJ).length+iN.length≤9223372036854775807 then
 if ((dV++aJ)++iN).length+aJ.length≤9223372036854775807 then
 if (0:Int)≤1 then
 if 1<(e.Kids.length:Int) then
 (jy fe (e.Kids.getD (1:Int).toNat af.z) (ag (r1+1))).bind fun fW=>
 if (((dV++aJ)++iN)++aJ).length+fW.length≤9223372036854775807 then
 some ((((dV++aJ)++iN)++aJ)++fW) else none else none else none else none else none else none else none else none else
 if (0:Int)≤0 then
 if 0<(e.Kids.length:Int) then
 (jy fe (e.Kids.getD (0:Int).toNat af.z) r1).bind fun r16=>
 if r16.length+aJ.length≤9223372036854775807 then
 (mo e.Kind).bind fun l_=>
 if (r16++aJ).length+l_.length≤9223372036854775807 then
 if ((r16++aJ)++l_).length+aJ.length≤9223372036854775807 then
 if (0:Int)≤1 then
 if 1<(e.Kids.length:Int) then
 (jy fe (e.Kids.getD (1:Int).toNat af.z) (ag (r1+1))).bind fun nY=>
 if (((r16++aJ)++l_)++aJ).length+nY.length≤9223372036854775807 then
 some ((((r16++aJ)++l_)++aJ)++nY) else none else none else none else none else none else none else none else none
def jx:Nat→af→Option (List UInt8)
 | 0,_=>none
 | k+1,x0=>jw (jx k) k x0
def uc  (e:af):Option (List UInt8):=ct (fun k (x:af)=>jx k x) e
theorem TC (fe:wY) (k:Nat) (Cg:ay Tryz.prog S (rI fe)):ay Tryz.prog S (rI (jw fe k)):=
 bJ pk [zS mY,tZ tX,Jq mo,Jp (jy fe)] ⟨D3,Jl,TN,TF fe Cg,trivial⟩ Tryz.func66 (by kernel_rfl) (fun _=>by kernel_rfl) (by kernel_rfl)
theorem Jn:ay Tryz.prog S (rI (uc)):=gQ (fun k x=>jx k x) (fun _=>rfl) Tryz.func66 (by kernel_rfl) (fun _=>rfl) fun k h=>TC (jx k) k h
abbrev TW:=(List af)→Option (List UInt8)
abbrev Ju (f:TW):Entry S:=⟨67,[kD],[q0],fun x=>f x⟩
def pK  (x:List af):Option (List UInt8):=if (x.length:Int)=0 then
 some [] else
 if (0:Int)≤0 then
 if 0<(x.length:Int) then
 (uc (x.getD (0:Int).toNat af.z)).bind fun r1=>
 if bK.length+r1.length≤9223372036854775807 then
 if (bK++r1).length+bw.length≤9223372036854775807 then
 some ((bK++r1)++bw) else none else none else none else none
theorem TV:ay Tryz.prog S (Ju (pK)):=
 bJ pk [rI uc] ⟨Jn,trivial⟩ Tryz.func67 (by kernel_rfl) (fun _=>by kernel_rfl) (by kernel_rfl)
abbrev uh:=(List ah)→Int→Option (List UInt8)
abbrev ug (f:uh):Entry S:=⟨15,[fF,q1],[q0],fun x=>f x.1 x.2⟩
abbrev TY:=ah→Int→Option (List UInt8)
abbrev Jv (f:TY):Entry S:=⟨33,[nW,q1],[q0],fun x=>f x.1 x.2⟩
def w_ (gx:uh)  (a:ah) (dG:Int):Option (List UInt8):=if a.Kind=1 then
 if a.Name.length+gO.length≤9223372036854775807 then
 if (0:Int)≤0 then
 if 0<(a.X.length:Int) then
 (uc (a.X.getD (0:Int).toNat af.z)).bind fun r1=>
 if (a.Name++gO).length+r1.length≤9223372036854775807 then
 if ((a.Name++gO)++r1).length+bh.length≤9223372036854775807 then
 some (((a.Name++gO)++r1)++bh) else none else none else none else none else none else
 if a.Kind=2 then
 if iu.length+a.Event.length≤9223372036854775807 then
 (pK a.X).bind fun r2=>
 if (iu++a.Event).length+r2.length≤9223372036854775807 then
 if ((iu++a.Event)++r2).length+bh.length≤9223372036854775807 then
 some (((iu++a.Event)++r2)++bh) else none else none else none else
 if a.Kind=3 then
 if eV.length+a.Name.length≤9223372036854775807 then
 if (eV++a.Name).length+aJ.length≤9223372036854775807 then
 if ((eV++a.Name)++aJ).length+a.Event.length≤9223372036854775807 then
 (pK a.X).bind fun r3=>
 if (((eV++a.Name)++aJ)++a.Event).length+r3.length≤9223372036854775807 then
 if ((((eV++a.Name)++aJ)++a.Event)++r3).length+bh.length≤9223372036854775807 then
 some (((((eV++a.Name)++aJ)++a.Event)++r3)++bh) else none else none else none else none else none else
 if a.Kind=4 then
 if iV.length+a.Name.length≤9223372036854775807 then
 (pK a.X).bind fun r4=>
 if (iV++a.Name).length+r4.length≤9223372036854775807 then
 if ((iV++a.Name)++r4).length+bh.length≤9223372036854775807 then
 some (((iV++a.Name)++r4)++bh) else none else none else none else
 if a.Kind=5 then
 if kT.length+a.Name.length≤9223372036854775807 then
 if (kT++a.Name).length+bh.length≤9223372036854775807 then
 some ((kT++a.Name)++bh) else none else none else
 if a.Kind=7 then
 (tX a.N).bind fun r5=>
 if jC.length+r5.length≤9223372036854775807 then
 if (jC++r5).length+aJ.length≤9223372036854775807 then
 (gx a.aK dG).bind fun r6=>
 if ((jC++r5)++aJ).length+r6.length≤9223372036854775807 then
 some (((jC++r5)++aJ)++r6) else none else none else none else
 (pK a.X).bind fun r7=>
 if fX.length+r7.length≤9223372036854775807 then
 if (fX++r7).length+aJ.length≤9223372036854775807 then
 (gx a.aK dG).bind fun r8=>
 if ((fX++r7)++aJ).length+r8.length≤9223372036854775807 then
 if 0<(a.aD.length:Int) then
 if (((fX++r7)++aJ)++r8).length+pO.length≤9223372036854775807 then
 (gx a.aD dG).bind fun r9=>
 if ((((fX++r7)++aJ)++r8)++pO).length+r9.length≤9223372036854775807 then
 some (((((fX++r7)++aJ)++r8)++pO)++r9) else none else none else
 some (((fX++r7)++aJ)++r8) else none else none else none
theorem TX (gx:uh) (Ch:ay Tryz.prog S (ug gx)):ay Tryz.prog S (Jv (w_ gx)):=
 bJ pk [rI uc,Ju pK,tZ tX,ug gx] ⟨Jn,TV,Jl,Ch,trivial⟩ Tryz.func33 (by kernel_rfl) (fun _=>by kernel_rfl) (by kernel_rfl)
def rM (gx:uh):Nat→(List ah)→Int→(List UInt8)→Int→Option (List UInt8)
 | 0,_,_,_,_=>none
 | k+1,l,n,s,i=>if i<(l.length:Int) then
  (w8 (ag (n+1))).bind fun r1=>
  if s.length+r1.length≤9223372036854775807 then
  if 0≤i then
  if i<(l.length:Int) then
  (w_ gx (l.getD i.toNat ah.z) (ag (n+1))).bind fun r2=>
  if (s++r1).length+r2.length≤9223372036854775807 then
  if ((s++r1)++r2).length+JP.length≤9223372036854775807 then
  rM gx k l n (((s++r1)++r2)++JP) (ag (i+1)) else none else none else none else none else none else
  (w8 n).bind fun r3=>
  if s.length+r3.length≤9223372036854775807 then
  if (s++r3).length+cY.length≤9223372036854775807 then
  some ((s++r3)++cY) else none else none
def n7 (gx:uh) (k:Nat) (l:List ah) (dG:Int):Option (List UInt8):=if (l.length:Int)=0 then
 some As else
 rM gx k l (max dG 0) rV 0
def kJ:Nat→(List ah)→Int→Option (List UInt8)
 | 0,_,_=>none
 | k+1,x0,x1=>n7 (kJ k) k x0 x1
def zW  (l:List ah) (dG:Int):Option (List UInt8):=ct (fun k (x:List ah×Int)=>kJ k x.1 x.2) (l,dG)
theorem TS (gx:uh) (k:Nat) (Ch:ay Tryz.prog S (ug gx)):ay Tryz.prog S (ug (n7 gx k)):=
 eH pk [Js w8,Jv (w_ gx)] ⟨TP,TX gx Ch,trivial⟩ Tryz.func15 [] k (fun k=> [(0,⟨[0,5,6,7],[fF,q1,q0,q1],fun x=>rM gx k x.1 x.2.1 x.2.2.1 x.2.2.2,false⟩)]) ⟨fun _=>rfl,trivial⟩ (fun _=>by kernel_rfl) (fun _=>by kernel_rfl) (by kernel_rfl)
theorem TR:ay Tryz.prog S (ug (zW)):=gQ (fun k x=>kJ k x.1 x.2) (fun _=>rfl) Tryz.func15 (by kernel_rfl) (fun _=>rfl) fun k h=>TS (kJ k) k h
abbrev U5:=(List af)→(List af)→((af×af)→Option Bool)→Option Bool
abbrev Et (f:U5):Entry S:=⟨45,[kD,kD,I0],[q3],fun x=>f x.1 x.2.1 x.2.2⟩
def uy:Nat→(List af)→((af×af)→Option Bool)→(List af)→Int→Int→Option Bool
 | 0,_,_,_,_,_=>none
 | k+1,s2,eq,dO,pX,bQ=>if bQ<pX then
  if 0≤bQ then
  if bQ<(dO.length:Int) then
  if 0≤bQ then
  if bQ<(s2.length:Int) then
  (eq (af.mk ((dO.getD bQ.toNat af.z).Kind) ((dO.getD bQ.toNat af.z).N) ((dO.getD bQ.toNat af.z).Name) ((dO.getD bQ.toNat af.z).Kids) ((dO.getD bQ.toNat af.z).At),af.mk ((s2.getD bQ.toNat af.z).Kind) ((s2.getD bQ.toNat af.z).N) ((s2.getD bQ.toNat af.z).Name) ((s2.getD bQ.toNat af.z).Kids) ((s2.getD bQ.toNat af.z).At))).bind fun r1=>
  bif !r1 then
  some false else
  uy k s2 eq dO pX (ag (bQ+1)) else none else none else none else none else
  some true
def AP (k:Nat) (s1:List af) (s2:List af) (eq:(af×af)→Option Bool):Option Bool:=if (s1.length:Int)≠(s2.length:Int) then
 some false else
 uy k s2 eq s1 (s1.length:Int) 0
def rY  (s1:List af) (s2:List af) (eq:(af×af)→Option Bool):Option Bool:=ct (fun k (x:List af×List af×((af×af)→Option Bool))=>AP k x.1 x.2.1 x.2.2) (s1,s2,eq)
theorem J7:ay Tryz.prog S (Et (rY)):=i_ (fun k x=>AP k x.1 x.2.1 x.2.2) (fun _=>rfl) fun k=>
 eH pk [] trivial Tryz.func45 [] k (fun k=> [(0,⟨[1,2,15,16,17],[kD,I0,kD,q1,q1],fun x=>uy k x.1 x.2.1 x.2.2.1 x.2.2.2.1 x.2.2.2.2,false⟩)]) ⟨fun _=>rfl,trivial⟩ (fun _=>by kernel_rfl) (fun _=>by kernel_rfl) (by kernel_rfl)
abbrev BQ:=af→af→Option Bool
abbrev BP (f:BQ):Entry S:=⟨46,[e_,e_],[q3],fun x=>f x.1 x.2⟩
def ym (xg:BQ) (k:Nat) (a:af) (b:af):Option Bool:=if a.Kind=b.Kind then
 if a.N=b.N then
 if a.Name=b.Name then
 (rY a.Kids b.Kids (fun y=>xg y.1 y.2)).bind fun r1=>
 some r1 else
 some false else
 some false else
 some false
def sS:Nat→af→af→Option Bool
 | 0,_,_=>none
 | k+1,x0,x1=>ym (sS k) k x0 x1
def vl  (a:af) (b:af):Option Bool:=ct (fun k (x:af×af)=>sS k x.1 x.2) (a,b)
theorem N7 (xg:BQ) (k:Nat) (O4:ay Tryz.prog S (BP xg)):ay Tryz.prog S (BP (ym xg k)):=
 sX pk ⟨[Et rY],[⟨46,[.st 1, .st 1],[],[.bool],fun x c=>xg x.1 x.2⟩],false,false,none,[]⟩ ⟨J7,trivial⟩ (all_nil) (all_cons (fq.of (a:= [.st 1, .st 1]) (c:= []) (r:= [.bool]) O4 (fun _ _ z h=>⟨z,h,rfl⟩)) all_nil) Tryz.func46 [] k (fun k=> []) trivial (fun _=>by kernel_rfl) (fun _=>by kernel_rfl) (by kernel_rfl)
theorem N6:ay Tryz.prog S (BP (vl)):=gQ (fun k x=>sS k x.1 x.2) (fun _=>rfl) Tryz.func46 (by kernel_rfl) (fun _=>rfl) fun k h=>N7 (sS k) k h
abbrev uX:=(List ah)→(List ah)→Option Bool
abbrev sB (f:uX):Entry S:=⟨22,[fF,fF],[q3],fun x=>f x.1 x.2⟩
abbrev LV:=ah→ah→Option Bool
abbrev LS (f:LV):Entry S:=⟨44,[nW,nW],[q3],fun x=>f x.1 x.2⟩
def lF (j4:uX)  (x:ah) (y:ah):Option Bool:=if x.Kind=y.Kind then
 if x.Name=y.Name then
 if x.Event=y.Event then
 if x.N=y.N then
 (rY x.X y.X (fun y=>vl y.1 y.2)).bind fun r1=>
 bif r1 then
 (j4 x.aK y.aK).bind fun r2=>
 bif r2 then
 (j4 x.aD y.aD).bind fun r3=>
 some r3 else
 some false else
 some false else
 some false else
 some false else
 some false else
 some false
theorem LU (j4:uX) (Ce:ay Tryz.prog S (sB j4)):ay Tryz.prog S (LS (lF j4)):=
 sX pk ⟨[Et rY,sB j4],[⟨46,[.st 1, .st 1],[],[.bool],fun x c=>vl x.1 x.2⟩],false,false,none,[]⟩ ⟨J7,Ce,trivial⟩ (all_nil) (all_cons (fq.of (a:= [.st 1, .st 1]) (c:= []) (r:= [.bool]) N6 (fun _ _ z h=>⟨z,h,rfl⟩)) all_nil) Tryz.func44 [] 0 (fun k=> []) trivial (fun _=>by kernel_rfl) (fun _=>by kernel_rfl) (by kernel_rfl)
abbrev U4:=(List ah)→(List ah)→((ah×ah)→Option Bool)→Option Bool
abbrev J6 (f:U4):Entry S:=⟨43,[fF,fF,I3],[q3],fun x=>f x.1 x.2.1 x.2.2⟩
def oc:Nat→(List ah)→((ah×ah)→Option Bool)→(List ah)→Int→Int→Option Bool
 | 0,_,_,_,_,_=>none
 | k+1,s2,eq,dO,pX,bQ=>if bQ<pX then
  if 0≤bQ then
  if bQ<(dO.length:Int) then
  if 0≤bQ then
  if bQ<(s2.length:Int) then
  (eq (ah.mk ((dO.getD bQ.toNat ah.z).Kind) ((dO.getD bQ.toNat ah.z).Name) ((dO.getD bQ.toNat ah.z).Event) ((dO.getD bQ.toNat ah.z).X) ((dO.getD bQ.toNat ah.z).N) ((dO.getD bQ.toNat ah.z).aK) ((dO.getD bQ.toNat ah.z).aD) ((dO.getD bQ.toNat ah.z).At),ah.mk ((s2.getD bQ.toNat ah.z).Kind) ((s2.getD bQ.toNat ah.z).Name) ((s2.getD bQ.toNat ah.z).Event) ((s2.getD bQ.toNat ah.z).X) ((s2.getD bQ.toNat ah.z).N) ((s2.getD bQ.toNat ah.z).aK) ((s2.getD bQ.toNat ah.z).aD) ((s2.getD bQ.toNat ah.z).At))).bind fun r1=>
  bif !r1 then
  some false else
  oc k s2 eq dO pX (ag (bQ+1)) else none else none else none else none else
  some true
def AO (k:Nat) (s1:List ah) (s2:List ah) (eq:(ah×ah)→Option Bool):Option Bool:=if (s1.length:Int)≠(s2.length:Int) then
 some false else
 oc k s2 eq s1 (s1.length:Int) 0
def AN  (s1:List ah) (s2:List ah) (eq:(ah×ah)→Option Bool):Option Bool:=ct (fun k (x:List ah×List ah×((ah×ah)→Option Bool))=>AO k x.1 x.2.1 x.2.2) (s1,s2,eq)
theorem U3:ay Tryz.prog S (J6 (AN)):=i_ (fun k x=>AO k x.1 x.2.1 x.2.2) (fun _=>rfl) fun k=>
 eH pk [] trivial Tryz.func43 [] k (fun k=> [(0,⟨[1,2,15,16,17],[fF,I3,fF,q1,q1],fun x=>oc k x.1 x.2.1 x.2.2.1 x.2.2.2.1 x.2.2.2.2,false⟩)]) ⟨fun _=>rfl,trivial⟩ (fun _=>by kernel_rfl) (fun _=>by kernel_rfl) (by kernel_rfl)
def xO (j4:uX) (k:Nat) (a:List ah) (b:List ah):Option Bool:=(AN a b (fun y=>lF j4 y.1 y.2)).bind fun r1=>
 some r1
def jh:Nat→(List ah)→(List ah)→Option Bool
 | 0,_,_=>none
 | k+1,x0,x1=>xO (jh k) k x0 x1
def xN  (a:List ah) (b:List ah):Option Bool:=ct (fun k (x:List ah×List ah)=>jh k x.1 x.2) (a,b)
theorem LX (j4:uX) (k:Nat) (Ce:ay Tryz.prog S (sB j4)):ay Tryz.prog S (sB (xO j4 k)):=
 sX pk ⟨[J6 AN],[⟨44,[.st 0, .st 0],[],[.bool],fun x c=>lF j4 x.1 x.2⟩],false,false,none,[]⟩ ⟨U3,trivial⟩ (all_nil) (all_cons (fq.of (a:= [.st 0, .st 0]) (c:= []) (r:= [.bool]) (LU j4 Ce) (fun _ _ z h=>⟨z,h,rfl⟩)) all_nil) Tryz.func22 [] k (fun k=> []) trivial (fun _=>by kernel_rfl) (fun _=>by kernel_rfl) (by kernel_rfl)
theorem LW:ay Tryz.prog S (sB (xN)):=gQ (fun k x=>jh k x.1 x.2) (fun _=>rfl) Tryz.func22 (by kernel_rfl) (fun _=>rfl) fun k h=>LX (jh k) k h
abbrev QY:=(List ah)→Option Bool
abbrev QW (f:QY):Entry S:=⟨7,[fF],[q3],fun x=>f x⟩
def zd  (l:List ah):Option Bool:=(zf l 8).bind fun r1=>
 bif !r1 then
 (nQ).bind fun r2=>
 some r2 else
 (j6 l).bind fun r3=>
 (w9 l).bind fun r4=>
 if r3≠r4 then
 some false else
 bif !r3 then
 (nQ).bind fun r5=>
 some r5 else
 (qa l 0).bind fun r6=>
 (zW l 0).bind fun r7=>
 if r6≠r7 then
 if 16384<(r6.length:Int) then
 (nQ).bind fun r8=>
 some r8 else
 some false else
 if 16384<(r6.length:Int) then
 if 16384<(r6.length:Int) then
 (nQ).bind fun r9=>
 some r9 else
 some false else
 (mO r6).bind fun cW=>
 bif cW.2 then
 (xN cW.1 l).bind fun di=>
 bif di then
 (nQ).bind fun cm=>
 some cm else
 some false else
 some false
theorem QX:ay Tryz.prog S (QW (zd)):=
 bJ pk [wh zf,H8 nQ,Bf j6,Jt w9,Be qa,ug zW,C4 mO,sB xN] ⟨QZ,Q1,E7,TT,E6,TR,H9,LW,trivial⟩ Tryz.func7 (by kernel_rfl) (fun _=>by kernel_rfl) (by kernel_rfl)
def zP  (l:List ax) (an:Int) (s:List UInt8):Option Bool:=if an<(l.length:Int) then
 if 0≤an then
 if an<(l.length:Int) then
 if ((l.getD an.toNat ax.z).Kind)=3 then
 if 0≤an then
 if an<(l.length:Int) then
 some (decide (((l.getD an.toNat ax.z).Text)=s)) else none else none else
 if 0≤an then
 if an<(l.length:Int) then
 if ((l.getD an.toNat ax.z).Kind)=1 then
 if 0≤an then
 if an<(l.length:Int) then
 some (decide (((l.getD an.toNat ax.z).Text)=s)) else none else none else
 some false else none else none else none else none else
 some false
def zO  (l:List ax) (an:Int):Option bf:=if 0≤an then
 if an<(l.length:Int) then
 if ((l.getD an.toNat ax.z).Kind)=4 then
 if 0≤an then
 if an<(l.length:Int) then
 some (bf.mk 12 ((l.getD an.toNat ax.z).At)) else none else none else
 if 0≤an then
 if an<(l.length:Int) then
 some (bf.mk 11 ((l.getD an.toNat ax.z).At)) else none else none else none else none
def pJ  (r_:aU) (s:List UInt8):Option (Bool×aU):=(zP r_.l r_.an s).bind fun r1=>some (r1,r_)
def uf  (r_:aU):Option (af×aU):=if r_.bad.Code=0 then
 (zO r_.l r_.an).bind fun r1=>
 some (af.mk 0 0 [] [] 0,aU.mk r_.l r_.an r_.aM r1) else
 some (af.mk 0 0 [] [] 0,r_)
def jz  (r_:aU) (s:List UInt8):Option aU:=if r_.bad.Code≠0 then
 some r_ else
 (pJ r_ s).bind fun r1=>
 bif !r1.1 then
 (uf r1.2).bind fun r2=>
 some r2.2 else
 some (aU.mk r1.2.l (ag (r1.2.an+1)) r1.2.aM r1.2.bad)
def rG  (l:List ax) (an:Int):Option Bool:=if an<(l.length:Int) then
 if 0≤an then
 if an<(l.length:Int) then
 if ((l.getD an.toNat ax.z).Kind)=1 then
 if 0≤an then
 if an<(l.length:Int) then
 (wU ((l.getD an.toNat ax.z).Text)).bind fun r1=>
 some (!r1) else none else none else
 some false else none else none else
 some false
def jU  (r_:aU):Option (Bool×aU):=if r_.aM=12 then
 if 0≤r_.an then
 if r_.an<(r_.l.length:Int) then
 some (false,aU.mk r_.l r_.an r_.aM (bf.mk 14 ((r_.l.getD r_.an.toNat ax.z).At))) else none else none else
 some (true,aU.mk r_.l (ag (r_.an+1)) (ag (r_.aM+1)) r_.bad)
abbrev rK:=aU→Int→Option (af×aU)
def kH (fS:rK)  (r_:aU):Option (af×aU):=if 0≤r_.an then
 if r_.an<(r_.l.length:Int) then
 if ((r_.l.getD r_.an.toNat ax.z).Kind)=2 then
 some (af.mk 1 ((r_.l.getD r_.an.toNat ax.z).N) [] [] ((r_.l.getD r_.an.toNat ax.z).At),aU.mk r_.l (ag (r_.an+1)) r_.aM r_.bad) else
 (pJ r_ jB).bind fun r1=>
 bif r1.1 then
 some (af.mk 3 0 [] [] ((r_.l.getD r_.an.toNat ax.z).At),aU.mk r1.2.l (ag (r1.2.an+1)) r1.2.aM r1.2.bad) else
 (pJ r1.2 gu).bind fun r2=>
 bif r2.1 then
 (jz (aU.mk r2.2.l (ag (r2.2.an+1)) r2.2.aM r2.2.bad) bK).bind fun r3=>
 if r3.bad.Code≠0 then
 some (af.mk 0 0 [] [] 0,r3) else
 (rG r3.l r3.an).bind fun r4=>
 bif !r4 then
 (uf r3).bind fun r5=>
 some (af.mk r5.1.Kind r5.1.N r5.1.Name r5.1.Kids r5.1.At,r5.2) else
 if 0≤r3.an then
 if r3.an<(r3.l.length:Int) then
 (jz (aU.mk r3.l (ag (r3.an+1)) r3.aM r3.bad) bw).bind fun r6=>
 some (af.mk 4 0 ((r3.l.getD r3.an.toNat ax.z).Text) [] ((r_.l.getD r_.an.toNat ax.z).At),r6) else none else none else
 (pJ r2.2 bK).bind fun r7=>
 bif r7.1 then
 (jU r7.2).bind fun r8=>
 bif !r8.1 then
 some (af.mk 0 0 [] [] 0,r8.2) else
 (fS r8.2 1).bind fun r9=>
 (jz r9.2 bw).bind fun cW=>
 some (af.mk r9.1.Kind r9.1.N r9.1.Name r9.1.Kids r9.1.At,aU.mk cW.l cW.an (ag (cW.aM - 1)) cW.bad) else
 (rG r7.2.l r7.2.an).bind fun di=>
 bif di then
 some (af.mk 2 0 ((r_.l.getD r_.an.toNat ax.z).Text) [] ((r_.l.getD r_.an.toNat ax.z).At),aU.mk r7.2.l (ag (r7.2.an+1)) r7.2.aM r7.2.bad) else
 (uf r7.2).bind fun cm=>
 some (af.mk cm.1.Kind cm.1.N cm.1.Name cm.1.Kids cm.1.At,cm.2) else none else none
abbrev TK:=aU→Option (af×aU)
def D5 (AH:TK) (fS:rK) (k:Nat) (r_:aU):Option (af×aU):=(pJ r_ dA).bind fun r1=>
 bif r1.1 then
 (pJ r1.2 gN).bind fun r2=>
 bif r2.1 then
 if (6:Int)=0 then
 (kH fS r2.2).bind fun r3=>
 some (af.mk r3.1.Kind r3.1.N r3.1.Name r3.1.Kids r3.1.At,r3.2) else
 if 0≤r2.2.an then
 if r2.2.an<(r2.2.l.length:Int) then
 (jU r2.2).bind fun r4=>
 bif !r4.1 then
 some (af.mk 0 0 [] [] 0,r4.2) else
 (AH r4.2).bind fun r5=>
 some (af.mk 6 0 [] [af.mk r5.1.Kind r5.1.N r5.1.Name r5.1.Kids r5.1.At] ((r2.2.l.getD r2.2.an.toNat ax.z).At),aU.mk r5.2.l r5.2.an (ag (r5.2.aM - 1)) r5.2.bad) else none else none else
 if (5:Int)=0 then
 (kH fS r2.2).bind fun r6=>
 some (af.mk r6.1.Kind r6.1.N r6.1.Name r6.1.Kids r6.1.At,r6.2) else
 if 0≤r2.2.an then
 if r2.2.an<(r2.2.l.length:Int) then
 (jU r2.2).bind fun r7=>
 bif !r7.1 then
 some (af.mk 0 0 [] [] 0,r7.2) else
 (AH r7.2).bind fun r8=>
 some (af.mk 5 0 [] [af.mk r8.1.Kind r8.1.N r8.1.Name r8.1.Kids r8.1.At] ((r2.2.l.getD r2.2.an.toNat ax.z).At),aU.mk r8.2.l r8.2.an (ag (r8.2.aM - 1)) r8.2.bad) else none else none else
 (pJ r1.2 gN).bind fun r9=>
 bif r9.1 then
 if (6:Int)=0 then
 (kH fS r9.2).bind fun cW=>
 some (af.mk cW.1.Kind cW.1.N cW.1.Name cW.1.Kids cW.1.At,cW.2) else
 if 0≤r9.2.an then
 if r9.2.an<(r9.2.l.length:Int) then
 (jU r9.2).bind fun di=>
 bif !di.1 then
 some (af.mk 0 0 [] [] 0,di.2) else
 (AH di.2).bind fun cm=>
 some (af.mk 6 0 [] [af.mk cm.1.Kind cm.1.N cm.1.Name cm.1.Kids cm.1.At] ((r9.2.l.getD r9.2.an.toNat ax.z).At),aU.mk cm.2.l cm.2.an (ag (cm.2.aM - 1)) cm.2.bad) else none else none else
 if (0:Int)=0 then
 (kH fS r9.2).bind fun dV=>
 some (af.mk dV.1.Kind dV.1.N dV.1.Name dV.1.Kids dV.1.At,dV.2) else
 if 0≤r9.2.an then
 if r9.2.an<(r9.2.l.length:Int) then
 (jU r9.2).bind fun iN=>
 bif !iN.1 then
 some (af.mk 0 0 [] [] 0,iN.2) else
 (AH iN.2).bind fun fW=>
 some (af.mk 0 0 [] [af.mk fW.1.Kind fW.1.N fW.1.Name fW.1.Kids fW.1.At] ((r9.2.l.getD r9.2.an.toNat ax.z).At),aU.mk fW.2.l fW.2.an (ag (fW.2.aM - 1)) fW.2.bad) else none else none
def mZ (fS:rK):Nat→aU→Option (af×aU)
 | 0,_=>none
 | k+1,x0=>D5 (mZ fS k) fS k x0
def zT (fS:rK)  (r_:aU):Option (af×aU):=ct (fun k (x:aU)=>mZ fS k x) r_
def iR  (level:Int) (own:Int) (kind:Int):Option Int:=if level=own then some kind else some 0
def D2  (level:Int) (s:List UInt8):Option Int:=if s=kR then
 (iR level 1 19).bind fun r1=>
 some r1 else
 if s=kP then
 (iR level 2 18).bind fun r2=>
 some r2 else
 if s=kY then
 (iR level 3 12).bind fun r3=>
 some r3 else
 if s=kZ then
 (iR level 3 13).bind fun r4=>
 some r4 else
 if s=kW then
 (iR level 3 14).bind fun r5=>
 some r5 else
 if s=kX then
 (iR level 3 15).bind fun r6=>
 some r6 else
 if s=kV then
 (iR level 3 16).bind fun r7=>
 some r7 else
 if s=kQ then
 (iR level 3 17).bind fun r8=>
 some r8 else
 if s=k9 then
 (iR level 4 10).bind fun r9=>
 some r9 else
 if s=dA then
 (iR level 4 11).bind fun cW=>
 some cW else
 if s=lf then
 (iR level 5 7).bind fun di=>
 some di else
 if s=ld then
 (iR level 5 8).bind fun cm=>
 some cm else
 if s=k8 then
 (iR level 5 9).bind fun dV=>
 some dV else
 some 0
mutual
def pI (fS:rK):Nat→(List ax)→Int→Int→Int→Int→Int→Int→Int→(List UInt8)→(List af)→Int→Int→Int→(List UInt8)→(List af)→Int→Option (af×aU)
 | 0,_,_,_,_,_,_,_,_,_,_,_,_,_,_,_,_=>none
 | k+1,iO,gq,jR,pF,rC,level,xH,xI,xJ,xG,xF,bR,bV,b8,bn,cq=>if pF=0 then
  if gq<(iO.length:Int) then
  if 0≤gq then
  if gq<(iO.length:Int) then
  if ((iO.getD gq.toNat ax.z).Kind)=3 then
  D4 fS k iO gq jR pF rC level xH xI xJ xG xF bR bV b8 bn cq else
  some (af.mk bR bV b8 bn cq,aU.mk iO gq jR (bf.mk pF rC)) else none else none else
  some (af.mk bR bV b8 bn cq,aU.mk iO gq jR (bf.mk pF rC)) else
  some (af.mk bR bV b8 bn cq,aU.mk iO gq jR (bf.mk pF rC))
def D4 (fS:rK):Nat→(List ax)→Int→Int→Int→Int→Int→Int→Int→(List UInt8)→(List af)→Int→Int→Int→(List UInt8)→(List af)→Int→Option (af×aU)
 | 0,_,_,_,_,_,_,_,_,_,_,_,_,_,_,_,_=>none
 | k+1,iO,gq,jR,pF,rC,level,xH,xI,xJ,xG,xF,bR,bV,b8,bn,cq=>if 0≤gq then
  if gq<(iO.length:Int) then
  (D2 level ((iO.getD gq.toNat ax.z).Text)).bind fun r3=>
  if r3=0 then
  some (af.mk bR bV b8 bn cq,aU.mk iO gq jR (bf.mk pF rC)) else
  if 0≤gq then
  if gq<(iO.length:Int) then
  (fS (aU.mk iO (ag (gq+1)) jR (bf.mk pF rC)) (ag (level+1))).bind fun r4=>
  if level=3 then
  some (af.mk r3 0 [] [af.mk bR bV b8 bn cq,af.mk r4.1.Kind r4.1.N r4.1.Name r4.1.Kids r4.1.At] ((iO.getD gq.toNat ax.z).At),r4.2) else
  pI fS k r4.2.l r4.2.an r4.2.aM r4.2.bad.Code r4.2.bad.At level xH xI xJ xG xF r3 0 [] [af.mk bR bV b8 bn cq,af.mk r4.1.Kind r4.1.N r4.1.Name r4.1.Kids r4.1.At] ((iO.getD gq.toNat ax.z).At) else none else none else none else none
end
def rJ (fS:rK) (k:Nat) (r_:aU) (level:Int):Option (af×aU):=if level=6 then
 (zT fS r_).bind fun r1=>
 some (af.mk r1.1.Kind r1.1.N r1.1.Name r1.1.Kids r1.1.At,r1.2) else
 (fS r_ (ag (level+1))).bind fun r2=>
 pI fS k r2.2.l r2.2.an r2.2.aM r2.2.bad.Code r2.2.bad.At level 0 0 [] [] 0 r2.1.Kind r2.1.N r2.1.Name r2.1.Kids r2.1.At
def gr:Nat→aU→Int→Option (af×aU)
 | 0,_,_=>none
 | k+1,x0,x1=>rJ (gr k) k x0 x1
end
end Go.Sy.Ex
namespace Go.Sy.Ex
open Go Go.Sy Go.Proofs Go.Proofs.YtabknfplmamfmaaGreatDoor
abbrev L7:List (String×DataW Unit):= [("math/bits.deBruijn32tab",Rows.laid_math_bits_deBruijn32tab),("math/bits.deBruijn64tab",Rows.laid_math_bits_deBruijn64tab),("internal/strconv.uint64pow10",Rows.laid_internal_strconv_uint64pow10),("strconv.ErrRange",Rows.laid_strconv_ErrRange),("strconv.ErrSyntax",Rows.laid_strconv_ErrSyntax)]
theorem GK:Tryz.prog.globalNamed "strconv.ErrRange" =some 2:=by kernel_rfl
theorem GL:Tryz.prog.globalNamed "strconv.ErrSyntax" =some 1:=by kernel_rfl
theorem Vi:(Tryz.prog.globals[2]?).map (·.type)=some 117:=by kernel_rfl
theorem Vj:(Tryz.prog.globals[1]?).map (·.type)=some 117:=by kernel_rfl
theorem star: "*" ++ "errors.errorString" = "*errors.errorString" :=by decide
theorem JD (u:TypeId) (h:Tryz.prog.typeName? 3 u=some "*errors.errorString"):u=197:=
 typeName_ptr_named (nm:= "errors.errorString") (by rw [star]; kernel_rfl) (by kernel_rfl) (by decide) u (by rw [star]; exact h)
theorem GM:Tryz.prog.globalNamed "internal/strconv.uint64pow10" =some 3:=by kernel_rfl
theorem Vk:(Tryz.prog.globals[3]?).map (·.type)=some 202:=by kernel_rfl
theorem RN {W:World} (h:W.ShapedOpen Tryz.prog): ∃ m,W.cell? ⟨0,0,none⟩=some (.int .i64 m):=
 cell_of_shapedOpen_int (t:=3) (zero:= #[.int .i64 0]) h (of_decide_eq_true (by kernel_rfl)) (by kernel_rfl) rfl (by kernel_rfl) (by kernel_rfl) Tryz.underlying3
theorem OM {W:World} {M:St} (hM:gT M) (hL:laidMetH Tryz.prog L7 W) (hsh:W.ShapedOpen Tryz.prog):iz S W M:=by
 rw [MakeChecks.laidMetH_plain _ _ _ (by kernel_rfl)] at hL
 have hT:Lib.TabIs Tryz.prog W "internal/strconv.uint64pow10" .u64 Lib.pow10Tab:=Lib.tabIs_of_head GM Vk Tryz.underlying202 Tryz.underlying157 (by kernel_rfl) (by kernel_rfl) hL.tail.tail
 obtain ⟨a0,s0,hv0, -, -, -⟩:=laid_sentinel hL.tail.tail.tail GK Vi Tryz.underlying117 JD Tryz.underlying197 Tryz.underlying199 rfl rfl Tryz.underlying9 (by kernel_rfl) (by kernel_rfl)
 have c1:=World.var?_cell GK hv0 0
 obtain ⟨a1,s1,hv1, -, -, -⟩:=laid_sentinel hL.tail.tail.tail.tail GL Vj Tryz.underlying117 JD Tryz.underlying197 Tryz.underlying199 rfl rfl Tryz.underlying9 (by kernel_rfl) (by kernel_rfl)
 have c0:=World.var?_cell GL hv1 0
 obtain ⟨m,c3⟩:=RN hsh
 refine ⟨fun g hg=> ?_,fun g hg=> ?_⟩
 · simp only [List.mem_cons,List.not_mem_nil,or_false] at hg
   rcases hg with rfl | rfl | rfl
   · exact ⟨World.block_lt_of_cell? _ _ c3,hM _ _,_,c3,m,rfl⟩
   · exact ⟨World.block_lt_of_cell? _ _ (by simpa using c1),hM _ _,_,by simpa using c1, .inr ⟨_,_,rfl⟩⟩
   · exact ⟨World.block_lt_of_cell? _ _ (by simpa using c0),hM _ _,_,by simpa using c0, .inr ⟨_,_,rfl⟩⟩
 · simp only [List.mem_cons,List.not_mem_nil,or_false] at hg
   subst hg
   unfold Lib.TabIs World.var? at hT
   rw [GM] at hT
   simp only [Option.bind_some] at hT
   split at hT
   · rename_i cs t f hb
     cases hT
     exact ⟨(Array.getElem?_eq_some_iff.1 hb).1,fun o=>hM _ _,_,hb,t,f,rfl⟩
   · cases hT
end Go.Sy.Ex
namespace Go.Sy.Ex
open Go Go.Sy Go.Proofs Go.Proofs.YtabknfplmamfmaaGreatDoor Go.ChangeShapes Go.WideShapes Go.RowKit
theorem Ud {H:Type} {enc:TypeId×Value→H} {a:Assume} {C:Checked} {os:Os} {f:FuncId} {fn:Func} {s:ChangeSpec} {conds:List PathCond} {apart fresh handsOn again:Bool} {X:World→Array Value→Prop}
 (hX: ∀ (w w':World) (args:Array Value),w.heap=w'.heap→X w args→X w' args)
 (own:ownKnob C.prog.godebug=none) (started:os.Started) (noInit:C.prog.inits.idxOf? f=none) (hfn:C.prog.funcs[f]? =some fn)
 (witness: ∃ (w:World) (tape:Tape) (i:Input),w.os=os∧(w.forCall tape i).Shaped C.prog∧i.vars= []∧Input.okWide C.prog (w.forCall tape i) .any w.heap.size f i∧
  ((s.pre enc C.prog fn conds apart (w.forCall tape i).memory i.args∧X (w.forCall tape i).memory i.args)∧sizedMet enc C.prog fn (OpenSpec.ofChange s) apart (w.forCall tape i).memory i.args)∧a.holds C.prog (lone (Frame.enter C.prog f i.args .normal) [] (w.forCall tape i)))
 (contract: ∀ (W:World) (base:Nat) (args:Array Value) (ds gs:List (DataW H)) (before:List MemPlace),
  (∀ (j:Nat) t v,fn.params[j]? =some t→args[j]? =some v→Value.okWide C.prog W .any base t v)→
  DataW.Whole enc C.prog fn.params.toList s.vars apart W args.toList ds gs before→
  conds.all (PathCond.test C.prog ⟨fn.params.toList,ds,s.plain.varTypes C.prog,gs⟩)=true→
  (DataW.weightsEach C.prog (fn.params.toList++s.plain.varTypes C.prog) (ds++gs)).all (· ≤reachBytes)=true→X W args→W.ShapedOpen C.prog→
  a.holds C.prog (lone (Frame.enter C.prog f args .normal) [] W)→
  Calls C.prog f args W fun e W'=> ∃ v,e= .returned v∧s.post enc C.prog fn apart fresh handsOn again W args v W'):
 ReturnsInHanded a C os f .any (fun w args=>(s.pre enc C.prog fn conds apart w args∧X w args)∧sizedMet enc C.prog fn (OpenSpec.ofChange s) apart w args) (s.post enc C.prog fn apart fresh handsOn again):=by
 refine returnsInHanded_of_calls own started noInit witness ?_
 intro w tape i _ hsh _ hok hpre hholds
 obtain ⟨_,_,_,fn',PG,_,_,_,_,hval⟩:=hok
 have e:fn'=fn:=Option.some.inj (PG.symm.trans hfn)
 subst e
 obtain ⟨⟨⟨ds,gs,before,hw,hc⟩,hx⟩,hz⟩:=hpre
 have hw':=DataW.Whole.of_heap (w':=w.forCall tape i) (by rfl) hw
 refine (contract (w.forCall tape i) w.heap.size i.args ds gs before hval hw' hc (hz.weights hw) (hX _ _ _ (by rfl) hx) hsh hholds).mono fun e W' ⟨v,he,hp⟩=> ?_
 subst he
 exact ChangeSpec.post_blind hp
set_option maxRecDepth 100000 in
theorem NI (os:Os) (args:Array Value):laidMetH Tryz.prog L7 ((World.laidAll Tryz.prog os L7).forCall (fun _ _=>0) ⟨#[],args,[]⟩).memory:=by
 rw [MakeChecks.laidMetH_plain _ _ _ (by kernel_rfl)]
 exact laidMet_laidAll _ (by kernel_rfl) (by kernel_rfl)
end Go.Sy.Ex
namespace Go.Sy.Ex
open Go.Sy
theorem KO (b:UInt8):((b.toNat:Nat):Int).toNat.toUInt8=b:=by
 rw [Int.toNat_natCast]; exact UInt8.ofNat_toNat
theorem MS (b:UInt8):(0≤Lib.indexByte Az b)↔((b.toNat:Int)=32∨(b.toNat:Int)=9∨(b.toNat:Int)=10∨(b.toNat:Int)=13):=by
 have h: ∀ n,n<256→((0≤Lib.indexByte Az (Nat.toUInt8 n))↔(((Nat.toUInt8 n).toNat:Int)=32∨((Nat.toUInt8 n).toNat:Int)=9∨((Nat.toUInt8 n).toNat:Int)=10∨((Nat.toUInt8 n).toNat:Int)=13)):=by decide+kernel
 have :=h b.toNat b.toNat_lt
 rwa [show Nat.toUInt8 b.toNat=b from UInt8.ofNat_toNat] at this
def isDigit (c:Int):Bool:=decide (48≤c∧c≤57)
def jM (c:Int):Bool:=decide ((97≤c∧c≤122)∨(65≤c∧c≤90)∨c=95)
theorem y9 (c:Int):mQ c=some (jM c||isDigit c,isDigit c):=by
 have fin: ∀ a b:Bool,((a=true)↔((97≤c∧c≤122)∨(65≤c∧c≤90)∨c=95)∨(48≤c∧c≤57))→((b=true)↔(48≤c∧c≤57))→some (a,b)=some (jM c||isDigit c,isDigit c):=by
  intro a b ha hb
  have e1:a=(jM c||isDigit c):=by
   rw [Bool.eq_iff_iff,ha]; simp [jM,isDigit]
  have e2:b=isDigit c:=by
   rw [Bool.eq_iff_iff,hb]; simp [isDigit]
  rw [e1,e2]
 unfold mQ
 repeat' split
 all_goals
  refine fin _ _ ?_ ?_
  · constructor
    · intro h; first | omega | (cases h)
    · intro h; first | rfl | (exfalso; omega)
  · constructor
    · intro h; first | omega | (cases h)
    · intro h; first | rfl | (exfalso; omega)
def cL:Bool→List UInt8→Nat→Nat
 | _,[],n=>n
 | true,b::t,n=>if b=10 then cL false t (n+1) else cL true t (n+1)
 | false,b::t,n=>if b=32∨b=9∨b=10∨b=13 then cL false t (n+1) else if b=35 then cL true t (n+1) else n
theorem AM: ∀ (t:List UInt8) (r:Bool) (n:Nat),n≤cL r t n∧cL r t n≤n+t.length:=by
 intro t
 induction t with
 | nil=>intro r n; cases r <;> exact ⟨Nat.le_refl _,Nat.le_refl _⟩
 | cons b t ih=>
  intro r n
  have h1:=ih true (n+1)
  have h2:=ih false (n+1)
  cases r
  · simp only [cL,List.length_cons]
    split
    · omega
    · split
      · omega
      · omega
  · simp only [cL,List.length_cons]
    split <;> omega
theorem sg (b:UInt8) (n:Nat) (hn:n<256):((b.toNat:Int)=(n:Int))↔b=Nat.toUInt8 n:=by
 constructor
 · intro h
   refine UInt8.toNat_inj.1 ?_
   have :(Nat.toUInt8 n).toNat=n:=by
    show n % 256=n
    omega
   omega
 · rintro rfl
   have :(Nat.toUInt8 n).toNat=n:=by
    show n % 256=n
    omega
   omega
theorem UX (t:List UInt8) (hl:t.length<200000000000000): ∀ m n,n+m=t.length→(∀ k,3*m+1≤k→mR k t ((n:Nat):Int)=some ((cL false (t.drop n) n:Nat):Int))∧ ∀ k,3*m+2≤k→o8 k t ((n:Nat):Int)=some ((cL true (t.drop n) n:Nat):Int):=by
 intro m
 induction m with
 | zero=>
  intro n h
  have hd:t.drop n= []:=List.drop_eq_nil_of_le (by omega)
  have h0: ∀ k,1≤k→mR k t ((n:Nat):Int)=some ((cL false (t.drop n) n:Nat):Int):=by
   intro k hk
   obtain ⟨k,rfl⟩: ∃ j,k=j+1:=⟨k - 1,by omega⟩
   simp only [mR]
   rw [if_neg (by omega),hd]; rfl
  refine ⟨fun k hk=>h0 k (by omega),fun k hk=> ?_⟩
  obtain ⟨k,rfl⟩: ∃ j,k=j+1:=⟨k - 1,by omega⟩
  simp only [o8]
  rw [if_neg (by omega),h0 k (by omega),hd]; rfl
 | succ m ih=>
  intro n h
  have hlt:n<t.length:=by omega
  obtain ⟨i0,i1⟩:=ih (n+1) (by omega)
  have e:ag ((n:Int)+1)=((n+1:Nat):Int):=by rw [bD (by omega) (by omega)]; omega
  have hd:t.drop n=t[n]::t.drop (n+1):=List.drop_eq_getElem_cons hlt
  have oH:((t[n].toNat:Nat):Int)=10↔t[n]=10:=sg t[n] 10 (by decide)
  have Nl:((t[n].toNat:Nat):Int)=32↔t[n]=32:=sg t[n] 32 (by decide)
  have c9:((t[n].toNat:Nat):Int)=9↔t[n]=9:=sg t[n] 9 (by decide)
  have Nj:((t[n].toNat:Nat):Int)=13↔t[n]=13:=sg t[n] 13 (by decide)
  have FH:((t[n].toNat:Nat):Int)=35↔t[n]=35:=sg t[n] 35 (by decide)
  have h0: ∀ k,3*(m+1)+1≤k→mR k t ((n:Nat):Int)=some ((cL false (t.drop n) n:Nat):Int):=by
   intro k hk
   obtain ⟨k,rfl⟩: ∃ j,k=j+1:=⟨k - 1,by omega⟩
   have g1:(n:Int)<(t.length:Int):=by omega
   have g0:0≤(n:Int):=by omega
   have l1:t[n]=35→o8 k t ((n:Nat):Int)=some ((cL true (t.drop (n+1)) (n+1):Nat):Int):=by
    intro hb
    obtain ⟨k,rfl⟩: ∃ j,k=j+1:=⟨k - 1,by omega⟩
    simp only [o8]
    rw [if_pos g1,if_pos g0,if_pos g1,Int.toNat_natCast,cO _ hlt,if_pos (by rw [hb]; decide),e]
    exact i1 k (by omega)
   simp only [mR,pg,aa,KO]
   simp only [g0,g1,if_true,Int.toNat_natCast,cO _ hlt,e]
   rw [hd,i0 k (by omega)]
   simp only [cL]
   have hb:=MS t[n]
   rw [Nl,c9,oH,Nj] at hb
   by_cases hx:0≤Lib.indexByte Az t[n]
   · rw [if_pos hx,if_pos (hb.1 hx)]
   · rw [if_neg hx,if_neg (fun q=>hx (hb.2 q))]
     by_cases vb:t[n]=35
     · rw [if_pos (FH.2 vb),if_pos vb,l1 vb]
     · rw [if_neg (fun q=>vb (FH.1 q)),if_neg vb]
  refine ⟨h0,fun k hk=> ?_⟩
  obtain ⟨k,rfl⟩: ∃ j,k=j+1:=⟨k - 1,by omega⟩
  simp only [o8]
  rw [if_pos (by omega),if_pos (by omega),if_pos (by omega),Int.toNat_natCast,cO _ hlt,e]
  by_cases u_:t[n]=10
  · rw [if_neg (fun q=>q (oH.2 u_)),h0 k (by omega),hd]
    simp only [cL]
    rw [if_pos (.inr (.inr (.inl u_))),if_pos u_]
  · rw [if_pos (fun q=>u_ (oH.1 q)),i1 k (by omega),hd]
    simp only [cL]
    rw [if_neg u_]
def dg (b:UInt8):Bool:=isDigit (b.toNat:Int)
def lt (b:UInt8):Bool:=jM (b.toNat:Int)
def nm (b:UInt8):Bool:=lt b||dg b
def dM (p:UInt8→Bool) (t:List UInt8) (n:Nat):Nat:=n+((t.drop n).takeWhile p).length
theorem Up {p:UInt8→Bool} {t:List UInt8} {n:Nat} (h:t.length≤n):dM p t n=n:=by
 unfold dM; rw [List.drop_eq_nil_of_le h]; rfl
theorem Ec {p:UInt8→Bool} {t:List UInt8} {n:Nat} (h:n<t.length) (hp:p t[n]=true):dM p t n=dM p t (n+1):=by
 unfold dM; rw [List.drop_eq_getElem_cons h,List.takeWhile_cons_of_pos hp]; simp only [List.length_cons]; omega
theorem Uo {p:UInt8→Bool} {t:List UInt8} {n:Nat} (h:n<t.length) (hp:p t[n]=false):dM p t n=n:=by
 unfold dM; rw [List.drop_eq_getElem_cons h,List.takeWhile_cons_of_neg (by simp [hp])]; rfl
theorem xw (p:UInt8→Bool): ∀ l:List UInt8,(l.takeWhile p).length≤l.length:=fun l=>by
 induction l with
 | nil=>exact Nat.le_refl _
 | cons a l ih=>rw [List.takeWhile_cons]; split <;> simp <;> omega
theorem ur (p:UInt8→Bool) (t:List UInt8) (n:Nat) (h:n≤t.length):n≤dM p t n∧dM p t n≤t.length:=by
 unfold dM
 have :=xw p (t.drop n)
 rw [List.length_drop] at this
 omega
theorem yc (p:UInt8→Bool) (t:List UInt8) (n:Nat):cut t ((n:Nat):Int) ((dM p t n:Nat):Int)=(t.drop n).takeWhile p:=by
 unfold cut dM
 rw [Int.toNat_natCast,Int.toNat_natCast,List.drop_take,Nat.add_sub_cancel_left]
 generalize t.drop n=l
 induction l with
 | nil=>rfl
 | cons a l ih => rw [List.takeWhile_cons]; split
                  · rw [List.length_cons,List.take_succ_cons,ih]
                  · rfl
theorem NT (t:List UInt8) (f:Bool) (hl:t.length<200000000000000): ∀ m n,n+m=t.length→ ∀ k,m+1≤k→rz k t ((n:Nat):Int) f=some ((dM (fun b=>bif f then dg b else nm b) t n:Nat):Int):=by
 intro m
 induction m with
 | zero=>
  intro n h k hk
  obtain ⟨k,rfl⟩: ∃ j,k=j+1:=⟨k - 1,by omega⟩
  simp only [rz]
  rw [if_neg (by omega),Up (by omega)]
 | succ m ih=>
  intro n h k hk
  obtain ⟨k,rfl⟩: ∃ j,k=j+1:=⟨k - 1,by omega⟩
  have hlt:n<t.length:=by omega
  have e:ag ((n:Int)+1)=((n+1:Nat):Int):=by rw [bD (by omega) (by omega)]; omega
  simp only [rz,y9,aa]
  rw [if_pos (by omega),if_pos (by omega),if_pos (by omega),Int.toNat_natCast,cO _ hlt,e,ih (n+1) (by omega) k (by omega)]
  have key: ∀ a b:Bool,lt t[n]=a→dg t[n]=b→(bif !(a||b) then some ((n:Nat):Int) else bif f then bif !b then some ((n:Nat):Int) else some ((dM (fun b=>bif f then dg b else nm b) t (n+1):Nat):Int) else some ((dM (fun b=>bif f then dg b else nm b) t (n+1):Nat):Int))=some ((dM (fun b=>bif f then dg b else nm b) t n:Nat):Int):=by
   intro a b ha hb
   cases f <;> cases a <;> cases b <;> simp only [Bool.or_self,Bool.not_true,Bool.not_false,Bool.or_true,Bool.true_or,Bool.or_false,Bool.false_or,cond_true,cond_false]
   all_goals
    first
     | (rw [Uo hlt ?_]; simp [nm,ha,hb]; done)
     | (rw [Ec hlt ?_]; simp [nm,ha,hb]; done)
  exact key _ _ rfl rfl
theorem F8 (t:List UInt8) (n:Nat) (hl:t.length<200000000000000) (h:n<t.length):ry t ((n:Nat):Int)=some ((dM (fun b=>bif dg t[n] then dg b else nm b) t n:Nat):Int):=by
 refine cu (t.length - n+1) fun k hk=> ?_
 simp only [Dd,y9,aa]
 rw [if_pos (by omega),if_pos (by omega),Int.toNat_natCast,cO _ h]
 exact NT t _ hl (t.length - n) n (by omega) k (by omega)
def uI (acc:Nat):List UInt8→Option Nat
 | []=>some acc
 | c::r=>if (9223372036854775807 - (c.toNat - 48)) / 10<acc then none else uI (10*acc+(c.toNat - 48)) r
theorem yg (b:UInt8):dg b=true↔48≤b.toNat∧b.toNat≤57:=by
 unfold dg isDigit
 rw [decide_eq_true_eq]
 omega
theorem MP: ∀ (l:List UInt8) (acc:Nat),(∀ c ∈ l,dg c=true)→9223372036854775808≤acc→Lib.parseUintM (2 ^ 64 - 1) acc l= .range∨ ∃ u,9223372036854775808≤u∧Lib.parseUintM (2 ^ 64 - 1) acc l= .ok u:=by
 intro l acc hd ha
 cases l with
 | nil=>exact .inr ⟨acc,ha,rfl⟩
 | cons c r=>
  refine .inl ?_
  have :=(yg c).1 (hd c (by simp))
  unfold Lib.parseUintM
  rw [if_pos this,if_pos (by omega)]
theorem Wi: ∀ (l:List UInt8) (acc:Nat),(∀ c ∈ l,dg c=true)→acc<9223372036854775808→
 (∀ v,uI acc l=some v→v<9223372036854775808∧Lib.parseUintM (2 ^ 64 - 1) acc l= .ok v)∧(uI acc l=none→Lib.parseUintM (2 ^ 64 - 1) acc l= .range∨ ∃ u,9223372036854775808≤u∧Lib.parseUintM (2 ^ 64 - 1) acc l= .ok u):=by
 intro l
 induction l with
 | nil=>intro acc _ ha; exact ⟨fun v h=>by cases h; exact ⟨ha,rfl⟩,fun h=>by cases h⟩
 | cons c r ih=>
  intro acc hd ha
  have hc:=(yg c).1 (hd c (by simp))
  have hr: ∀ c ∈ r,dg c=true:=fun x hx=>hd x (by simp [hx])
  unfold uI Lib.parseUintM
  rw [if_pos hc]
  by_cases h:(9223372036854775807 - (c.toNat - 48)) / 10<acc
  · rw [if_pos h]
    refine ⟨fun v h=>by (cases h),fun _=> ?_⟩
    by_cases h1:1844674407370955162≤acc
    · rw [if_pos h1]; exact .inl rfl
    · rw [if_neg h1]
      by_cases h2:2 ^ 64 - 1<acc*10+(c.toNat - 48)
      · rw [if_pos h2]; exact .inl rfl
      · rw [if_neg h2]
        exact MP r _ hr (by omega)
  · rw [if_neg h,if_neg (by omega),if_neg (by omega),show acc*10+(c.toNat - 48)=10*acc+(c.toNat - 48) by omega]
    exact ih _ hr (by omega)
def nT (l:List UInt8):Int×Int:=if 1<l.length∧l.getD 0 0=48 then (0,11) else match uI 0 l with | some v=>((v:Int),0) | none=>(0,16)
def numOf (l:List UInt8):Int×Int:=
 if (1<l.length∧l.getD 0 0=48) then (0,11) else match Lib.parseIntB 64 l with
  | .ok v=>(v,0)
  | _=>(0,16)
theorem R1 (l:List UInt8) (hl:l.length≤281474976710656):wo l=some (numOf l):=by
 have key:((pq l 10 64).bind fun r1=>bif !r1.2 then some ((0:Int),(16:Int)) else some (r1.1,0))=some (match Lib.parseIntB 64 l with
  | .ok v=>(v,0)
  | _=>(0,16)):=by
  unfold pq
  rw [if_pos ⟨hl,rfl,rfl⟩,aa]
  cases Lib.parseIntB 64 l <;> rfl
 have h0:(((l.getD (0:Int).toNat 0).toNat:Nat):Int)=48↔l.getD 0 0=48:=sg _ 48 (by decide)
 unfold wo numOf
 by_cases h1:1<l.length
 · rw [if_pos (by omega),if_pos (by omega),if_pos (by omega)]
   by_cases h2:l.getD 0 0=48
   · rw [if_pos (h0.2 h2),if_pos ⟨h1,h2⟩]
   · rw [if_neg (fun q=>h2 (h0.1 q)),if_neg (fun q=>h2 q.2),key]
 · rw [if_neg (by omega),if_neg (fun q=>h1 q.1),key]
theorem IC (l:List UInt8) (h0:l≠ []) (hd: ∀ c ∈ l,dg c=true):numOf l=nT l:=by
 unfold numOf nT
 by_cases h:1<l.length∧l.getD 0 0=48
 · rw [if_pos h,if_pos h]
 · rw [if_neg h,if_neg h]
   obtain ⟨c,r,rfl⟩: ∃ c r,l=c::r:=by cases l with
    | nil=>exact absurd rfl h0
    | cons c r=>exact ⟨c,r,rfl⟩
   have hc:=(yg c).1 (hd c (by simp))
   obtain ⟨v1,v2⟩:=Wi (c::r) 0 hd (by omega)
   have e:(∀ u,Lib.parseUintM (2 ^ 64 - 1) 0 (c::r)= .ok u→Lib.parseIntB 64 (c::r)=if 9223372036854775808≤u then .range else .ok (u:Int))∧(Lib.parseUintM (2 ^ 64 - 1) 0 (c::r)= .range→Lib.parseIntB 64 (c::r)= .range):=by
    unfold Lib.parseIntB Lib.parseUintB
    simp only []
    rw [if_neg (show ¬ (c.toNat=43∨c.toNat=45) by omega),if_neg (by simp)]
    constructor
    · intro u hu
      rw [hu]
      simp only [show ¬ c.toNat=45 by omega,not_false_eq_true,true_and,false_and,if_false]
    · intro hu
      rw [hu]
   cases hv:uI 0 (c::r) with
   | some v=>
    obtain ⟨a,b⟩:=v1 v hv
    rw [e.1 v b,if_neg (by omega)]
   | none=>
    rcases v2 hv with b | ⟨u,a,b⟩
    · rw [e.2 b]
    · rw [e.1 u b,if_pos a]
def iL:List (List UInt8):= [[45,62],[61,61],[33,61],[60,61],[62,61],[38,38],[124,124]]
def eC:List UInt8→Nat
 | []=>0
 | [b]=>if b ∈ lg then 1 else 0
 | b::c::_=>if [b,c] ∈ iL then 2 else if b ∈ lg then 1 else 0
theorem QI (l:List UInt8) (c:UInt8):0≤Lib.indexByte l c↔c ∈ l:=by
 induction l with
 | nil=>simp [Lib.indexByte]
 | cons b l ih=>
  unfold Lib.indexByte
  have hge:=Lib.indexByte_ge l c
  by_cases h:b=c
  · subst h; simp
  · rw [if_neg (by simpa using h)]
    rw [List.mem_cons]
    by_cases h1:Lib.indexByte l c= -1
    · rw [if_pos (by simp [h1])]
      constructor
      · intro x; omega
      · rintro (rfl | x)
        · exact absurd rfl h
        · have :=ih.2 x; omega
    · rw [if_neg (by simpa using h1)]
      constructor
      · intro x; exact .inr (ih.1 (by omega))
      · rintro (rfl | x)
        · exact absurd rfl h
        · have :=ih.2 x; omega
theorem contains_iff (s sub:List UInt8):Lib.contains s sub=true↔ ∃ i,i≤s.length∧Lib.occAt s sub i=true:=by
 unfold Lib.contains
 rw [decide_eq_true_eq]
 rcases Lib.index_spec s sub with ⟨h1,h2⟩ | ⟨i,h1,h2,h3,_⟩
 · constructor
   · intro h; omega
   · rintro ⟨i,hi,h⟩; rw [h2 i hi] at h; cases h
 · exact ⟨fun _=>⟨i,h2,h3⟩,fun _=>by omega⟩
theorem Sh (b c:UInt8) (hb:b≠32) (hc:c≠32):Lib.contains JS [b,c]=decide ([b,c] ∈ iL):=by
 rw [Bool.eq_iff_iff,contains_iff,decide_eq_true_eq]
 constructor
 · rintro ⟨i,hi,h⟩
   have hi':i=0∨i=1∨i=2∨i=3∨i=4∨i=5∨i=6∨i=7∨i=8∨i=9∨i=10∨i=11∨i=12∨i=13∨i=14∨i=15∨i=16∨i=17∨i=18∨i=19∨i=20:=by
    have :i≤20:=hi
    omega
   clear hi
   rcases hi' with rfl | rfl | rfl | rfl | rfl | rfl | rfl | rfl | rfl | rfl | rfl | rfl | rfl | rfl | rfl | rfl | rfl | rfl | rfl | rfl | rfl
   all_goals
    simp only [Lib.occAt,List.drop_succ_cons,List.drop_zero,List.drop_nil,List.isPrefixOf,Bool.and_true,Bool.and_eq_true,beq_iff_eq,Bool.and_false,Bool.false_eq_true,and_false] at h
   all_goals
    first
     | exact absurd h.1 hb
     | exact absurd h.2 hc
     | (obtain ⟨rfl,rfl⟩:=h; decide)
 · intro h
   simp only [iL,List.mem_cons,List.cons.injEq,and_true,List.not_mem_nil,or_false] at h
   rcases h with ⟨rfl,rfl⟩ | ⟨rfl,rfl⟩ | ⟨rfl,rfl⟩ | ⟨rfl,rfl⟩ | ⟨rfl,rfl⟩ | ⟨rfl,rfl⟩ | ⟨rfl,rfl⟩
   · exact ⟨0,by decide,by decide⟩
   · exact ⟨3,by decide,by decide⟩
   · exact ⟨6,by decide,by decide⟩
   · exact ⟨9,by decide,by decide⟩
   · exact ⟨12,by decide,by decide⟩
   · exact ⟨15,by decide,by decide⟩
   · exact ⟨18,by decide,by decide⟩
theorem NC (t:List UInt8) (n:Nat) (h:n+1<t.length):cut t ((n:Nat):Int) ((n+2:Nat):Int)= [t[n],t[n+1]]:=by
 unfold cut
 rw [Int.toNat_natCast,Int.toNat_natCast,List.drop_take,Nat.add_sub_cancel_left,List.drop_eq_getElem_cons (by omega:n<t.length),List.drop_eq_getElem_cons h]
 rfl
theorem UQ (t:List UInt8) (n:Nat) (h:n+1<t.length):eC (t.drop n)=if [t[n],t[n+1]] ∈ iL then 2 else if t[n] ∈ lg then 1 else 0:=by
 rw [List.drop_eq_getElem_cons (by omega:n<t.length),List.drop_eq_getElem_cons h]; rfl
theorem UP (t:List UInt8) (n:Nat) (h:n+1=t.length):eC (t.drop n)=if t[n] ∈ lg then 1 else 0:=by
 rw [List.drop_eq_getElem_cons (by omega:n<t.length),List.drop_eq_nil_of_le (by omega)]; rfl
theorem RY (b:UInt8): [b,(32:UInt8)] ∉ iL:=by
 simp only [iL,List.mem_cons,List.cons.injEq,and_true,List.not_mem_nil,or_false]
 rintro (⟨_,h⟩ | ⟨_,h⟩ | ⟨_,h⟩ | ⟨_,h⟩ | ⟨_,h⟩ | ⟨_,h⟩ | ⟨_,h⟩) <;> revert h <;> decide
theorem Wd (b:UInt8):b.toNat.toUInt8=b:=UInt8.ofNat_toNat
theorem RH (t:List UInt8) (n:Nat) (hl:t.length<200000000000000) (h:n<t.length) (hb:t[n]≠32):wq t ((n:Nat):Int)=some ((n+eC (t.drop n):Nat):Int):=by
 have e1:ag ((n:Int)+1)=((n+1:Nat):Int):=by rw [bD (by omega) (by omega)]; omega
 have e2:ag ((n:Int)+2)=((n+2:Nat):Int):=by rw [bD (by omega) (by omega)]; omega
 unfold wq
 simp only [pg,tG,aa,KO,e1,e2,Int.toNat_natCast,cO _ h,QI,Wd]
 have hone:(if t[n] ∈ lg then some ((n+1:Nat):Int) else some ((n:Nat):Int))=some ((n+(if t[n] ∈ lg then 1 else 0):Nat):Int):=by
  split <;> rfl
 by_cases h1:n+1<t.length
 · rw [if_pos (by omega),if_pos (by omega),if_pos (by omega),cO _ h1,UQ t n h1]
   by_cases hc:t[n+1]=32
   · rw [if_neg (by rw [hc]; decide),if_pos (by omega),if_pos (by omega),hc,if_neg (RY _),hone]
   · have gH:((t[n+1].toNat:Nat):Int)≠32:=fun q=>hc ((sg _ 32 (by decide)).1 q)
     rw [if_pos gH,if_pos (by omega),if_pos (by omega),if_pos (by omega),if_pos (by omega),NC t n h1,if_pos (by decide),aa,Sh _ _ hb hc]
     by_cases hp: [t[n],t[n+1]] ∈ iL
     · rw [if_pos hp,decide_eq_true hp]; rfl
     · rw [if_neg hp,decide_eq_false hp,cond_false,if_pos (by omega),if_pos (by omega),hone]
 · rw [if_neg (by omega),if_pos (by omega),if_pos (by omega),UP t n (by omega),hone]
def fm (t:List UInt8) (n:Nat):ax×Int:=
 if dg (t.getD n 0) then
  (let r:=nT ((t.drop n).takeWhile dg)
   if r.2≠0 then (ax.mk 0 0 0 [] 0,r.2) else (ax.mk 2 n (dM dg t n:Nat) ((t.drop n).takeWhile dg) r.1,0))
 else if lt (t.getD n 0) then
  (if n+24<dM nm t n then (ax.mk 0 0 0 [] 0,13) else (ax.mk 1 n (dM nm t n:Nat) ((t.drop n).takeWhile nm) 0,0))
 else if eC (t.drop n)=0 then (ax.mk 0 0 0 [] 0,10)
 else (ax.mk 3 n (n+eC (t.drop n):Nat) ((t.drop n).take (eC (t.drop n))) 0,0)
theorem xj (t:List UInt8):eC t≤t.length:=by
 unfold eC
 split
 · exact Nat.le_refl _
 · split <;> simp
 · split
   · simp
   · split <;> simp
theorem FT (t:List UInt8) (n j:Nat):cut t ((n:Nat):Int) ((n+j:Nat):Int)=(t.drop n).take j:=by
 unfold cut
 rw [Int.toNat_natCast,Int.toNat_natCast,List.drop_take,Nat.add_sub_cancel_left]
theorem KH (p:UInt8→Bool): ∀ l:List UInt8, ∀ c ∈ l.takeWhile p,p c=true:=by
 intro l
 induction l with
 | nil=>intro c hc; cases hc
 | cons a l ih=>
  intro c hc
  rw [List.takeWhile_cons] at hc
  split at hc
  · rcases List.mem_cons.1 hc with rfl | h
    · assumption
    · exact ih c h
  · cases hc
theorem R0 (t:List UInt8) (n:Nat) (h:n<t.length) (hd:dg t[n]=true):numOf ((t.drop n).takeWhile dg)=nT ((t.drop n).takeWhile dg):=by
 refine IC _ ?_ ?_
 · rw [List.drop_eq_getElem_cons h,List.takeWhile_cons_of_pos hd]; exact List.cons_ne_nil _ _
 · intro c hc; exact KH _ _ c hc
theorem RI (t:List UInt8) (n:Nat) (hl:t.length<200000000000000) (h:n<t.length) (hb:t[n]≠32):wz t ((n:Nat):Int)=some (fm t n):=by
 unfold wz fm
 simp only [y9,aa,Int.toNat_natCast,cO _ h,F8 t n hl h,RH t n hl h hb]
 have g0:(0:Int)≤(n:Int):=by omega
 have g1:(n:Int)<(t.length:Int):=by omega
 rw [if_pos g0,if_pos g1]
 have vH:isDigit ((t[n].toNat:Nat):Int)=dg t[n]:=rfl
 have hlt:jM ((t[n].toNat:Nat):Int)=lt t[n]:=rfl
 rw [vH,hlt]
 cases hd:dg t[n] with
 | true=>
  have r:=ur dg t n (by omega)
  simp only [cond_true,if_true]
  rw [show (fun b=>dg b)=dg from rfl,if_pos (by omega),if_pos (by omega),if_pos (by omega),if_pos (by omega)]
  have hc:cut t ((n:Nat):Int) ((dM dg t n:Nat):Int)=(t.drop n).takeWhile dg:=yc dg t n
  have hlen:((t.drop n).takeWhile dg).length≤281474976710656:=by
   have :=xw dg (t.drop n); rw [List.length_drop] at this; omega
  rw [hc,R1 _ hlen,aa,R0 t n h hd]
  by_cases hz:(nT ((t.drop n).takeWhile dg)).2≠0
  · rw [if_pos hz,if_pos hz]
  · rw [if_neg hz,if_neg hz,if_pos (by omega),if_pos (by omega),if_pos (by omega),if_pos (by omega)]
 | false=>
  simp only [cond_false,Bool.or_false,if_false,Bool.false_eq_true]
  cases hL:lt t[n] with
  | true=>
   have r:=ur nm t n (by omega)
   have hc:cut t ((n:Nat):Int) ((dM nm t n:Nat):Int)=(t.drop n).takeWhile nm:=yc nm t n
   simp only [cond_true,if_true]
   rw [show (fun b=>nm b)=nm from rfl,hc,bD (by omega) (by omega)]
   by_cases qx:n+24<dM nm t n
   · rw [if_pos (by omega),if_pos qx]
   · rw [if_neg (by omega),if_neg qx,if_pos (by omega),if_pos (by omega),if_pos (by omega),if_pos (by omega)]
  | false=>
   simp only [cond_false,if_false,Bool.false_eq_true]
   have hs:=xj (t.drop n)
   rw [List.length_drop] at hs
   rw [FT]
   by_cases hz:eC (t.drop n)=0
   · rw [if_pos (by omega),if_pos hz]
   · rw [if_neg (by omega),if_neg hz,if_pos (by omega),if_pos (by omega),if_pos (by omega),if_pos (by omega)]
theorem F0 (b:UInt8) (h:lt b=true):dg b=false:=by
 unfold lt jM at h
 unfold dg isDigit
 rw [decide_eq_true_eq] at h
 rw [decide_eq_false_iff_not]
 omega
theorem Iv (t:List UInt8) (n:Nat) (hl:t.length<200000000000000) (h:n≤t.length):wu t ((n:Nat):Int)=some ((cL false (t.drop n) n:Nat):Int):=
 cu (3*(t.length - n)+1) fun k hk=>(UX t hl (t.length - n) n (by omega)).1 k hk
theorem UU: ∀ (u:List UInt8) (r:Bool) (n j:Nat),cL r u n=n+j→j<u.length→u.getD j 0≠32:=by
 intro u
 induction u with
 | nil=>intro r n j _ h; simp at h
 | cons b u ih=>
  intro r n j hj h
  have go: ∀ r',cL r' u (n+1)=n+j→(b::u).getD j 0≠32:=by
   intro r' h'
   have :=(AM u r' (n+1)).1
   obtain ⟨j,rfl⟩: ∃ i,j=i+1:=⟨j - 1,by omega⟩
   rw [List.getD_cons_succ]
   refine ih r' (n+1) j (by omega) (by simpa using h)
  cases r with
  | true=>
   simp only [cL] at hj
   split at hj
   · exact go _ hj
   · exact go _ hj
  | false=>
   simp only [cL] at hj
   split at hj
   · exact go _ hj
   · split at hj
     · exact go _ hj
     · rename_i h1 h2
       obtain rfl:j=0:=by omega
       intro q
       exact h1 (.inl q)
theorem Kw (t:List UInt8) (n:Nat) (h:n<t.length) (hz:(fm t n).2=0): ∃ e:Nat,(fm t n).1.End=(e:Int)∧n<e∧e≤t.length∧(fm t n).1.At=(n:Int)∧(fm t n).1.Text=cut t ((n:Nat):Int) ((e:Nat):Int)∧(fm t n).1.Kind≠4:=by
 revert hz
 unfold fm
 rw [cO _ h]
 by_cases hD:dg t[n]=true
 · rw [if_pos hD]
   simp only []
   split
   · intro hz; rename_i q; exact absurd hz q
   · intro _
     refine ⟨dM dg t n,rfl, ?_,(ur dg t n (by omega)).2,rfl,(yc dg t n).symm,fun q=>absurd (show (2:Int)=4 from q) (by decide)⟩
     rw [Ec h hD]; exact (ur dg t (n+1) (by omega)).1
 · rw [if_neg hD]
   by_cases hL:lt t[n]=true
   · rw [if_pos hL]
     split
     · intro hz; exact absurd hz (by decide)
     · intro _
       refine ⟨dM nm t n,rfl, ?_,(ur nm t n (by omega)).2,rfl,(yc nm t n).symm,fun q=>absurd (show (1:Int)=4 from q) (by decide)⟩
       rw [Ec h (by simp [nm,hL])]; exact (ur nm t (n+1) (by omega)).1
   · rw [if_neg hL]
     have hs:=xj (t.drop n)
     rw [List.length_drop] at hs
     split
     · intro hz; exact absurd hz (by decide)
     · intro _
       exact ⟨n+eC (t.drop n),rfl,by omega,by omega,rfl,(FT t n _).symm,fun q=>absurd (show (3:Int)=4 from q) (by decide)⟩
def j7:Nat→List UInt8→List ax→Nat→List ax×bf
 | 0,_,_,_=>([],bf.mk 0 0)
 | k+1,t,l,n=>if n<t.length then
  (if (fm t n).2≠0 then ([],bf.mk (fm t n).2 n) else j7 k t (l++ [(fm t n).1]) (cL false (t.drop (fm t n).1.End.toNat) (fm t n).1.End.toNat))
  else (l++ [ax.mk 4 n n [] 0],bf.mk 0 0)
def oF (t:List UInt8):List ax×bf:=
 if 16384<t.length then ([],bf.mk 13 16384) else j7 (t.length+1) t [] (cL false t 0)
theorem GF (t:List UInt8) (n:Nat) (h:n≤t.length) (hs:cL false (t.drop n) n<t.length):t[cL false (t.drop n) n]≠32:=by
 have h1:=(AM (t.drop n) false n).1
 have :=UU (t.drop n) false n (cL false (t.drop n) n - n) (by omega) (by rw [List.length_drop]; omega)
 rw [cO _ (by rw [List.length_drop]; omega),List.getElem_drop] at this
 have e:n+(cL false (t.drop n) n - n)=cL false (t.drop n) n:=by omega
 simpa only [e] using this
theorem Mr (t:List UInt8) (hl:t.length≤16384): ∀ m n,t.length≤n+m→n≤t.length→(∀ h:n<t.length,t[n]≠32)→ ∀ l:List ax,l.length≤n→ ∀ k k',m+1≤k→m+1≤k'→
 ru k t 0 0 l ((n:Nat):Int)=some (j7 k' t l n):=by
 intro m
 induction m with
 | zero=>
  intro n h hn _ l P1 k k' hk hk'
  obtain ⟨k,rfl⟩: ∃ j,k=j+1:=⟨k - 1,by omega⟩
  obtain ⟨k',rfl⟩: ∃ j,k'=j+1:=⟨k' - 1,by omega⟩
  simp only [ru,j7,List.length_cons,List.length_nil]
  rw [if_neg (by omega),if_pos (by omega),if_neg (by omega)]
 | succ m ih=>
  intro n h hn hb l P1 k k' hk hk'
  obtain ⟨k,rfl⟩: ∃ j,k=j+1:=⟨k - 1,by omega⟩
  obtain ⟨k',rfl⟩: ∃ j,k'=j+1:=⟨k' - 1,by omega⟩
  by_cases hlt:n<t.length
  · have hi:(n:Int)<(t.length:Int):=by omega
    have Pp:(l.length+(0+1))*48≤140737488355328:=by omega
    simp only [ru,j7,List.length_cons,List.length_nil,hi,hlt,if_true,RI t n (by omega) hlt (hb hlt),aa,Pp]
    by_cases hz:(fm t n).2=0
    · simp only [hz,ne_eq,not_true_eq_false,if_false]
      obtain ⟨e,he,h1,h2,_⟩:=Kw t n hlt hz
      simp only [he,Iv t e (by omega) h2,aa,Int.toNat_natCast]
      have hg:=AM (t.drop e) false e
      rw [List.length_drop] at hg
      exact ih _ (by omega) (by omega) (fun hh=>GF t e h2 hh) _ (by rw [List.length_append,List.length_singleton]; omega) k k' (by omega) (by omega)
    · simp only [hz,ne_eq,not_false_eq_true,if_true]
  · simp only [ru,j7,List.length_cons,List.length_nil]
    rw [if_neg (by omega),if_pos (by omega),if_neg hlt]
theorem HZ (t:List UInt8):zj t=some (oF t):=by
 refine cu (t.length+1) fun k hk=> ?_
 unfold Da oF
 by_cases hl:16384<t.length
 · rw [if_pos (by omega),if_pos hl]
 · have hg:=AM t false 0
   rw [if_neg (by omega),if_neg hl,show (0:Int)=((0:Nat):Int) from rfl,Iv t 0 (by omega) (Nat.zero_le _),aa]
   exact (Mr t (by omega) t.length _ (by omega) (by rw [List.drop_zero]; omega) (fun hh=>GF t 0 (Nat.zero_le _) hh) [] (Nat.zero_le _) k _ (by omega) (by omega))
theorem Mq (t:List UInt8): ∀ k l n,(j7 k t l n).1.length≤l.length+k:=by
 intro k
 induction k with
 | zero=>intro l n; simp [j7]
 | succ k ih=>
  intro l n
  simp only [j7]
  split
  · split
    · simp
    · refine Nat.le_trans (ih _ _) ?_
      simp; omega
  · simp
theorem Fj (t:List UInt8):(oF t).1.length≤16385:=by
 unfold oF
 split
 · simp
 · have :=Mq t (t.length+1) [] (cL false t 0)
   simp at this
   omega
abbrev nq:List (List UInt8):= [AD,Ac,Aj,AB,Ao,AF,Aw,AE,AA,Av,Ap,Ak,Al,Am,Au,Ad,ir,iw,jZ,kS,j0,kU,iW,gu,Aq,Ay,An,Ax,Ah,Ae,Ag,Ar,Ai,Af,Ei]
def fI (s:List UInt8):Bool:=decide (s ∈ nq)
theorem Wn:nq.length=35:=rfl
theorem Dh (s:List UInt8):nR s=some (fI s):=by
 unfold nR
 by_cases hr:fI s=true
 · rw [hr]
   have hm:s ∈ nq:=of_decide_eq_true hr
   simp only [nq,List.mem_cons,List.not_mem_nil,or_false] at hm
   rcases hm with rfl | rfl | rfl | rfl | rfl | rfl | rfl | rfl | rfl | rfl | rfl | rfl | rfl | rfl | rfl | rfl | rfl | rfl | rfl | rfl | rfl | rfl | rfl | rfl | rfl | rfl | rfl | rfl | rfl | rfl | rfl | rfl | rfl | rfl | rfl <;> decide+kernel
 · have hr':fI s=false:=by simpa using hr
   have hm:s ∉ nq:=of_decide_eq_false hr'
   rw [hr']
   simp only [nq,List.mem_cons,List.not_mem_nil,or_false,not_or] at hm
   simp only [hm,if_false]
def bT (s:List UInt8):Bool:=decide (s≠ []∧s.length≤24)&& !fI s&&lt (s.getD 0 0)&&s.all nm
theorem Ms (p:UInt8→Bool): ∀ l:List UInt8,(l.takeWhile p).length=l.length↔l.all p=true:=by
 intro l
 induction l with
 | nil=>simp
 | cons a l ih=>
  rw [List.takeWhile_cons]
  cases h:p a with
  | true=>simp only [if_true,List.length_cons,List.all_cons,h,Bool.true_and, ← ih]; omega
  | false=>simp [h]
theorem wA (s:List UInt8) (hl:s.length<200000000000000):lY s=some (bT s):=by
 unfold lY bT
 by_cases h0:s= []
 · subst h0; rw [if_pos rfl]; rfl
 · rw [if_neg h0]
   have hlen:0<s.length:=List.length_pos_iff.2 h0
   by_cases qx:24<s.length
   · rw [if_pos (by omega),decide_eq_false (fun q=>by omega)]; simp
   · rw [if_neg (by omega),Dh,aa,decide_eq_true ⟨h0,by omega⟩]
     cases hr:fI s with
     | true=>simp
     | false=>
      rw [cond_false,if_pos (by omega),if_pos (by omega),y9,aa]
      have vH:isDigit ((((s.getD (0:Int).toNat 0)).toNat:Nat):Int)=dg s[0]:=by
       rw [show (0:Int).toNat=0 from rfl,cO _ hlen]; rfl
      rw [vH,cO _ hlen]
      cases hd:dg s[0] with
      | true=>
       have :lt s[0]=false:=by
        cases hL:lt s[0] with
        | false=>rfl
        | true=>rw [F0 _ hL] at hd; cases hd
       rw [this]; simp
      | false=>
       rw [Bool.not_false,cond_true,show (0:Int)=((0:Nat):Int) from rfl,F8 s 0 hl hlen,aa,hd]
       congr 1
       rw [show (fun b=>bif false then dg b else nm b)=nm from rfl]
       have ha:=Ms nm s
       cases hall:s.all nm with
       | true=>
        have hL:lt s[0]=true:=by
         have :=List.all_eq_true.1 hall s[0] (List.getElem_mem hlen)
         simpa [nm,hd] using this
        rw [hL]
        have :=ha.2 hall
        unfold dM
        rw [List.drop_zero,decide_eq_true (by omega)]
        rfl
       | false=>
        have : ¬ (s.takeWhile nm).length=s.length:=fun q=>by rw [ha.1 q] at hall; cases hall
        unfold dM
        rw [List.drop_zero,decide_eq_false (by omega)]
        simp
theorem RZ {b:UInt8} (h:lt b=true∨dg b=true): ¬ (b=32∨b=9∨b=10∨b=13)∧b≠35:=by
 refine ⟨?_, ?_⟩
 · rintro (rfl | rfl | rfl | rfl) <;> rcases h with h | h <;> exact absurd h (by decide)
 · rintro rfl; rcases h with h | h <;> exact absurd h (by decide)
end Go.Sy.Ex
namespace Go.Sy.Ex
open Go.Sy
abbrev Tk:=Int×List UInt8×Int
def strip (t:ax):Tk:=(t.Kind,t.Text,t.N)
def mN (b:UInt8):Bool:=decide (b=32∨b=9∨b=10∨b=13)
def eL (u:List UInt8):List UInt8:=u.dropWhile mN
def mM:List UInt8→Option (Tk×Nat)
 | []=>none
 | b::u=>if dg b then
  (let r:=nT ((b::u).takeWhile dg)
   if r.2≠0 then none else some ((2,(b::u).takeWhile dg,r.1),((b::u).takeWhile dg).length))
  else if lt b then (if 24<((b::u).takeWhile nm).length then none else some ((1,(b::u).takeWhile nm,0),((b::u).takeWhile nm).length))
  else if eC (b::u)=0 then none
  else some ((3,(b::u).take (eC (b::u)),0),eC (b::u))
theorem s_ (b : UInt8) (u : List UInt8) : mM (b :: u) = if dg b then
      (let r:=nT ((b::u).takeWhile dg)
       if r.2≠0 then none else some ((2,(b::u).takeWhile dg,r.1),((b::u).takeWhile dg).length))
 else if lt b then (if 24<((b::u).takeWhile nm).length then none else some ((1,(b::u).takeWhile nm,0),((b::u).takeWhile nm).length))
 else if eC (b::u)=0 then none
 else some ((3,(b::u).take (eC (b::u)),0),eC (b::u)):=rfl
inductive ga:Nat→List UInt8→List ax→Prop
 | nil {n:Nat} {u:List UInt8} :eL u= []→ga n u []
 | cons {n:Nat} {u v:List UInt8} {tk:Tk} {m:Nat} {L:List ax} :eL u=v→v≠ []→mM v=some (tk,m)→
  ga (n+(u.length - v.length)+m) (v.drop m) L→ga n u (⟨tk.1,(n+(u.length - v.length):Nat),(n+(u.length - v.length)+m:Nat),tk.2.1,tk.2.2⟩::L)
theorem Py (t:List UInt8) (n:Nat) (h:n<t.length):mM (t.drop n)=if (fm t n).2≠0 then none else some (strip (fm t n).1,((fm t n).1.End - n).toNat):=by
 have hd:t.drop n=t[n]::t.drop (n+1):=List.drop_eq_getElem_cons h
 unfold fm
 rw [cO _ h]
 conv=>lhs; rw [hd]
 rw [s_, ← hd]
 by_cases hD:dg t[n]=true
 · rw [if_pos hD,if_pos hD]
   simp only []
   by_cases hz:(nT ((t.drop n).takeWhile dg)).2≠0
   · simp only [hz,ne_eq,not_false_eq_true,if_true]
   · simp only [hz,if_false,strip,ne_eq,not_true_eq_false]
     congr 2
     unfold dM
     omega
 · rw [if_neg hD,if_neg hD]
   by_cases hL:lt t[n]=true
   · rw [if_pos hL,if_pos hL]
     unfold dM
     by_cases qx:24<((t.drop n).takeWhile nm).length
     · have :n+24<n+((t.drop n).takeWhile nm).length:=by omega
       simp only [qx,this,if_true,ne_eq]
       rw [if_pos (by decide)]
     · have : ¬ n+24<n+((t.drop n).takeWhile nm).length:=by omega
       simp only [qx,this,if_false,ne_eq,not_true_eq_false,strip]
       congr 2
       omega
   · rw [if_neg hL,if_neg hL]
     by_cases hs:eC (t.drop n)=0
     · simp only [hs,if_true,ne_eq]
       rw [if_pos (by decide)]
     · simp only [hs,if_false,ne_eq,not_true_eq_false,strip]
       congr 2
       omega
theorem Px {v:List UInt8} {tk:Tk} {m:Nat} (h:mM v=some (tk,m)):1≤m∧m≤v.length:=by
 cases v with
 | nil=>cases h
 | cons b u=>
  rw [s_] at h
  by_cases hD:dg b=true
  · rw [if_pos hD] at h
    simp only [] at h
    split at h
    · cases h
    · cases h
      have :=xw dg (b::u)
      rw [List.takeWhile_cons_of_pos hD] at this ⊢
      exact ⟨by simp,this⟩
  · rw [if_neg hD] at h
    by_cases hL:lt b=true
    · rw [if_pos hL] at h
      split at h
      · cases h
      · cases h
        have :=xw nm (b::u)
        rw [List.takeWhile_cons_of_pos (by simp [nm,hL])] at this ⊢
        exact ⟨by simp,this⟩
    · rw [if_neg hL] at h
      split at h
      · cases h
      · rename_i hs
        cases h
        exact ⟨by omega,xj _⟩
theorem AL (u:List UInt8): ∃ p,u=p++eL u∧p.all mN=true:=by
 induction u with
 | nil=>exact ⟨[],rfl,rfl⟩
 | cons b u ih=>
  unfold eL
  by_cases hb:mN b=true
  · rw [List.dropWhile_cons_of_pos hb]
    obtain ⟨p,h1,h2⟩:=ih
    exact ⟨b::p,by rw [List.cons_append]; congr 1,by simp [hb,h2]⟩
  · rw [List.dropWhile_cons_of_neg hb]
    exact ⟨[],rfl,rfl⟩
theorem Eo: ∀ (p u:List UInt8) (n:Nat),p.all mN=true→cL false (p++u) n=cL false u (n+p.length)
 | [],u,n,_=>rfl
 | b::p,u,n,h=>by
  simp only [List.all_cons,Bool.and_eq_true] at h
  have hb:b=32∨b=9∨b=10∨b=13:=of_decide_eq_true h.1
  rw [List.cons_append]
  simp only [cL]
  rw [if_pos hb,Eo p u (n+1) h.2,List.length_cons,Nat.add_assoc,Nat.add_comm 1]
theorem UW {b:UInt8} {u:List UInt8} {n:Nat} (h1:mN b=false) (h2:b≠35):cL false (b::u) n=n:=by
 have hb: ¬ (b=32∨b=9∨b=10∨b=13):=of_decide_eq_false h1
 simp only [cL]
 rw [if_neg hb,if_neg h2]
theorem PA {u:List UInt8} :mM (35::u)=none:=by
 rw [s_,if_neg (by decide),if_neg (by decide),if_pos]
 cases u with
 | nil=>rfl
 | cons c u=>
  show (if [35,c] ∈ iL then 2 else if (35:UInt8) ∈ lg then 1 else 0)=0
  rw [if_neg,if_neg (by decide)]
  simp only [iL,List.mem_cons,List.cons.injEq,and_true,List.not_mem_nil,or_false]
  rintro (⟨h,_⟩ | ⟨h,_⟩ | ⟨h,_⟩ | ⟨h,_⟩ | ⟨h,_⟩ | ⟨h,_⟩ | ⟨h,_⟩) <;> revert h <;> decide
theorem UT {u:List UInt8} {b:UInt8} {v:List UInt8} (h:eL u=b::v):mN b=false:=by
 induction u with
 | nil=>cases h
 | cons c u ih=>
  unfold eL at h
  by_cases hc:mN c=true
  · rw [List.dropWhile_cons_of_pos hc] at h; exact ih h
  · rw [List.dropWhile_cons_of_neg hc] at h
    cases h
    simpa using hc
theorem Su {t:List UInt8} {n:Nat} {u:List UInt8} {L:List ax} (h:ga n u L):t.drop n=u→n≤t.length→ ∀ k l,t.length≤n+k→
 j7 (k+1) t l (cL false (t.drop n) n)=(l++L++ [ax.mk 4 t.length t.length [] 0],bf.mk 0 0):=by
 induction h with
 | @nil n u hs=>
  intro hu hn k l hk
  obtain ⟨p,h1,h2⟩:=AL u
  rw [hs,List.append_nil] at h1
  subst h1
  have hl:u.length=t.length - n:=by rw [← hu,List.length_drop]
  have :cL false (t.drop n) n=t.length:=by
   rw [hu]
   have :=Eo u [] n h2
   rw [List.append_nil] at this
   rw [this]
   show n+u.length=_
   omega
  rw [this]
  simp only [j7]
  rw [if_neg (by omega),List.append_nil]
 | @cons n u v tk m L hs hv hh hp ih=>
  intro hu hn k l hk
  obtain ⟨p,h1,h2⟩:=AL u
  rw [hs] at h1
  have hl:u.length=t.length - n:=by rw [← hu,List.length_drop]
  have P2:u.length=p.length+v.length:=by rw [h1,List.length_append]
  obtain ⟨b,v',rfl⟩: ∃ b v',v=b::v':=by
   cases v with
   | nil=>exact absurd rfl hv
   | cons b v'=>exact ⟨b,v',rfl⟩
  have hb:=UT hs
  have hne:b≠35:=fun e=>by subst e; rw [PA] at hh; cases hh
  have hq:u.length - (b::v').length=p.length:=by omega
  simp only [hq] at ih ⊢
  have hpos:cL false (t.drop n) n=n+p.length:=by
   rw [hu,h1,Eo p _ n h2,UW hb hne]
  have hlt:n+p.length<t.length:=by simp only [List.length_cons] at P2; omega
  have He:t.drop (n+p.length)=b::v':=by
   rw [← List.drop_drop,hu,h1]
   simp
  have tq:=Py t (n+p.length) hlt
  rw [He,hh] at tq
  have hz:(fm t (n+p.length)).2=0:=by
   by_cases hz:(fm t (n+p.length)).2=0
   · exact hz
   · rw [if_pos hz] at tq; cases tq
  rw [if_neg (by simp [hz])] at tq
  obtain ⟨e,he,h3,h4,cG,vV,_⟩:=Kw t (n+p.length) hlt hz
  simp only [Option.some.injEq,Prod.mk.injEq] at tq
  obtain ⟨htk,hm⟩:=tq
  rw [he] at hm
  have hme:e=n+p.length+m:=by omega
  have Qr:(fm t (n+p.length)).1=⟨tk.1,(n+p.length:Nat),(n+p.length+m:Nat),tk.2.1,tk.2.2⟩:=by
   rw [htk]
   unfold strip
   generalize fm t (n+p.length)=x at *
   obtain ⟨⟨a1,a2,a3,a4,a5⟩,a6⟩:=x
   dsimp only at *
   rw [cG,he,hme]
  obtain ⟨k,rfl⟩: ∃ j,k=j+1:=⟨k - 1,by omega⟩
  rw [hpos]
  conv=>lhs; unfold j7
  rw [if_pos hlt,if_neg (by simp [hz]),Qr]
  dsimp only
  rw [Int.toNat_natCast]
  have :=ih (by rw [← He,List.drop_drop]) (by omega) k (l++ [⟨tk.1,(n+p.length:Nat),(n+p.length+m:Nat),tk.2.1,tk.2.2⟩]) (by omega)
  rw [this]
  simp [List.append_assoc]
theorem Sv {t:List UInt8} {L:List ax} (h:ga 0 t L) (hl:t.length≤16384):oF t=(L++ [ax.mk 4 t.length t.length [] 0],bf.mk 0 0):=by
 unfold oF
 rw [if_neg (by omega)]
 have :=Su (t:=t) h rfl (Nat.zero_le _) t.length [] (by omega)
 rw [List.drop_zero,List.nil_append] at this
 exact this
def iX (a b:List UInt8):Bool:=match a.getLast?,b.head? with
 | some x,some y=> !(nm x&&nm y)&& !decide ([x,y] ∈ iL)
 | _,_=>true
theorem Kv {p:UInt8→Bool} : ∀ (v b:List UInt8),(v.takeWhile p).length<v.length∨(∀ y,b.head?=some y→p y=false)→(v++b).takeWhile p=v.takeWhile p
 | [],b,h=>by
  rcases h with h | h
  · simp at h
  · cases b with
    | nil=>rfl
    | cons y b=>rw [List.nil_append,List.takeWhile_cons_of_neg (by simp [h y rfl])]; rfl
 | x::v,b,h=>by
  rw [List.cons_append]
  by_cases hx:p x=true
  · rw [List.takeWhile_cons_of_pos hx,List.takeWhile_cons_of_pos hx] at *
    rw [Kv v b (h.imp (fun h=>by simpa using h) id)]
  · rw [List.takeWhile_cons_of_neg hx,List.takeWhile_cons_of_neg hx]
theorem Vv {p:UInt8→Bool} {v:List UInt8} (h: ¬ (v.takeWhile p).length<v.length): ∀ x,v.getLast?=some x→p x=true:=by
 have :v.takeWhile p=v:=by
  have hle:=xw p v
  have hpre:v.takeWhile p <+: v:=List.takeWhile_prefix p
  exact hpre.eq_of_length (by omega)
 intro x hx
 have hm:x ∈ v:=List.mem_of_getLast? hx
 rw [← this] at hm
 exact KH p v x hm
theorem Pw {v b:List UInt8} {tk:Tk} {m:Nat} (h:mM v=some (tk,m)) (hs:m<v.length∨iX v b=true):mM (v++b)=some (tk,m):=by
 cases v with
 | nil=>cases h
 | cons c u=>
  have hno: ∀ (p:UInt8→Bool),(∀ x,p x=true→nm x=true)→p c=true→(m=((c::u).takeWhile p).length)→((c::u)++b).takeWhile p=(c::u).takeWhile p:=by
   intro p hp hc hm
   refine Kv _ _ ?_
   by_cases hlt:((c::u).takeWhile p).length<(c::u).length
   · exact .inl hlt
   · refine .inr fun y hy=> ?_
     rcases hs with hs | hs
     · omega
     · obtain ⟨x,hx⟩: ∃ x,(c::u).getLast?=some x:=⟨_,List.getLast?_eq_some_getLast (by simp)⟩
       have hpx:=hp x (Vv hlt x hx)
       unfold iX at hs
       rw [hx,hy] at hs
       dsimp only at hs
       rw [Bool.and_eq_true,hpx] at hs
       cases hq:p y with
       | false=>rfl
       | true=>rw [hp y hq] at hs; cases hs.1
  rw [List.cons_append]
  rw [s_] at h ⊢
  by_cases hD:dg c=true
  · rw [if_pos hD] at h ⊢
    simp only [] at h ⊢
    have hm:m=((c::u).takeWhile dg).length:=by
     split at h
     · cases h
     · cases h; rfl
    have :=hno dg (fun x hx=>by simp [nm,hx]) hD hm
    rw [List.cons_append] at this
    rw [this]
    exact h
  · rw [if_neg hD] at h ⊢
    by_cases hL:lt c=true
    · rw [if_pos hL] at h ⊢
      have hm:m=((c::u).takeWhile nm).length:=by
       split at h
       · cases h
       · cases h; rfl
      have :=hno nm (fun x hx=>hx) (by simp [nm,hL]) hm
      rw [List.cons_append] at this
      rw [this]
      exact h
    · rw [if_neg hL] at h ⊢
      have hm:m=eC (c::u)∧eC (c::u)≠0:=by
       split at h
       · cases h
       · rename_i hz; cases h; exact ⟨rfl,hz⟩
      have hsame:eC (c::(u++b))=eC (c::u):=by
       cases u with
       | cons d u=>rfl
       | nil=>
        cases b with
        | nil=>rfl
        | cons y b=>
         show (if [c,y] ∈ iL then 2 else if c ∈ lg then 1 else 0)=if c ∈ lg then 1 else 0
         rw [if_neg]
         rcases hs with hs | hs
         · have :eC [c]≤1:=xj [c]
           have h1:m=eC [c]:=hm.1
           have h2:eC [c]≠0:=hm.2
           simp only [List.length_cons,List.length_nil] at hs
           omega
         · unfold iX at hs
           simp only [List.getLast?_singleton,List.head?_cons,Bool.and_eq_true,Bool.not_eq_true',decide_eq_false_iff_not] at hs
           exact hs.2
      have qX:(c::(u++b)).take (eC (c::u))=(c::u).take (eC (c::u)):=by
       rw [← List.cons_append,List.take_append_of_le_length (xj _)]
      rw [hsame,qX]
      exact h
theorem JX {p v b:List UInt8} (hv:v≠ []):iX (p++v) b=iX v b:=by
 unfold iX
 rw [List.getLast?_append]
 obtain ⟨x,hx⟩: ∃ x,v.getLast?=some x:=⟨_,List.getLast?_eq_some_getLast hv⟩
 rw [hx]; rfl
theorem UR {u b:List UInt8} (h:eL u≠ []):eL (u++b)=eL u++b:=by
 unfold eL at *
 induction u with
 | nil=>exact absurd rfl h
 | cons c u ih=>
  rw [List.cons_append]
  by_cases hc:mN c=true
  · rw [List.dropWhile_cons_of_pos hc] at h ⊢
    rw [List.dropWhile_cons_of_pos hc]
    exact ih h
  · rw [List.dropWhile_cons_of_neg hc,List.dropWhile_cons_of_neg hc]; rfl
theorem J3 {u b:List UInt8} (h:eL u= []):eL (u++b)=eL b:=by
 unfold eL at *
 induction u with
 | nil=>rfl
 | cons c u ih=>
  rw [List.cons_append]
  by_cases hc:mN c=true
  · rw [List.dropWhile_cons_of_pos hc] at h ⊢
    exact ih h
  · rw [List.dropWhile_cons_of_neg hc] at h; cases h
theorem ga.shift {n n':Nat} {a p:List UInt8} {L:List ax} (hp:eL p= []) (h:ga (n+p.length) a L):ga n (p++a) L:=by
 generalize hn:n+p.length=q at h
 cases h with
 | nil hs=>exact .nil (by rw [J3 hp]; exact hs)
 | @cons _ _ v tk m L hs hv hh hl=>
  obtain ⟨p',h1,_⟩:=AL a
  rw [hs] at h1
  have hlen:a.length=p'.length+v.length:=by rw [h1,List.length_append]
  have e:n+((p++a).length - v.length)=q+(a.length - v.length):=by rw [List.length_append]; omega
  have :=ga.cons (n:=n) (u:=p++a) (by rw [J3 hp]; exact hs) hv hh (by rw [e]; exact hl)
  rw [e] at this
  exact this
theorem ga.append {n:Nat} {a:List UInt8} {La:List ax} (ha:ga n a La): ∀ {b:List UInt8} {Lb:List ax},ga (n+a.length) b Lb→iX a b=true→ga n (a++b) (La++Lb):=by
 induction ha with
 | @nil n u hs=>intro b Lb hb _; exact ga.shift (n':=0) hs hb
 | @cons n u v tk m L hs hv hh hp ih=>
  intro b Lb hb hsep
  obtain ⟨p,h1,_⟩:=AL u
  rw [hs] at h1
  have hml:=Px hh
  have hlen:u.length=p.length+v.length:=by rw [h1,List.length_append]
  have CI:iX v b=true:=by rw [h1,JX hv] at hsep; exact hsep
  have PM:=Pw hh (b:=b) (.inr CI)
  have Hs:(u++b).length - (v++b).length=u.length - v.length:=by simp only [List.length_append]; omega
  have Qk:ga (n+(u.length - v.length)+m) (v.drop m++b) (L++Lb):=by
   refine ih ?_ ?_
   · rw [List.length_drop,show n+(u.length - v.length)+m+(v.length - m)=n+u.length from by omega]
     exact hb
   · by_cases hd:v.drop m= []
     · rw [hd]; rfl
     · have :v=v.take m++v.drop m:=(List.take_append_drop m v).symm
       rw [this,JX hd] at CI
       exact CI
  have :=ga.cons (n:=n) (u:=u++b) (v:=v++b) (by rw [← hs]; exact UR (by rw [hs]; exact hv)) (by simp [hv]) PM (L:=L++Lb) (by
   rw [Hs,List.drop_append_of_le_length hml.2]
   exact Qk)
  rw [Hs] at this
  exact this
def Lx (s:List UInt8) (K:List Tk):Prop:= ∀ n, ∃ L,ga n s L∧L.map strip=K
theorem Lx.append {a b:List UInt8} {Ka Kb:List Tk} (ha:Lx a Ka) (hb:Lx b Kb) (hs:iX a b=true):Lx (a++b) (Ka++Kb):=fun n=>by
 obtain ⟨La,h1,h2⟩:=ha n
 obtain ⟨Lb,h3,h4⟩:=hb (n+a.length)
 exact ⟨La++Lb,h1.append h3 hs,by rw [List.map_append,h2,h4]⟩
theorem Lx.all {t:List UInt8} {K:List Tk} (h:Lx t K) (hl:t.length≤16384): ∃ l,oF t=(l,bf.mk 0 0)∧l.map strip=K++ [(4,[],0)]:=by
 obtain ⟨L,h1,h2⟩:=h 0
 exact ⟨_,Sv h1 hl,by rw [List.map_append,h2]; rfl⟩
def zi:Nat→List UInt8→Option (List Tk)
 | 0,_=>none
 | k+1,u=>match eL u with
  | []=>some []
  | b::v=>match mM (b::v) with
   | some (tk,m)=>match zi k ((b::v).drop m) with
    | some K=>some (tk::K)
    | none=>none
   | none=>none
theorem eI: ∀ (k:Nat) {u:List UInt8} {K:List Tk},zi k u=some K→Lx u K
 | 0,_,_,h=>by cases h
 | k+1,u,K,h=>fun n=>by
  simp only [zi] at h
  cases hs:eL u with
  | nil=>rw [hs] at h; cases h; exact ⟨[], .nil hs,rfl⟩
  | cons b v=>
   rw [hs] at h
   dsimp only at h
   cases hh:mM (b::v) with
   | none=>rw [hh] at h; cases h
   | some p=>
    obtain ⟨tk,m⟩:=p
    rw [hh] at h
    dsimp only at h
    cases hr:zi k ((b::v).drop m) with
    | none=>rw [hr] at h; cases h
    | some K'=>
     rw [hr] at h
     cases h
     obtain ⟨L,h1,h2⟩:=eI k hr (n+(u.length - (b::v).length)+m)
     exact ⟨_, .cons hs (by simp) hh h1,by rw [List.map_cons,h2]; rfl⟩
end Go.Sy.Ex
namespace Go.Sy.Ex
open Go.Sy
theorem vh (d:Nat) (h:d<10):(UInt8.ofNat (48+d)).toNat=48+d:=by
 have : ∀ d,d<10→(UInt8.ofNat (48+d)).toNat=48+d:=by decide+kernel
 exact this d h
theorem jI {u:Nat} (h:u<10):Lib.decDigits u= [UInt8.ofNat (48+u)]:=by rw [Lib.decDigits,dif_pos h]
theorem ql {u:Nat} (h: ¬ u<10):Lib.decDigits u=Lib.decDigits (u / 10)++ [UInt8.ofNat (48+u % 10)]:=by rw [Lib.decDigits,dif_neg h]
theorem FW: ∀ (n u:Nat),u≤n→ ∀ c ∈ Lib.decDigits u,48≤c.toNat∧c.toNat≤57:=by
 intro n
 induction n with
 | zero=>
  intro u h c hc
  have :u=0:=by omega
  subst this
  rw [jI (by decide),List.mem_singleton] at hc
  subst hc; decide
 | succ n ih=>
  intro u h c hc
  by_cases hs:u<10
  · rw [jI hs,List.mem_singleton] at hc
    subst hc; rw [vh u hs]; omega
  · rw [ql hs,List.mem_append,List.mem_singleton] at hc
    rcases hc with hc | rfl
    · exact ih (u / 10) (by omega) c hc
    · rw [vh _ (by omega)]; omega
theorem ye: ∀ u,Lib.decDigits u≠ []:=fun u=>by
 by_cases hs:u<10
 · rw [jI hs]; simp
 · rw [ql hs]; simp
theorem ND: ∀ (k u:Nat),u<10 ^ (k+1)→(Lib.decDigits u).length≤k+1:=by
 intro k
 induction k with
 | zero=>intro u h; rw [jI (by omega)]; simp
 | succ k ih=>
  intro u h
  by_cases hs:u<10
  · rw [jI hs]; simp
  · rw [ql hs,List.length_append,List.length_singleton]
    have :=ih (u / 10) (by rw [Nat.pow_succ] at h; omega)
    omega
theorem Sl: ∀ (l:List UInt8) (acc a:Nat) (c:UInt8),Lib.parseUintM (2 ^ 64 - 1) acc l= .ok a→Lib.parseUintM (2 ^ 64 - 1) acc (l++ [c])=Lib.parseUintM (2 ^ 64 - 1) a [c]:=by
 intro l
 induction l with
 | nil=>intro acc a c h; cases h; rfl
 | cons b l ih=>
  intro acc a c h
  rw [List.cons_append]
  unfold Lib.parseUintM at h ⊢
  split at h
  · rename_i hb
    rw [if_pos hb]
    split at h
    · cases h
    · rename_i h1
      rw [if_neg h1]
      split at h
      · cases h
      · rename_i h2
        rw [if_neg h2]
        have :=ih _ _ c h
        rw [this]
        rfl
  · cases h
theorem IQ: ∀ (n u:Nat),u≤n→u≤9223372036854775808→Lib.parseUintM (2 ^ 64 - 1) 0 (Lib.decDigits u)= .ok u:=by
 intro n
 induction n with
 | zero=>
  intro u h hu
  have :u=0:=by omega
  subst this
  rw [jI (by decide)]
  rfl
 | succ n ih=>
  intro u h hu
  by_cases hs:u<10
  · rw [jI hs]
    unfold Lib.parseUintM
    rw [vh u hs,if_pos (by omega),if_neg (by omega),if_neg (by omega)]
    unfold Lib.parseUintM
    congr 1; omega
  · rw [ql hs,Sl _ _ _ _ (ih (u / 10) (by omega) (by omega))]
    unfold Lib.parseUintM
    rw [vh _ (by omega),if_pos (by omega),if_neg (by omega),if_neg (by omega)]
    unfold Lib.parseUintM
    congr 1; omega
theorem Sn (v:Int) (h0: -9223372036854775808≤v) (h1:v≤9223372036854775807):Lib.parseIntB 64 (Lib.itoa v)= .ok v:=by
 unfold Lib.itoa
 by_cases hv:v<0
 · rw [if_pos hv]
   have hu:v.natAbs≤9223372036854775808:=by omega
   unfold Lib.parseIntB Lib.parseUintB
   simp only []
   have hif:(if (45:UInt8).toNat=43∨(45:UInt8).toNat=45 then Lib.decDigits v.natAbs else 45::Lib.decDigits v.natAbs)=Lib.decDigits v.natAbs:=if_pos (.inr rfl)
   rw [hif,if_neg (ye _),IQ _ _ (Nat.le_refl _) hu]
   have h45:(45:UInt8).toNat=45:=rfl
   simp only [h45,not_true_eq_false,false_and,if_false,true_and,if_true]
   rw [if_neg (by omega)]
   congr 1; omega
 · rw [if_neg hv]
   have hu:v.toNat≤9223372036854775807:=by omega
   have hne:=ye v.toNat
   obtain ⟨c,r,oR⟩: ∃ c r,Lib.decDigits v.toNat=c::r:=by
    cases hd:Lib.decDigits v.toNat with
    | nil=>exact absurd hd hne
    | cons c r=>exact ⟨c,r,rfl⟩
   have hc:=FW _ _ (Nat.le_refl v.toNat) c (by rw [oR]; simp)
   have hp:=IQ _ _ (Nat.le_refl v.toNat) (by omega)
   rw [oR] at hp ⊢
   unfold Lib.parseIntB Lib.parseUintB
   simp only []
   rw [if_neg (show ¬ (c.toNat=43∨c.toNat=45) by omega),if_neg (by simp),hp]
   simp only [show ¬ c.toNat=45 by omega,not_false_eq_true,true_and,false_and,if_false]
   rw [if_neg (by omega)]
   congr 1; omega
theorem yh: ∀ d,d<10→cut jY ((d:Nat):Int) ((d+1:Nat):Int)= [UInt8.ofNat (48+d)]:=by decide+kernel
theorem Lc: ∀ j (n:Int), -(10 ^ j:Nat)<n→n<(10 ^ j:Nat)→ -9223372036854775808≤n→n≤9223372036854775807→1≤j→j≤30→ ∀ k,j≤k→tY k n=some (Lib.itoa n)∧(Lib.itoa n).length≤j+1:=by
 intro j
 induction j with
 | zero=>intro n _ _ _ _ h; omega
 | succ j ih=>
  intro n h1 h2 h3 h4 _ hj k hk
  obtain ⟨k,rfl⟩: ∃ j,k=j+1:=⟨k - 1,by omega⟩
  have oH: ∀ d:Nat,d<10→ag (((d:Nat):Int)+1)=((d+1:Nat):Int):=fun d hd=>by rw [bD (by omega) (by omega)]; omega
  have yU:jY.length=10:=rfl
  have WW:10 ^ (j+1)=10 ^ j*10:=Nat.pow_succ ..
  simp only [tY,D0]
  by_cases hneg:n<0
  · obtain ⟨u,rfl⟩: ∃ u:Nat,n= -(u:Int):=⟨n.natAbs,by omega⟩
    have hu1:1≤u:=by omega
    rw [Lib.itoa_neg u hu1]
    by_cases hb:u<10
    · rw [if_neg (by omega),if_pos hneg]
      have e1:ag (0 - (-(u:Int)))=(u:Int):=by rw [bD (by omega) (by omega)]; omega
      rw [e1,oH u hb,if_pos (by omega),if_pos (by rw [yU]; omega),if_pos (by omega),if_pos (by omega),yh u hb,if_pos (by simp),jI hb]
      exact ⟨rfl,by simp⟩
    · have e1:Int.tdiv (-(u:Int)) 10= -((u / 10:Nat):Int):=by rw [Int.neg_tdiv,Int.tdiv_eq_ediv_of_nonneg (by omega)]; omega
      have e2:Int.tmod (-(u:Int)) 10= -((u % 10:Nat):Int):=by rw [Int.neg_tmod,Int.tmod_eq_emod_of_nonneg (by omega)]; omega
      have e3:ag (-((u / 10:Nat):Int))= -((u / 10:Nat):Int):=bD (by omega) (by omega)
      have e4:ag (0 - (-((u % 10:Nat):Int)))=((u % 10:Nat):Int):=by rw [bD (by omega) (by omega)]; omega
      have yS:1≤j:=by
       rcases Nat.eq_zero_or_pos j with rfl | q
       · simp at h1 h2; omega
       · exact q
      obtain ⟨i1,i2⟩:=ih (-((u / 10:Nat):Int)) (by omega) (by omega) (by omega) (by omega) yS (by omega) k (by omega)
      rw [Lib.itoa_neg (u / 10) (by omega)] at i1 i2
      rw [if_pos (by omega),if_pos (by decide),if_pos (by decide),e1,e3,i1,aa,e2,e4,oH (u % 10) (by omega),if_pos (by omega),if_pos (by rw [yU]; omega),if_pos (by omega),if_pos (by omega),yh (u % 10) (by omega)]
      rw [if_pos (by simp only [List.length_singleton]; omega),ql hb]
      refine ⟨rfl, ?_⟩
      simp only [List.length_cons,List.length_append,List.length_nil] at i2 ⊢
      omega
  · obtain ⟨u,rfl⟩: ∃ u:Nat,n=(u:Int):=⟨n.toNat,by omega⟩
    rw [Lib.itoa_nonneg u]
    rw [if_neg (by omega),if_neg hneg]
    by_cases hb:u<10
    · rw [if_pos (by omega),oH u hb,if_pos (by omega),if_pos (by rw [yU]; omega),if_pos (by omega),if_pos (by omega),yh u hb,jI hb]
      exact ⟨rfl,by simp⟩
    · have e1:Int.tdiv ((u:Nat):Int) 10=((u / 10:Nat):Int):=by rw [Int.tdiv_eq_ediv_of_nonneg (by omega)]; omega
      have e2:Int.tmod ((u:Nat):Int) 10=((u % 10:Nat):Int):=by rw [Int.tmod_eq_emod_of_nonneg (by omega)]; omega
      have e3:ag ((u / 10:Nat):Int)=((u / 10:Nat):Int):=bD (by omega) (by omega)
      have yS:1≤j:=by
       rcases Nat.eq_zero_or_pos j with rfl | q
       · simp at h1 h2; omega
       · exact q
      obtain ⟨i1,i2⟩:=ih ((u / 10:Nat):Int) (by omega) (by omega) (by omega) (by omega) yS (by omega) k (by omega)
      rw [Lib.itoa_nonneg (u / 10)] at i1 i2
      rw [if_neg (by omega),if_pos (by decide),e1,e3,i1,aa,e2,if_pos (by decide),if_pos (by decide),oH (u % 10) (by omega),if_pos (by omega),if_pos (by rw [yU]; omega),if_pos (by omega),if_pos (by omega),yh (u % 10) (by omega)]
      rw [if_pos (by simp only [List.length_singleton]; omega),ql hb]
      refine ⟨rfl, ?_⟩
      simp only [List.length_append,List.length_cons,List.length_nil] at i2 ⊢
      omega
theorem ET (n:Int) (h0: -9223372036854775808≤n) (h1:n≤9223372036854775807):tX n=some (Lib.itoa n):=
 cu 19 fun k hk=>(Lc 19 n (by omega) (by omega) h0 h1 (by decide) (by decide) k hk).1
theorem FX: ∀ (n u:Nat),u≤n→1≤u→(Lib.decDigits u).getD 0 0≠48
 | 0,u,h,h1=>by omega
 | n+1,u,h,h1=>by
  by_cases h10:u<10
  · rw [jI h10]
    show UInt8.ofNat (48+u)≠48
    intro e
    have :=vh u h10
    rw [e] at this
    have h48:(48:UInt8).toNat=48:=rfl
    omega
  · rw [ql h10]
    have :=FX n (u / 10) (by omega) (by omega)
    have hne:=ye (u / 10)
    cases hd:Lib.decDigits (u / 10) with
    | nil=>exact absurd hd hne
    | cons c l=>rw [hd] at this; exact this
theorem tB {n:Int} (h:0≤n):Lib.itoa n=Lib.decDigits n.toNat:=by unfold Lib.itoa; rw [if_neg (by omega)]
theorem wg {n:Int} (h:0≤n): ∀ c ∈ Lib.itoa n,dg c=true:=fun c hc=>by
 rw [tB h] at hc
 exact (yg c).2 (FW n.toNat n.toNat (Nat.le_refl _) c hc)
theorem y8 {n:Int} (h:0≤n):Lib.itoa n≠ []:=by rw [tB h]; exact ye _
theorem QT {n:Int} (h:0≤n) (h1:n≤9223372036854775807):nT (Lib.itoa n)=(n,0):=by
 rw [← IC _ (y8 h) (wg h)]
 unfold numOf
 rw [if_neg,Sn n (by omega) h1]
 rintro ⟨h2,h3⟩
 rw [tB h] at h2 h3
 by_cases h0:n.toNat<10
 · rw [jI h0] at h2; simp at h2
 · exact FX n.toNat n.toNat (Nat.le_refl _) (by omega) h3
theorem KI (p:UInt8→Bool) (l:List UInt8) (h: ∀ c ∈ l,p c=true):l.takeWhile p=l:=by
 induction l with
 | nil=>rfl
 | cons a l ih=>rw [List.takeWhile_cons_of_pos (h a (by simp)),ih fun c hc=>h c (by simp [hc])]
theorem RU {b:UInt8} (h:nm b=true):mN b=false:=by
 have :=(RZ (b:=b) (by simpa [nm] using h)).1
 exact decide_eq_false this
theorem J4 {s:List UInt8} (h: ∀ c ∈ s,nm c=true):eL s=s:=by
 cases s with
 | nil=>rfl
 | cons a l=>unfold eL; rw [List.dropWhile_cons_of_neg (by simp [RU (h a (by simp))])]
theorem Lx.one {s:List UInt8} {tk:Tk} (h0:s≠ []) (hs:eL s=s) (hh:mM s=some (tk,s.length)):Lx s [tk]:=fun n=>by
 have :=ga.cons (n:=n) (L:= []) hs h0 hh (by rw [List.drop_length]; exact .nil rfl)
 exact ⟨_,this,rfl⟩
theorem Lx.num {n:Int} (h:0≤n) (h1:n≤9223372036854775807):Lx (Lib.itoa n) [(2,Lib.itoa n,n)]:=by
 refine Lx.one (y8 h) (J4 fun c hc=>by simp [nm,wg h c hc]) ?_
 have vU:=KI dg _ (wg h)
 have hn:=QT h h1
 cases hi:Lib.itoa n with
 | nil=>exact absurd hi (y8 h)
 | cons a l=>
  rw [hi] at vU hn
  rw [s_,if_pos (wg h a (by rw [hi]; simp)),vU,hn]
  rfl
theorem eB {s:List UInt8} (h:bT s=true):s≠ []∧s.length≤24∧fI s=false∧lt (s.getD 0 0)=true∧ ∀ c ∈ s,nm c=true:=by
 unfold bT at h
 simp only [Bool.and_eq_true,decide_eq_true_eq,Bool.not_eq_true',List.all_eq_true] at h
 obtain ⟨⟨⟨⟨h1,h2⟩,h3⟩,h4⟩,h5⟩:=h
 exact ⟨h1,h2,h3,h4,h5⟩
theorem Lx.word {s:List UInt8} (h0:s≠ []) (h1:s.length≤24) (h2:lt (s.getD 0 0)=true) (h3: ∀ c ∈ s,nm c=true):Lx s [(1,s,0)]:=by
 refine Lx.one h0 (J4 h3) ?_
 have vU:=KI nm _ h3
 cases hs:s with
 | nil=>exact absurd hs h0
 | cons a l=>
  rw [hs] at vU h2 h1
  have h2:lt a=true:=h2
  rw [s_,if_neg (by rw [F0 _ h2]; simp),if_pos h2,vU,if_neg (by omega)]
theorem Lx.name {s:List UInt8} (h:bT s=true):Lx s [(1,s,0)]:=by
 obtain ⟨h1,h2,_,h4,h5⟩:=eB h
 exact Lx.word h1 h2 h4 h5
end Go.Sy.Ex
namespace Go.Sy.Ex
open Go.Sy
inductive T where
 | num (n:Int) | var (s:List UInt8) | arg | d_ (s:List UInt8) | un (k:Int) (t:T) | bin (k:Int) (a b:T)
def T.kind:T→Int
 | .num _=>1 | .var _=>2 | .arg=>3 | .d_ _=>4 | .un k _=>k | .bin k _ _=>k
def lvl (k:Int):Int:=if k=19 then 1 else if k=18 then 2 else if 12≤k∧k≤17 then 3 else if k=10∨k=11 then 4 else if 7≤k∧k≤9 then 5 else if k=5∨k=6 then 6 else 7
def b9 (k:Int):Int:=if lvl k=3 then 4 else lvl k
def cB (k:Int):Int:=if lvl k=3 then 4 else lvl k+1
abbrev gy:List (List UInt8×Int×Int):= [(kR,19,1),(kP,18,2),(kY,12,3),(kZ,13,3),(kW,14,3),(kX,15,3),(kV,16,3),(kQ,17,3),(k9,10,4),(dA,11,4),(lf,7,5),(ld,8,5),(k8,9,5)]
def dD (k:Int):List UInt8:=match gy.find? (fun p=>p.2.1 == k) with
 | some p=>p.1
 | none=> []
def Bu (k:Int):List UInt8×Int:=match gy.find? (fun p=>p.2.1 == k) with
 | some p=>(p.1,p.2.2)
 | none=>([],0)
def cC (s:List UInt8):Int×Int:=match gy.find? (fun p=>p.1 == s) with
 | some p=>p.2
 | none=>(0,0)
theorem sign_eq (s:List UInt8):qp s=some (cC s):=by
 unfold qp cC gy
 by_cases qB:s=kR
 · subst qB; decide+kernel
 rw [if_neg qB,List.find?_cons,show (kR == s)=false from beq_false_of_ne (Ne.symm qB)]
 dsimp only
 by_cases qz:s=kP
 · subst qz; decide+kernel
 rw [if_neg qz,List.find?_cons,show (kP == s)=false from beq_false_of_ne (Ne.symm qz)]
 dsimp only
 by_cases qF:s=kY
 · subst qF; decide+kernel
 rw [if_neg qF,List.find?_cons,show (kY == s)=false from beq_false_of_ne (Ne.symm qF)]
 dsimp only
 by_cases qG:s=kZ
 · subst qG; decide+kernel
 rw [if_neg qG,List.find?_cons,show (kZ == s)=false from beq_false_of_ne (Ne.symm qG)]
 dsimp only
 by_cases qD:s=kW
 · subst qD; decide+kernel
 rw [if_neg qD,List.find?_cons,show (kW == s)=false from beq_false_of_ne (Ne.symm qD)]
 dsimp only
 by_cases qE:s=kX
 · subst qE; decide+kernel
 rw [if_neg qE,List.find?_cons,show (kX == s)=false from beq_false_of_ne (Ne.symm qE)]
 dsimp only
 by_cases qC:s=kV
 · subst qC; decide+kernel
 rw [if_neg qC,List.find?_cons,show (kV == s)=false from beq_false_of_ne (Ne.symm qC)]
 dsimp only
 by_cases qA:s=kQ
 · subst qA; decide+kernel
 rw [if_neg qA,List.find?_cons,show (kQ == s)=false from beq_false_of_ne (Ne.symm qA)]
 dsimp only
 by_cases qJ:s=k9
 · subst qJ; decide+kernel
 rw [if_neg qJ,List.find?_cons,show (k9 == s)=false from beq_false_of_ne (Ne.symm qJ)]
 dsimp only
 by_cases qH:s=dA
 · subst qH; decide+kernel
 rw [if_neg qH,List.find?_cons,show (dA == s)=false from beq_false_of_ne (Ne.symm qH)]
 dsimp only
 by_cases qL:s=lf
 · subst qL; decide+kernel
 rw [if_neg qL,List.find?_cons,show (lf == s)=false from beq_false_of_ne (Ne.symm qL)]
 dsimp only
 by_cases qK:s=ld
 · subst qK; decide+kernel
 rw [if_neg qK,List.find?_cons,show (ld == s)=false from beq_false_of_ne (Ne.symm qK)]
 dsimp only
 by_cases qI:s=k8
 · subst qI; decide+kernel
 rw [if_neg qI,List.find?_cons,show (k8 == s)=false from beq_false_of_ne (Ne.symm qI)]
 dsimp only
 rfl
theorem MO (kind:Int): ∀ m n,n+m=13→ ∀ k,m+1≤k→sU k kind iC ((n:Nat):Int)=some (match (gy.drop n).find? (fun p=>p.2.1 == kind) with | some p=>(p.1,p.2.2) | none=>([],0)):=by
 intro m
 induction m with
 | zero=>
  intro n h k hk
  obtain ⟨k,rfl⟩: ∃ j,k=j+1:=⟨k - 1,by omega⟩
  obtain rfl:n=13:=by omega
  simp only [sU]
  rw [if_neg (by omega)]
  rfl
 | succ m ih=>
  intro n h k hk
  obtain ⟨k,rfl⟩: ∃ j,k=j+1:=⟨k - 1,by omega⟩
  have hlt:n<gy.length:=by show n<13; omega
  have e:ag ((n:Int)+1)=((n+1:Nat):Int):=by rw [bD (by omega) (by omega)]; omega
  have hrow: [kR,kP,kY,kZ,kW,kX,kV,kQ,k9,dA,lf,ld,k8].getD n []=(gy[n]).1:=by
   have vB:n=0∨n=1∨n=2∨n=3∨n=4∨n=5∨n=6∨n=7∨n=8∨n=9∨n=10∨n=11∨n=12:=by omega
   rcases vB with rfl | rfl | rfl | rfl | rfl | rfl | rfl | rfl | rfl | rfl | rfl | rfl | rfl <;> rfl
  have Ql:cC (gy[n]).1=(gy[n]).2:=by
   have vB:n=0∨n=1∨n=2∨n=3∨n=4∨n=5∨n=6∨n=7∨n=8∨n=9∨n=10∨n=11∨n=12:=by omega
   rcases vB with rfl | rfl | rfl | rfl | rfl | rfl | rfl | rfl | rfl | rfl | rfl | rfl | rfl <;> rfl
  simp only [sU]
  rw [if_pos (by omega),if_pos (by omega),if_pos (by show (n:Int)<(13:Nat); omega),Int.toNat_natCast,e,ih (n+1) (by omega) k (by omega)]
  rw [show ([iC.1,iC.2.1,iC.2.2.1,iC.2.2.2.1,iC.2.2.2.2.1,iC.2.2.2.2.2.1,iC.2.2.2.2.2.2.1,iC.2.2.2.2.2.2.2.1,iC.2.2.2.2.2.2.2.2.1,iC.2.2.2.2.2.2.2.2.2.1,iC.2.2.2.2.2.2.2.2.2.2.1,iC.2.2.2.2.2.2.2.2.2.2.2.1,iC.2.2.2.2.2.2.2.2.2.2.2.2]:List (List UInt8))= [kR,kP,kY,kZ,kW,kX,kV,kQ,k9,dA,lf,ld,k8] from rfl]
  rw [hrow,sign_eq,aa,Ql,List.drop_eq_getElem_cons hlt,List.find?_cons]
  by_cases hk2:(gy[n]).2.1=kind
  · rw [if_pos hk2]
    rw [show ((gy[n]).2.1 == kind)=true from by simpa using hk2]
  · rw [if_neg hk2]
    rw [show ((gy[n]).2.1 == kind)=false from by simpa using hk2]
theorem Br (k:Int):qn k=some (Bu k):=cu 14 fun j hj=>MO k 13 0 rfl j hj
theorem Oy (k:Int) (h:k<7∨19<k):gy.find? (fun p=>p.2.1 == k)=none:=by
 simp only [gy,List.find?_cons,List.find?_nil]
 rw [show ((19:Int) == k)=false from by simp; omega,show ((18:Int) == k)=false from by simp; omega,show ((12:Int) == k)=false from by simp; omega,show ((13:Int) == k)=false from by simp; omega,
  show ((14:Int) == k)=false from by simp; omega,show ((15:Int) == k)=false from by simp; omega,show ((16:Int) == k)=false from by simp; omega,show ((17:Int) == k)=false from by simp; omega,
  show ((10:Int) == k)=false from by simp; omega,show ((11:Int) == k)=false from by simp; omega,show ((7:Int) == k)=false from by simp; omega,show ((8:Int) == k)=false from by simp; omega,show ((9:Int) == k)=false from by simp; omega]
theorem mG {k:Int} (h1:7≤k) (h2:k≤19):Bu k=(dD k,lvl k)∧1≤lvl k∧lvl k≤5:=by
 have hk:k=7∨k=8∨k=9∨k=10∨k=11∨k=12∨k=13∨k=14∨k=15∨k=16∨k=17∨k=18∨k=19:=by omega
 rcases hk with rfl | rfl | rfl | rfl | rfl | rfl | rfl | rfl | rfl | rfl | rfl | rfl | rfl <;> decide
theorem Iw {k:Int} (h:k<5∨19<k):lvl k=7:=by
 unfold lvl
 rw [if_neg (by omega),if_neg (by omega),if_neg (by omega),if_neg (by omega),if_neg (by omega),if_neg (by omega)]
theorem o7 (k:Int):lO k=some (lvl k):=by
 unfold lO
 by_cases h5:k=5
 · subst h5; rfl
 · rw [if_neg h5]
   by_cases h6:k=6
   · subst h6; rfl
   · rw [if_neg h6,Br,aa]
     by_cases h:7≤k∧k≤19
     · obtain ⟨h1,h2,h3⟩:=mG h.1 h.2
       rw [h1,if_pos (by omega)]
     · unfold Bu
       rw [Oy k (by omega)]
       rw [if_neg (by simp),Iw (by omega)]
def dL (k:Int):List Int:=if lvl k=7 then [] else if lvl k=6 then [6] else [b9 k,cB k]
theorem Di (k:Int):1≤lvl k∧lvl k≤7:=by
 unfold lvl
 repeat' split
 all_goals omega
theorem iq (k:Int):dQ k=some (dL k):=by
 unfold dQ dL
 have hr:=Di k
 rw [o7,aa]
 by_cases h7:lvl k=7
 · rw [if_pos h7,if_pos h7]
 · rw [if_neg h7,if_neg h7]
   by_cases h6:lvl k=6
   · rw [if_pos h6,if_pos h6]
   · rw [if_neg h6,if_neg h6]
     unfold b9 cB
     by_cases h3:lvl k=3
     · rw [if_pos h3,if_pos h3,if_pos h3]
     · rw [if_neg h3,if_neg h3,if_neg h3,bD (by omega) (by omega)]
def Is:T→af→Prop
 | .num n,e=>e.Kind=1∧e.N=n∧e.Name= []∧e.Kids= []
 | .var s,e=>e.Kind=2∧e.N=0∧e.Name=s∧e.Kids= []
 | .arg,e=>e.Kind=3∧e.N=0∧e.Name= []∧e.Kids= []
 | .d_ s,e=>e.Kind=4∧e.N=0∧e.Name=s∧e.Kids= []
 | .un k t,e=>e.Kind=k∧e.N=0∧e.Name= []∧ ∃ x,e.Kids= [x]∧Is t x
 | .bin k a b,e=>e.Kind=k∧e.N=0∧e.Name= []∧ ∃ x y,e.Kids= [x,y]∧Is a x∧Is b y
theorem eta (e:af):af.mk e.Kind e.N e.Name e.Kids e.At=e:=by cases e; rfl
theorem Is.kind {t:T} {e:af} (h:Is t e):e.Kind=t.kind:=by cases t <;> exact h.1
def T.ok:T→Prop
 | .num n=>0≤n∧n≤9223372036854775807
 | .var s=>bT s=true
 | .arg=>True
 | .d_ s=>bT s=true
 | .un k t=>(k=5∨k=6)∧t.ok
 | .bin k a b=>(7≤k∧k≤19)∧a.ok∧b.ok
def par (c:Prop) [Decidable c] (s:List UInt8):List UInt8:=if c then 40::s++ [41] else s
def pr:T→Int→List UInt8
 | .num n,a=>par (7<a) (Lib.itoa n)
 | .var s,a=>par (7<a) s
 | .arg,a=>par (7<a) [36]
 | .d_ s,a=>par (7<a) (fY++s++bw)
 | .un k t,a=>par (6<a) ((if k=5 then 45 else 33)::pr t 6)
 | .bin k x y,a=>par (lvl k<a) (pr x (b9 k)++(aJ++dD k++aJ)++pr y (cB k))
def T.sz:T→Nat
 | .un _ t=>t.sz+1
 | .bin _ a b=>a.sz+b.sz+1
 | _=>1
theorem iE {b:List UInt8} {c:Int} (h:b.length+1≤140737488355328) (h0:0≤c) (h1:c<256):eE b c=some (true,b++ [c.toNat.toUInt8]):=by
 unfold eE; rw [if_pos ⟨h,h0,h1⟩]
theorem ff {b s:List UInt8} (h:b.length+s.length≤140737488355328):cQ b s=some ((s.length:Int),true,b++s):=by
 unfold cQ; rw [if_pos h]
theorem xB (k:Int):(dD k).length≤2:=by
 unfold dD
 split
 · rename_i p hp
   have :=List.mem_of_find?_eq_some hp
   simp only [gy,List.mem_cons,List.not_mem_nil,or_false] at this
   rcases this with rfl | rfl | rfl | rfl | rfl | rfl | rfl | rfl | rfl | rfl | rfl | rfl | rfl <;> decide
 · exact Nat.zero_le _
theorem tI (c:Prop) [Decidable c] (s:List UInt8):s.length≤(par c s).length∧(par c s).length≤s.length+2:=by
 unfold par
 split <;> simp <;> omega
end Go.Sy.Ex
namespace Go.Sy.Ex
open Go.Sy
theorem nV {c:Prop} [Decidable c] (h:c) (s:List UInt8):par c s=40::s++ [41]:=if_pos h
theorem ec {c:Prop} [Decidable c] (h: ¬ c) (s:List UInt8):par c s=s:=if_neg h
theorem Sr {k:Int} (h:k<5∨19<k):dL k= []:=by unfold dL; rw [if_pos (Iw h)]
theorem wF {k:Int} (h:k=5∨k=6):dL k= [6]:=by rcases h with rfl | rfl <;> decide
theorem tJ {k:Int} (h:7≤k∧k≤19):dL k= [b9 k,cB k]:=by
 have :=(mG h.1 h.2).2
 unfold dL
 rw [if_neg (by omega),if_neg (by omega)]
theorem GA {n:Int} (h0:0≤n) (h1:n≤9223372036854775807):o_ n 10=some (Lib.itoa n):=by unfold o_; rw [if_pos ⟨rfl,by omega,h1⟩]
theorem HV {n:Int} (h0:0≤n) (h1:n≤9223372036854775807):(Lib.itoa n).length≤19:=by rw [tB h0]; exact ND 18 _ (by omega)
theorem AX (self:List UInt8→af→Int→Option (List UInt8)) (k:Nat) (r:List UInt8) (K N:Int) (Nm:List UInt8) (Ks:List af) (At:Int):hJ self (k+1) r K N Nm Ks At [] ((([]:List Int).length:Nat):Int) 0=(some r):=by
 simp only [hJ]
 rw [if_neg (by simp)]
theorem KU (self:List UInt8→af→Int→Option (List UInt8)) (k:Nat) (b r:List UInt8) (K N:Int) (Nm:List UInt8) (x:af) (At:Int) (p:Int) (h:self b x p=some r):hJ self (k+2) b K N Nm [x] At [p] ((([p]:List Int).length:Nat):Int) 0=(some r):=by
 rw [show (([p]:List Int).length:Int)=1 from rfl]
 simp only [hJ]
 rw [if_pos (by omega),if_pos (by omega),if_pos (by simp),if_neg (by simp),if_neg (by omega),if_pos (by omega),if_pos (by simp)]
 rw [show [x].getD (0:Int).toNat af.z=x from rfl,show [p].getD (0:Int).toNat 0=p from rfl,h,aa]
 rw [show ag (0+1)=1 from by decide,if_neg (by omega)]
theorem Wj (self:List UInt8→af→Int→Option (List UInt8)) (k:Nat) (b r1 r:List UInt8) (K N:Int) (Nm:List UInt8) (x y:af) (At:Int) (p q:Int) (hK:7≤K∧K≤19) (h:self b x p=some r1) (h2:self (r1++(aJ++dD K++aJ)) y q=some r) (hl:r1.length+(aJ++dD K++aJ).length≤140737488355328):hJ self (k+3) b K N Nm [x,y] At [p,q] ((([p,q]:List Int).length:Nat):Int) 0=(some r):=by
 rw [show (([p,q]:List Int).length:Int)=2 from rfl]
 have ht:=xB K
 simp only [hJ]
 rw [if_pos (by omega),if_pos (by omega),if_pos (by simp),if_neg (by simp),if_neg (by omega),if_pos (by omega),if_pos (by simp)]
 rw [show [x,y].getD (0:Int).toNat af.z=x from rfl,show [p,q].getD (0:Int).toNat 0=p from rfl,h,aa]
 rw [show ag (0+1)=1 from by decide,if_pos (by omega),if_pos (by omega),if_pos (by simp),if_neg (by simp),if_pos (by omega),Br,aa,(mG hK.1 hK.2).1]
 dsimp only
 rw [if_pos (by simp; omega),if_pos (by simp; omega),ff hl,aa,if_pos (by omega),if_pos (by simp)]
 rw [show [x,y].getD (1:Int).toNat af.z=y from rfl,show [p,q].getD (1:Int).toNat 0=q from rfl]
 dsimp only
 rw [h2,aa,show ag (1+1)=2 from by decide,if_neg (by omega)]
theorem w_0 (self:List UInt8→af→Int→Option (List UInt8)) (k:Nat) (r:List UInt8) (K N:Int) (Nm:List UInt8) (Ks:List af) (At:Int):g_ self (k+1) r K N Nm Ks At [] ((([]:List Int).length:Nat):Int) 0=((eE r 41).bind fun q=>some q.2):=by
 simp only [g_]
 rw [if_neg (by simp)]
theorem w_1 (self:List UInt8→af→Int→Option (List UInt8)) (k:Nat) (b r:List UInt8) (K N:Int) (Nm:List UInt8) (x:af) (At:Int) (p:Int) (h:self b x p=some r):g_ self (k+2) b K N Nm [x] At [p] ((([p]:List Int).length:Nat):Int) 0=((eE r 41).bind fun q=>some q.2):=by
 rw [show (([p]:List Int).length:Int)=1 from rfl]
 simp only [g_]
 rw [if_pos (by omega),if_pos (by omega),if_pos (by simp),if_neg (by simp),if_neg (by omega),if_pos (by omega),if_pos (by simp)]
 rw [show [x].getD (0:Int).toNat af.z=x from rfl,show [p].getD (0:Int).toNat 0=p from rfl,h,aa]
 rw [show ag (0+1)=1 from by decide,if_neg (by omega)]
theorem w_2 (self:List UInt8→af→Int→Option (List UInt8)) (k:Nat) (b r1 r:List UInt8) (K N:Int) (Nm:List UInt8) (x y:af) (At:Int) (p q:Int) (hK:7≤K∧K≤19) (h:self b x p=some r1) (h2:self (r1++(aJ++dD K++aJ)) y q=some r) (hl:r1.length+(aJ++dD K++aJ).length≤140737488355328):g_ self (k+3) b K N Nm [x,y] At [p,q] ((([p,q]:List Int).length:Nat):Int) 0=((eE r 41).bind fun q=>some q.2):=by
 rw [show (([p,q]:List Int).length:Int)=2 from rfl]
 have ht:=xB K
 simp only [g_]
 rw [if_pos (by omega),if_pos (by omega),if_pos (by simp),if_neg (by simp),if_neg (by omega),if_pos (by omega),if_pos (by simp)]
 rw [show [x,y].getD (0:Int).toNat af.z=x from rfl,show [p,q].getD (0:Int).toNat 0=p from rfl,h,aa]
 rw [show ag (0+1)=1 from by decide,if_pos (by omega),if_pos (by omega),if_pos (by simp),if_neg (by simp),if_pos (by omega),Br,aa,(mG hK.1 hK.2).1]
 dsimp only
 rw [if_pos (by simp; omega),if_pos (by simp; omega),ff hl,aa,if_pos (by omega),if_pos (by simp)]
 rw [show [x,y].getD (1:Int).toNat af.z=y from rfl,show [p,q].getD (1:Int).toNat 0=q from rfl]
 dsimp only
 rw [h2,aa,show ag (1+1)=2 from by decide,if_neg (by omega)]
theorem qk {r:List UInt8} (h:r.length+1≤140737488355328):((eE r 41).bind fun q=>some q.2)=some (r++ [41]):=by
 rw [iE h (by omega) (by omega),aa]; rfl
theorem Wu: ∀ (t:T) (e:af) (b:List UInt8) (a:Int),Is t e→t.ok→(b++pr t a).length≤140737488355328→ ∀ k,t.sz+3≤k→kg k b e a=some (b++pr t a):=by
 intro t
 induction t with
 | num n=>
  intro e b a h hok hl k hk
  obtain ⟨k,rfl⟩: ∃ j,k=j+2:=⟨k - 2,by have :1≤T.sz (.num n):=Nat.le_refl _; omega⟩
  obtain ⟨h1,h2,h3,h4⟩:=h
  have hlv:lvl 1=7:=by decide
  have hpl:dL 1= []:=by decide
  show jn (kg (k+1)) (k+1) b e a=_
  unfold jn
  rw [h1,o7,aa,hlv]
  unfold pr at hl ⊢
  by_cases ha:7<a
  · rw [nV ha] at hl ⊢
    rw [if_pos ha]
    simp only [List.length_append,List.length_cons,List.length_nil] at hl
    rw [iE (by omega) (by omega) (by omega),aa]
    dsimp only
    rw [if_pos rfl,h2,GA hok.1 hok.2,aa,ff (by simp only [List.length_append,List.length_cons,List.length_nil]; omega),aa]
    dsimp only
    rw [iq,aa,hpl,w_0,qk (by simp only [List.length_append,List.length_cons,List.length_nil]; omega)]
    simp [List.append_assoc]
  · rw [ec ha] at hl ⊢
    rw [if_neg ha]
    simp only [List.length_append,List.length_cons,List.length_nil] at hl
    rw [if_pos rfl,h2,GA hok.1 hok.2,aa,ff (by omega),aa]
    dsimp only
    rw [iq,aa,hpl,AX]
 | var s=>
  intro e b a h hok hl k hk
  obtain ⟨k,rfl⟩: ∃ j,k=j+2:=⟨k - 2,by have :1≤T.sz (.var s):=Nat.le_refl _; omega⟩
  obtain ⟨h1,h2,h3,h4⟩:=h
  have hlv:lvl 2=7:=by decide
  have hpl:dL 2= []:=by decide
  show jn (kg (k+1)) (k+1) b e a=_
  unfold jn
  rw [h1,o7,aa,hlv]
  unfold pr at hl ⊢
  by_cases ha:7<a
  · rw [nV ha] at hl ⊢
    rw [if_pos ha]
    simp only [List.length_append,List.length_cons,List.length_nil] at hl
    rw [iE (by omega) (by omega) (by omega),aa]
    dsimp only
    rw [if_neg (by decide),if_neg (by decide),if_pos rfl,h3,ff (by simp only [List.length_append,List.length_cons,List.length_nil]; omega),aa]
    dsimp only
    rw [iq,aa,hpl,w_0,qk (by simp only [List.length_append,List.length_cons,List.length_nil]; omega)]
    simp [List.append_assoc]
  · rw [ec ha] at hl ⊢
    rw [if_neg ha]
    simp only [List.length_append,List.length_cons,List.length_nil] at hl
    rw [if_neg (by decide),if_neg (by decide),if_pos rfl,h3,ff (by omega),aa]
    dsimp only
    rw [iq,aa,hpl,AX]
 | arg=>
  intro e b a h hok hl k hk
  obtain ⟨k,rfl⟩: ∃ j,k=j+2:=⟨k - 2,by have :1≤T.sz (.arg):=Nat.le_refl _; omega⟩
  obtain ⟨h1,h2,h3,h4⟩:=h
  have hlv:lvl 3=7:=by decide
  have hpl:dL 3= []:=by decide
  show jn (kg (k+1)) (k+1) b e a=_
  unfold jn
  rw [h1,o7,aa,hlv]
  unfold pr at hl ⊢
  by_cases ha:7<a
  · rw [nV ha] at hl ⊢
    rw [if_pos ha]
    simp only [List.length_append,List.length_cons,List.length_nil] at hl
    rw [iE (by omega) (by omega) (by omega),aa]
    dsimp only
    rw [if_neg (by decide),if_pos rfl,iE (by simp only [List.length_append,List.length_cons,List.length_nil]; omega) (by omega) (by omega),aa]
    dsimp only
    rw [iq,aa,hpl,w_0,qk (by simp only [List.length_append,List.length_cons,List.length_nil]; omega)]
    simp [List.append_assoc]
  · rw [ec ha] at hl ⊢
    rw [if_neg ha]
    simp only [List.length_append,List.length_cons,List.length_nil] at hl
    rw [if_neg (by decide),if_pos rfl,iE (by omega) (by omega) (by omega),aa]
    dsimp only
    rw [iq,aa,hpl,AX]
    rfl
 | d_ s=>
  intro e b a h hok hl k hk
  obtain ⟨k,rfl⟩: ∃ j,k=j+2:=⟨k - 2,by have :1≤T.sz (.d_ s):=Nat.le_refl _; omega⟩
  obtain ⟨h1,h2,h3,h4⟩:=h
  have hlv:lvl 4=7:=by decide
  have hpl:dL 4= []:=by decide
  show jn (kg (k+1)) (k+1) b e a=_
  unfold jn
  rw [h1,o7,aa,hlv]
  unfold pr at hl ⊢
  have WX:=(eB hok).2.1
  by_cases ha:7<a
  · rw [nV ha] at hl ⊢
    rw [if_pos ha]
    simp only [List.length_append,List.length_cons,List.length_nil] at hl
    rw [iE (by omega) (by omega) (by omega),aa]
    dsimp only
    rw [if_neg (by decide),if_neg (by decide),if_neg (by decide),if_pos rfl,h3,if_pos (by simp only [fY,List.length_cons,List.length_nil]; omega),if_pos (by simp only [fY,bw,List.length_append,List.length_cons,List.length_nil]; omega),ff (by simp only [fY,bw,List.length_append,List.length_cons,List.length_nil] at hl ⊢; omega),aa]
    dsimp only
    rw [iq,aa,hpl,w_0,qk (by simp only [fY,bw,List.length_append,List.length_cons,List.length_nil] at hl ⊢; omega)]
    simp [List.append_assoc]
  · rw [ec ha] at hl ⊢
    rw [if_neg ha]
    simp only [List.length_append,List.length_cons,List.length_nil] at hl
    rw [if_neg (by decide),if_neg (by decide),if_neg (by decide),if_pos rfl,h3,if_pos (by simp only [fY,List.length_cons,List.length_nil]; omega),if_pos (by simp only [fY,bw,List.length_append,List.length_cons,List.length_nil]; omega),ff (by simp only [fY,bw,List.length_append,List.length_cons,List.length_nil] at hl ⊢; omega),aa]
    dsimp only
    rw [iq,aa,hpl,AX]
 | un k0 t ih=>
  intro e b a h hok hl k hk
  obtain ⟨k,rfl⟩: ∃ j,k=j+3:=⟨k - 3,by omega⟩
  obtain ⟨h1,h2,h3,x,h4,hx⟩:=h
  show jn (kg (k+2)) (k+2) b e a=_
  unfold jn
  rw [h1,o7,aa]
  unfold pr at hl ⊢
  obtain ⟨qR,WT⟩:=id hok
  rcases qR with h5 | h5
  · subst h5
    have hlv:lvl 5=6:=by decide
    have hpl:dL 5= [6]:=by decide
    rw [hlv]
    by_cases ha:6<a
    · rw [nV ha] at hl ⊢
      rw [if_pos ha]
      simp only [List.length_append,List.length_cons,List.length_nil] at hl
      have hsub:=ih x ((b++ [(40:Int).toNat.toUInt8])++ [(45:Int).toNat.toUInt8]) 6 hx hok.2 (by simp only [List.length_append,List.length_cons,List.length_nil]; omega) (k+2) (by simp only [T.sz] at hk; omega)
      rw [iE (by omega) (by omega) (by omega),aa]
      dsimp only
      rw [if_neg (by decide),if_neg (by decide),if_neg (by decide),if_neg (by decide),if_pos rfl,iE (by simp only [List.length_append,List.length_cons,List.length_nil]; omega) (by omega) (by omega),aa]
      dsimp only
      rw [iq,aa,hpl,h4,w_1 _ _ _ _ _ _ _ _ _ _ hsub,qk (by simp only [List.length_append,List.length_cons,List.length_nil]; omega)]
      simp [List.append_assoc]
    · rw [ec ha] at hl ⊢
      rw [if_neg ha]
      simp only [List.length_append,List.length_cons,List.length_nil] at hl
      have hsub:=ih x (b++ [(45:Int).toNat.toUInt8]) 6 hx hok.2 (by simp only [List.length_append,List.length_cons,List.length_nil]; omega) (k+2) (by simp only [T.sz] at hk; omega)
      rw [if_neg (by decide),if_neg (by decide),if_neg (by decide),if_neg (by decide),if_pos rfl,iE (by omega) (by omega) (by omega),aa]
      dsimp only
      rw [iq,aa,hpl,h4,KU _ _ _ _ _ _ _ _ _ _ hsub]
      simp [List.append_assoc]
  · subst h5
    have hlv:lvl 6=6:=by decide
    have hpl:dL 6= [6]:=by decide
    rw [hlv]
    by_cases ha:6<a
    · rw [nV ha] at hl ⊢
      rw [if_pos ha]
      simp only [List.length_append,List.length_cons,List.length_nil] at hl
      have hsub:=ih x ((b++ [(40:Int).toNat.toUInt8])++ [(33:Int).toNat.toUInt8]) 6 hx hok.2 (by simp only [List.length_append,List.length_cons,List.length_nil]; omega) (k+2) (by simp only [T.sz] at hk; omega)
      rw [iE (by omega) (by omega) (by omega),aa]
      dsimp only
      rw [if_neg (by decide),if_neg (by decide),if_neg (by decide),if_neg (by decide),if_neg (by decide),if_pos rfl,iE (by simp only [List.length_append,List.length_cons,List.length_nil]; omega) (by omega) (by omega),aa]
      dsimp only
      rw [iq,aa,hpl,h4,w_1 _ _ _ _ _ _ _ _ _ _ hsub,qk (by simp only [List.length_append,List.length_cons,List.length_nil]; omega)]
      simp [List.append_assoc]
    · rw [ec ha] at hl ⊢
      rw [if_neg ha]
      simp only [List.length_append,List.length_cons,List.length_nil] at hl
      have hsub:=ih x (b++ [(33:Int).toNat.toUInt8]) 6 hx hok.2 (by simp only [List.length_append,List.length_cons,List.length_nil]; omega) (k+2) (by simp only [T.sz] at hk; omega)
      rw [if_neg (by decide),if_neg (by decide),if_neg (by decide),if_neg (by decide),if_neg (by decide),if_pos rfl,iE (by omega) (by omega) (by omega),aa]
      dsimp only
      rw [iq,aa,hpl,h4,KU _ _ _ _ _ _ _ _ _ _ hsub]
      simp [List.append_assoc]
 | bin k0 x0 y0 oY oZ=>
  intro e b a h hok hl k hk
  obtain ⟨k,rfl⟩: ∃ j,k=j+4:=⟨k - 4,by simp only [T.sz] at hk; omega⟩
  obtain ⟨h1,h2,h3,x,y,h4,hx,hy⟩:=h
  obtain ⟨qR,HA,HB⟩:=id hok
  have hpl:=tJ qR
  show jn (kg (k+3)) (k+3) b e a=_
  unfold jn
  rw [h1,o7,aa]
  unfold pr at hl ⊢
  have hsp:aJ.length=1:=rfl
  have W1:1≤x0.sz:=by cases x0 <;> simp [T.sz]
  have W2:1≤y0.sz:=by cases y0 <;> simp [T.sz]
  by_cases ha:lvl k0<a
  · rw [nV ha] at hl ⊢
    rw [if_pos ha]
    simp only [List.length_append,List.length_cons,List.length_nil] at hl
    have ht:=xB k0
    have qV:=oY x (b++ [(40:Int).toNat.toUInt8]) (b9 k0) hx HA (by simp only [List.length_append,List.length_cons,List.length_nil]; omega) (k+3) (by simp only [T.sz] at hk; omega)
    have qW:=oZ y (((b++ [(40:Int).toNat.toUInt8])++pr x0 (b9 k0))++(aJ++dD k0++aJ)) (cB k0) hy HB (by simp only [List.length_append,List.length_cons,List.length_nil]; omega) (k+3) (by simp only [T.sz] at hk; omega)
    rw [iE (by omega) (by omega) (by omega),aa]
    dsimp only
    rw [if_neg (by omega),if_neg (by omega),if_neg (by omega),if_neg (by omega),if_neg (by omega),if_neg (by omega),iq,aa,hpl,h4,w_2 _ _ _ _ _ _ _ _ _ _ _ _ _ qR qV qW (by simp only [List.length_append,List.length_cons,List.length_nil]; omega),qk (by simp only [List.length_append,List.length_cons,List.length_nil]; omega)]
    simp [List.append_assoc]
  · rw [ec ha] at hl ⊢
    rw [if_neg ha]
    simp only [List.length_append,List.length_cons,List.length_nil] at hl
    have ht:=xB k0
    have qV:=oY x b (b9 k0) hx HA (by simp only [List.length_append,List.length_cons,List.length_nil]; omega) (k+3) (by simp only [T.sz] at hk; omega)
    have qW:=oZ y ((b++pr x0 (b9 k0))++(aJ++dD k0++aJ)) (cB k0) hy HB (by simp only [List.length_append,List.length_cons,List.length_nil]; omega) (k+3) (by simp only [T.sz] at hk; omega)
    rw [if_neg (by omega),if_neg (by omega),if_neg (by omega),if_neg (by omega),if_neg (by omega),if_neg (by omega),iq,aa,hpl,h4,Wj _ _ _ _ _ _ _ _ _ _ _ _ _ qR qV qW (by simp only [List.length_append,List.length_cons,List.length_nil]; omega)]
    simp [List.append_assoc]
theorem SD {t:T} {e:af} (h:Is t e) (hok:t.ok) (hl:(pr t 1).length≤140737488355328):vk e=some (pr t 1):=by
 unfold vk yz
 have :ct (fun k (x:List UInt8×af×Int)=>kg k x.1 x.2.1 x.2.2) ([],af.mk e.Kind e.N e.Name e.Kids e.At,1)=some (pr t 1):=
  cu (t.sz+3) fun k hk=>by
   have :=Wu t (af.mk e.Kind e.N e.Name e.Kids e.At) [] 1 (by cases t <;> exact h) hok (by simpa using hl) k hk
   rw [List.nil_append] at this
   exact this
 rw [this,aa]
 rfl
end Go.Sy.Ex
namespace Go.Sy.Ex
open Go.Sy
def st (l:List ax) (i o:Nat):aE:=⟨⟨l,(i:Int),⟨0,0⟩⟩,(o:Int)⟩
def aj (l:List ax) (i:Nat):ax:=l.getD i ax.z
def br (t:ax) (s:List UInt8):Bool:=decide ((t.Kind=3∨t.Kind=1)∧t.Text=s)
section
variable {l:List ax} {i o:Nat}
theorem wD:mX (st l i o)=some (true,st l i o):=rfl
theorem ic (hi:i<l.length):gL (st l i o)=some (aj l i,st l i o):=by
 unfold gL
 rw [wD,aa]
 have h1: ¬ ((i:Nat):Int)<0:=by omega
 have h2: ¬ (l.length:Int)≤((i:Nat):Int):=by omega
 have h3:0≤((i:Nat):Int):=by omega
 have h4:((i:Nat):Int)<(l.length:Int):=by omega
 simp only [Bool.not_true,cond_false,st,Int.toNat_natCast,h1,h2,h3,h4,if_true,if_false]; rfl
theorem v8 (hi:i<l.length) (s:List UInt8):jT (st l i o) s=some (br (aj l i) s,st l i o):=by
 unfold jT br
 rw [ic hi,aa]
 dsimp only
 by_cases h3:(aj l i).Kind=3
 · rw [if_pos h3]; congr 2; rw [decide_eq_decide]; simp [h3]
 · rw [if_neg h3]
   by_cases h1:(aj l i).Kind=1
   · rw [if_pos h1]; congr 2; rw [decide_eq_decide]; simp [h1]
   · rw [if_neg h1]
     congr 2
     symm
     rw [decide_eq_false_iff_not]
     rintro ⟨h | h,_⟩ <;> contradiction
theorem ig (hi:i<l.length) (hl:l.length≤100000):ag (((i:Nat):Int)+1)=((i+1:Nat):Int):=by rw [bD (by omega) (by omega)]; omega
theorem xy (hi:i<l.length) (hl:l.length≤100000) (s:List UInt8):mj (st l i o) s=some (br (aj l i) s,if br (aj l i) s=true then st l (i+1) o else st l i o):=by
 unfold mj
 rw [v8 hi,aa]
 dsimp only
 cases h:br (aj l i) s with
 | true=>
  rw [cond_true,if_pos rfl]
  show some (true,(⟨⟨l,ag (((i:Nat):Int)+1),⟨0,0⟩⟩,(o:Int)⟩:aE))=_
  rw [ig hi hl]; rfl
 | false=>rw [cond_false,if_neg (by simp)]
theorem si (hi:i<l.length) (hl:l.length≤100000) {s:List UInt8} (h:br (aj l i) s=true):iQ (st l i o) s=some (st l (i+1) o):=by
 unfold iQ
 rw [xy hi hl,aa,h]; rfl
theorem tA (hi:i<l.length):nZ (st l i o)=some (decide ((aj l i).Kind=1)&& !fI (aj l i).Text,st l i o):=by
 unfold nZ
 rw [ic hi,aa]
 dsimp only
 by_cases h1:(aj l i).Kind=1
 · rw [if_pos h1,Dh,aa,decide_eq_true h1]; rfl
 · rw [if_neg h1,decide_eq_false h1]; rfl
theorem zq (hi:i<l.length) (hl:l.length≤100000) (h1:(aj l i).Kind=1) (h2:fI (aj l i).Text=false):mh (st l i o)=some ((aj l i).Text,st l (i+1) o):=by
 unfold mh
 rw [tA hi,aa]
 dsimp only
 rw [decide_eq_true h1,h2]
 show (if 0≤ag (ag (((i:Nat):Int)+1) - 1) then if ag (ag (((i:Nat):Int)+1) - 1)<(l.length:Int) then some ((l.getD (ag (ag (((i:Nat):Int)+1) - 1)).toNat ax.z).Text,(⟨⟨l,ag (((i:Nat):Int)+1),⟨0,0⟩⟩,(o:Int)⟩:aE)) else none else none)=_
 rw [ig hi hl,show ag (((i+1:Nat):Int) - 1)=((i:Nat):Int) from by rw [bD (by omega) (by omega)]; omega,if_pos (by omega),if_pos (by omega),Int.toNat_natCast]
 rfl
theorem oL (hi:i<l.length) (hl:l.length≤100000) (ho:o<12) (a:Int):jm (st l i o) a=some (true,st l (i+1) (o+1)):=by
 unfold jm
 show (if ((o:Nat):Int)=12 then _ else some (true,(⟨⟨l,ag (((i:Nat):Int)+1),⟨0,0⟩⟩,ag (((o:Nat):Int)+1)⟩:aE)))=_
 rw [if_neg (by omega),ig hi hl,show ag (((o:Nat):Int)+1)=((o+1:Nat):Int) from by rw [bD (by omega) (by omega)]; omega]
 rfl
end
def Seq (l:List ax) (i:Nat):List Tk→Prop
 | []=>True
 | k::K=>i<l.length∧strip (aj l i)=k∧Seq l (i+1) K
theorem Seq.append {l:List ax} : ∀ {i:Nat} {K K':List Tk},Seq l i (K++K')↔Seq l i K∧Seq l (i+K.length) K'
 | i,[],K'=>by simp [Seq]
 | i,k::K,K'=>by
  rw [List.cons_append]
  simp only [Seq,List.length_cons]
  rw [Seq.append,show i+1+K.length=i+(K.length+1) from by omega]
  constructor
  · rintro ⟨a,b,c,d⟩; exact ⟨⟨a,b,c⟩,d⟩
  · rintro ⟨⟨a,b,c⟩,d⟩; exact ⟨a,b,c,d⟩
def mV (c:Prop) [Decidable c] (K:List Tk):List Tk:=if c then (3,bK,0)::K++ [(3,bw,0)] else K
def toks:T→Int→List Tk
 | .num n,a=>mV (7<a) [(2,Lib.itoa n,n)]
 | .var s,a=>mV (7<a) [(1,s,0)]
 | .arg,a=>mV (7<a) [(3,jB,0)]
 | .d_ s,a=>mV (7<a) [(1,gu,0),(3,bK,0),(1,s,0),(3,bw,0)]
 | .un k t,a=>mV (6<a) ((3,if k=5 then dA else gN,0)::toks t 6)
 | .bin k x y,a=>mV (lvl k<a) (toks x (b9 k)++(3,dD k,0)::toks y (cB k))
def jQ (c:Prop) [Decidable c] (n:Nat):Nat:=if c then n+1 else n
def aT:T→Int→Nat
 | .un k t,a=>jQ (6<a) (aT t 6+1)
 | .bin k x y,a=>jQ (lvl k<a) (max (aT x (b9 k)) (aT y (cB k)))
 | _,a=>jQ (7<a) 0
def iY (t:ax):Int:=if t.Kind=3 then (cC t.Text).2 else 0
def P (t:T) (K:List Tk) (n:Nat) (m:Int):Prop:= ∀ (l:List ax) (i o:Nat),l.length≤100000→Seq l i K→i+K.length<l.length→o+n≤12→iY (aj l (i+K.length))<m→
 ∃ e Z,Is t e∧ ∀ k,Z≤k→dR k (st l i o) m=some (e,st l (i+K.length) o)
def Sg (t:T) (K:List Tk) (n:Nat):Prop:= ∀ (l:List ax) (i o:Nat),l.length≤100000→Seq l i K→i+K.length<l.length→o+n≤12→
 ∃ e Z Z2,Is t e∧ ∀ k,Z≤k→ ∀ k2,Z2≤k2→gZ (dR k) k2 (st l i o)=some (e,st l (i+K.length) o)
noncomputable def loop (k k':Nat) (l:List ax) (i o:Nat) (m:Int) (e:af):Option (af×aE):=
 mJ (dR k) k' l ((i:Nat):Int) 0 0 ((o:Nat):Int) m 0 0 [] [] 0 e.Kind e.N e.Name e.Kids e.At
def Qp (t:T) (K:List Tk) (n:Nat) (m:Int):Prop:= ∀ (l:List ax) (i o:Nat),l.length≤100000→Seq l i K→i+K.length<l.length→o+n≤12→iY (aj l (i+K.length))≤m→
 ∃ e Z j,Is t e∧j<Z∧ ∀ k,Z≤k→dR (k+1) (st l i o) m=loop k (k - j) l (i+K.length) o m e
theorem zw (k:Nat) (l:List ax) (i o:Nat) {m:Int} (hm:1≤m) (eP:m≤5) {e:af} {i':Nat} (h:dR k (st l i o) (m+1)=some (e,st l i' o)):
 dR (k+1) (st l i o) m=loop k k l i' o m e:=by
 show oM (dR k) k (st l i o) m=_
 unfold oM
 rw [if_neg (by omega),bD (by omega) (by omega),h,aa]
 rfl
theorem It (k k':Nat) (l:List ax) (i o:Nat) {m:Int} (hm:1≤m) (hi:i<l.length) (hs:iY (aj l i)≠m) (e:af) (hk:1≤k'):loop k k' l i o m e=some (e,st l i o):=by
 obtain ⟨k',rfl⟩: ∃ j,k'=j+1:=⟨k' - 1,by omega⟩
 unfold loop
 simp only [mJ]
 rw [show (aE.mk (bC.mk l ((i:Nat):Int) (bf.mk 0 0)) ((o:Nat):Int))=st l i o from rfl,ic hi,aa,sign_eq,aa,eta]
 dsimp only
 unfold iY at hs
 by_cases h3:(aj l i).Kind=3
 · rw [if_pos h3] at hs
   rw [if_neg (by simpa using h3),if_pos hs]
 · rw [if_pos h3]
theorem Iu (k k':Nat) (l:List ax) (hl:l.length≤100000) (i o:Nat) {m:Int} (hm:1≤m) (eP:m≤5) (hi:i<l.length) {kd:Int} {tx:List UInt8} (ht:strip (aj l i)=(3,tx,0)) (hg:cC tx=(kd,m)) (e:af) {y:af} {i':Nat}
 (hy:dR k (st l (i+1) o) (m+1)=some (y,st l i' o)):
 loop k (k'+1) l i o m e=if m=3 then some (af.mk kd 0 [] [e,y] (aj l i).At,st l i' o) else loop k k' l i' o m (af.mk kd 0 [] [e,y] (aj l i).At):=by
 unfold loop
 simp only [mJ]
 rw [show (aE.mk (bC.mk l ((i:Nat):Int) (bf.mk 0 0)) ((o:Nat):Int))=st l i o from rfl,ic hi,aa,sign_eq,aa,eta]
 dsimp only
 unfold strip at ht
 simp only [Prod.mk.injEq] at ht
 rw [ht.2.1,hg]
 dsimp only
 rw [if_neg (by simp [ht.1]),if_neg (by simp)]
 rw [show (aE.mk (bC.mk (st l i o).Row.L (ag ((st l i o).Row.At+1)) (st l i o).Row.bN) (st l i o).aM)=st l (i+1) o from by
  show (⟨⟨l,ag (((i:Nat):Int)+1),⟨0,0⟩⟩,(o:Int)⟩:aE)=_
  rw [ig hi hl]; rfl]
 rw [bD (by omega) (by omega),hy,aa]
 simp only [eta]
 rfl
theorem iJ {l:List ax} {i:Nat} {k:Int} {s:List UInt8} {n:Int} (h:strip (aj l i)=(k,s,n)) (hk:k=3∨k=1):br (aj l i) s=true:=by
 unfold strip at h
 simp only [Prod.mk.injEq] at h
 unfold br
 rw [decide_eq_true_eq,h.1,h.2.1]
 exact ⟨hk,rfl⟩
theorem kB {l:List ax} {i:Nat} {k:Int} {s s':List UInt8} {n:Int} (h:strip (aj l i)=(k,s,n)) (hne:(k≠3∧k≠1)∨s≠s'):br (aj l i) s'=false:=by
 unfold strip at h
 simp only [Prod.mk.injEq] at h
 unfold br
 rw [decide_eq_false_iff_not,h.1,h.2.1]
 rintro ⟨h1,h2⟩
 rcases hne with hne | hne
 · rcases h1 with h1 | h1
   · exact hne.1 h1
   · exact hne.2 h1
 · exact hne h2
end Go.Sy.Ex
