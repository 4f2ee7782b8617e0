import Derived.Shelf.Small.Strs
import Derived.Shelf.Strconv.Itoa0
import Derived.Shelf.Strconv.Itoa1
import Derived.Shelf.LaysM
import Derived.Shelf.Strconv.Itoa2
import Derived.Shelf.Strconv.Itoa3
import Derived.Shelf.Strconv.ParseIntEmpty
import Derived.Shelf.Strconv.Clone
import Derived.Shelf.Strconv.SyntaxError
import Derived.Shelf.LaysC
import Derived.Shelf.Strconv.ToError
import Derived.Shelf.Strconv.Lower
import Derived.Shelf.Strconv.ParseUint10
import Derived.Shelf.Strconv.ParseUint10Empty
import Derived.Shelf.Strconv.ParseUint10Any
import Derived.Shelf.Strconv.ParseInt10
import Derived.Shelf.Strconv.RangeError
import Derived.Shelf.Strconv.ToErrorRange
import Derived.Shelf.Strconv.ParseUintEmpty
import Derived.Shelf.Strconv.ParseUint10b64
import Derived.Shelf.Strconv.ParseUint10b32
import Derived.Shelf.Strconv.ParseUint10b16
import Derived.Shelf.Strconv.ParseUint10b8
import Derived.Shelf.Strconv.ParseUint10At
import Derived.Shelf.Strconv.ParseInt10At64
import Derived.Shelf.Strconv.ParseInt10At32
import Derived.Shelf.Strconv.ParseInt10At16
import Derived.Shelf.Strconv.ParseInt10At8
import Derived.Shelf.Strconv.ParseInt10All
import Derived.Shelf.Strconv.ParseIntPublic10
import Derived.Shelf.Strings.Search1
import Derived.Shelf.Strings.Search2
import Derived.Shelf.Strings.Search3
import Derived.Shelf.Strings.Shaped
import Derived.Lib.ItoaMem
import Derived.Stop.LaidErr
import Derived.Shelf.Vars
import Derived.MakeChecks
import Derived.LaidHandle
import Derived.ChangeSame
import Derived.ChangeVars
import Derived.JoinedOf
import Derived.RowKit
import Derived.HandedShaped
import Derived.LaidMore
import Derived.LaidLaws
import Derived.Lay
import Derived.Test.YtogpgblanenleaaGreatDoorProg
import Derived.Test.YtogpgblanenleaaGreatDoorRows
import Derived.Test.YtogpgblanenleaaGreatDoorSc
set_option linter.unusedVariables false
set_option linter.unusedSimpArgs false
/-
 DERIVED:THE SHELF's CONTRACTS AT THIS DUMP,IN PLAIN WORDS (tools/lay-plain.mjs out of 'XAcL.lean',which tools/lay-shelf.mjs wrote):THE SAME DECLARATIONS UNDER THE SAME NAMES: 'import', 'namespace', 'open', 'def', 'theorem' AND NOTHING ELSE:no command of the shelf's:FOR A HAND-IN. Each laying:the table of numbers ('.._ren') and one theorem,a field a fact of the dump's own or the kernel's comparison; each contract:ONE APPLICATION.
-/
namespace Go.Proofs
open Go.Shelf
def Tryz.YJ:Go.Shelf.Ren:=⟨fun | 137=>94 | 217=>133 | 266=>155 | n=>n,fun | 9=>9 | 5=>5 | 3=>3 | n=>n,fun | n=>n⟩
theorem Tryz.YI:Go.Proofs.Lays.n137 Tryz.prog Tryz.YJ:= {
 mixed:=by kernel_rfl
 f137:=Tryz.func94.trans (congrArg some (by kernel_rfl))
 f217:=Tryz.func133.trans (congrArg some (by kernel_rfl))
 f266:=Tryz.func155.trans (congrArg some (by kernel_rfl))
 t3:=Tryz.underlying3
 a3:=Tryz.isAgg3
 z3:=Tryz.sizeOf3
 v3:=Tryz.zeroValue3
 t5:=Tryz.underlying5
 a5:=Tryz.isAgg5
 z5:=Tryz.sizeOf5
 v5:=Tryz.zeroValue5
 t9:=Tryz.underlying9
 a9:=Tryz.isAgg9
 z9:=Tryz.sizeOf9
 v9:=Tryz.zeroValue9 }
open Go.RowKit in
theorem Tryz.strings_IndexByte (s:ByteArray) (c:Int) (w:World):
 Calls Tryz.prog 94 #[.string s, .int .u8 c] w fun e w'=>e= .returned (.int .i64 (Lib.indexByte s.data.toList c.toNat.toUInt8))∧w'=w:=Any.strings_IndexByte Tryz.YI s c w
def Tryz.YL:Go.Shelf.Ren:=⟨fun | 144=>135 | 143=>158 | 219=>174 | 217=>133 | 225=>184 | 224=>185 | 267=>186 | 266=>155 | 314=>193 | n=>n,fun | 9=>9 | 4=>4 | 3=>3 | 5=>5 | 46=>221 | 146=>244 | 51=>243 | n=>n,fun | 1=>0 | n=>n⟩
theorem Tryz.YK:Go.Proofs.Lays.n144 Tryz.prog Tryz.YL:= {
 mixed:=by kernel_rfl
 f143:=Tryz.func158.trans (congrArg some (by kernel_rfl))
 f144:=Tryz.func135.trans (congrArg some (by kernel_rfl))
 f217:=Tryz.func133.trans (congrArg some (by kernel_rfl))
 f219:=Tryz.func174.trans (congrArg some (by kernel_rfl))
 f224:=Tryz.func185.trans (congrArg some (by kernel_rfl))
 f225:=Tryz.func184.trans (congrArg some (by kernel_rfl))
 f266:=Tryz.func155.trans (congrArg some (by kernel_rfl))
 f267:=Tryz.func186.trans (congrArg some (by kernel_rfl))
 f314:=Tryz.func193.trans (congrArg some (by kernel_rfl))
 t3:=Tryz.underlying3
 a3:=Tryz.isAgg3
 z3:=Tryz.sizeOf3
 v3:=Tryz.zeroValue3
 t4:=Tryz.underlying4
 a4:=Tryz.isAgg4
 z4:=Tryz.sizeOf4
 v4:=Tryz.zeroValue4
 t5:=Tryz.underlying5
 a5:=Tryz.isAgg5
 z5:=Tryz.sizeOf5
 v5:=Tryz.zeroValue5
 t9:=Tryz.underlying9
 a9:=Tryz.isAgg9
 z9:=Tryz.sizeOf9
 v9:=Tryz.zeroValue9
 t46:=Tryz.underlying221
 a46:=Tryz.isAgg221
 z46:=Tryz.sizeOf221
 v46:=Tryz.zeroValue221
 t51:=Tryz.underlying243
 a51:=Tryz.isAgg243
 z51:=Tryz.sizeOf243
 v51:=Tryz.zeroValue243
 t146:=Tryz.underlying244
 a146:=Tryz.isAgg244
 z146:=Tryz.sizeOf244
 v146:=Tryz.zeroValue244
 g1:=by kernel_rfl }
open Go.RowKit Go.Lib in
theorem Tryz.strings_Contains (s sub:ByteArray) (m:Int) (w:World) (hs:s.size<4294967281) (hm:w.cell? ⟨0,0,none⟩=some (.int .i64 m)):
 Calls Tryz.prog 135 #[.string s, .string sub] w fun e w'=>e= .returned (.bool (Lib.contains s.data.toList sub.data.toList))∧w'=w:=Any.strings_Contains Tryz.YK s sub m w hs hm
def Tryz.YM:Go.Shelf.Ren:=⟨fun | 174=>134 | 247=>156 | 245=>157 | 287=>169 | 279=>170 | 280=>171 | 281=>172 | 282=>173 | 321=>179 | 322=>180 | 316=>181 | 171=>183 | 205=>182 | 243=>192 | 246=>200 | 283=>211 | 284=>212 | 285=>213 | 286=>214 | 129=>226 | 317=>225 | 318=>227 | 319=>228 | 320=>229 | 337=>232 | 338=>233 | n=>n,fun | 9=>9 | 3=>3 | 2=>2 | 75=>189 | 85=>190 | 4=>4 | 167=>217 | 5=>5 | 53=>218 | 175=>219 | 46=>221 | 168=>222 | 37=>230 | 0=>0 | 210=>233 | 21=>21 | 127=>239 | 145=>242 | 143=>240 | 171=>271 | 173=>274 | 212=>280 | 51=>243 | 20=>20 | 213=>281 | 232=>284 | 233=>285 | 80=>112 | n=>n,fun | 15=>1 | 16=>2 | 17=>3 | 18=>4 | 19=>5 | n=>n⟩
theorem Tryz.IC:Go.Proofs.LaysC.n174 Tryz.prog Tryz.YM:= {
 mixed:=by kernel_rfl
 f129:=Tryz.func226.trans (congrArg some (by kernel_rfl))
 f171:=Tryz.func183.trans (congrArg some (by kernel_rfl))
 f174:=Tryz.func134.trans (congrArg some (by kernel_rfl))
 f205:=Tryz.func182.trans (congrArg some (by kernel_rfl))
 f243:=Tryz.func192.trans (congrArg some (by kernel_rfl))
 f245:=Tryz.func157.trans (congrArg some (by kernel_rfl))
 f246:=Tryz.func200.trans (congrArg some (by kernel_rfl))
 f247:=Tryz.func156.trans (congrArg some (by kernel_rfl))
 f279:=Tryz.func170.trans (congrArg some (by kernel_rfl))
 f280:=Tryz.func171.trans (congrArg some (by kernel_rfl))
 f281:=Tryz.func172.trans (congrArg some (by kernel_rfl))
 f282:=Tryz.func173.trans (congrArg some (by kernel_rfl))
 f283:=Tryz.func211.trans (congrArg some (by kernel_rfl))
 f284:=Tryz.func212.trans (congrArg some (by kernel_rfl))
 f285:=Tryz.func213.trans (congrArg some (by kernel_rfl))
 f286:=Tryz.func214.trans (congrArg some (by kernel_rfl))
 f287:=Tryz.func169.trans (congrArg some (by kernel_rfl))
 f316:=Tryz.func181.trans (congrArg some (by kernel_rfl))
 f317:=Tryz.func225.trans (congrArg some (by kernel_rfl))
 f318:=Tryz.func227.trans (congrArg some (by kernel_rfl))
 f319:=Tryz.func228.trans (congrArg some (by kernel_rfl))
 f320:=Tryz.func229.trans (congrArg some (by kernel_rfl))
 f321:=Tryz.func179.trans (congrArg some (by kernel_rfl))
 f322:=Tryz.func180.trans (congrArg some (by kernel_rfl))
 f337:=Tryz.func232.trans (congrArg some (by kernel_rfl))
 f338:=Tryz.func233.trans (congrArg some (by kernel_rfl))
 t0:=Tryz.underlying0
 a0:=Tryz.isAgg0
 z0:=Tryz.sizeOf0
 v0:=Tryz.zeroValue0
 t2:=Tryz.underlying2
 a2:=Tryz.isAgg2
 z2:=Tryz.sizeOf2
 v2:=Tryz.zeroValue2
 t3:=Tryz.underlying3
 a3:=Tryz.isAgg3
 z3:=Tryz.sizeOf3
 v3:=Tryz.zeroValue3
 t4:=Tryz.underlying4
 a4:=Tryz.isAgg4
 z4:=Tryz.sizeOf4
 v4:=Tryz.zeroValue4
 t5:=Tryz.underlying5
 a5:=Tryz.isAgg5
 z5:=Tryz.sizeOf5
 v5:=Tryz.zeroValue5
 t9:=Tryz.underlying9
 a9:=Tryz.isAgg9
 z9:=Tryz.sizeOf9
 v9:=Tryz.zeroValue9
 t20:=Tryz.underlying20
 a20:=Tryz.isAgg20
 z20:=Tryz.sizeOf20
 v20:=Tryz.zeroValue20
 t21:=Tryz.underlying21
 a21:=Tryz.isAgg21
 z21:=Tryz.sizeOf21
 v21:=Tryz.zeroValue21
 t37:=Tryz.underlying230
 a37:=Tryz.isAgg230
 z37:=Tryz.sizeOf230
 v37:=Tryz.zeroValue230
 t46:=Tryz.underlying221
 a46:=Tryz.isAgg221
 z46:=Tryz.sizeOf221
 v46:=Tryz.zeroValue221
 t51:=Tryz.underlying243
 a51:=Tryz.isAgg243
 z51:=Tryz.sizeOf243
 v51:=Tryz.zeroValue243
 t53:=Tryz.underlying218
 a53:=Tryz.isAgg218
 z53:=Tryz.sizeOf218
 v53:=Tryz.zeroValue218
 t75:=Tryz.underlying189
 a75:=Tryz.isAgg189
 z75:=Tryz.sizeOf189
 v75:=Tryz.zeroValue189
 t85:=Tryz.underlying190
 a85:=Tryz.isAgg190
 z85:=Tryz.sizeOf190
 v85:=Tryz.zeroValue190
 t127:=Tryz.underlying239
 a127:=Tryz.isAgg239
 z127:=Tryz.sizeOf239
 v127:=Tryz.zeroValue239
 t143:=Tryz.underlying240
 a143:=Tryz.isAgg240
 z143:=Tryz.sizeOf240
 v143:=Tryz.zeroValue240
 t145:=Tryz.underlying242
 a145:=Tryz.isAgg242
 z145:=Tryz.sizeOf242
 v145:=Tryz.zeroValue242
 t167:=Tryz.underlying217
 a167:=Tryz.isAgg217
 z167:=Tryz.sizeOf217
 v167:=Tryz.zeroValue217
 t168:=Tryz.underlying222
 a168:=Tryz.isAgg222
 z168:=Tryz.sizeOf222
 v168:=Tryz.zeroValue222
 t171:=Tryz.underlying271
 a171:=Tryz.isAgg271
 z171:=Tryz.sizeOf271
 v171:=Tryz.zeroValue271
 t173:=Tryz.underlying274
 a173:=Tryz.isAgg274
 z173:=Tryz.sizeOf274
 v173:=Tryz.zeroValue274
 t175:=Tryz.underlying219
 a175:=Tryz.isAgg219
 z175:=Tryz.sizeOf219
 v175:=Tryz.zeroValue219
 t210:=Tryz.underlying233
 a210:=Tryz.isAgg233
 z210:=Tryz.sizeOf233
 v210:=Tryz.zeroValue233
 t212:=Tryz.underlying280
 a212:=Tryz.isAgg280
 z212:=Tryz.sizeOf280
 v212:=Tryz.zeroValue280
 t213:=Tryz.underlying281
 a213:=Tryz.isAgg281
 z213:=Tryz.sizeOf281
 t232:=Tryz.underlying284
 a232:=Tryz.isAgg284
 z232:=Tryz.sizeOf284
 v232:=Tryz.zeroValue284
 t233:=Tryz.underlying285
 a233:=Tryz.isAgg285
 z233:=Tryz.sizeOf285
 v233:=Tryz.zeroValue285
 g15:=by kernel_rfl
 g16:=by kernel_rfl
 g17:=by kernel_rfl
 g18:=by kernel_rfl
 g19:=by kernel_rfl
 t80:=Tryz.underlying112
 a80:=Tryz.isAgg112
 z80:=Tryz.sizeOf112
 v80:=Tryz.zeroValue112
 i0:=by kernel_rfl
 i2:=by kernel_rfl
 i3:=by kernel_rfl
 i4:=by kernel_rfl
 i5:=by kernel_rfl
 i9:=by kernel_rfl
 i20:=by kernel_rfl
 i21:=by kernel_rfl
 i37:=by kernel_rfl
 i46:=by kernel_rfl
 i51:=by kernel_rfl
 i53:=by kernel_rfl
 i75:=by kernel_rfl
 i80:=by kernel_rfl
 i85:=by kernel_rfl
 i127:=by kernel_rfl
 i143:=by kernel_rfl
 i145:=by kernel_rfl
 i167:=by kernel_rfl
 i168:=by kernel_rfl
 i171:=by kernel_rfl
 i173:=by kernel_rfl
 i175:=by kernel_rfl
 i210:=by kernel_rfl
 i212:=by kernel_rfl
 i232:=by kernel_rfl
 i233:=by kernel_rfl
 m15:=by kernel_rfl
 m16:=by kernel_rfl
 m17:=by kernel_rfl
 m18:=by kernel_rfl
 m19:=by kernel_rfl
 c0:=by kernel_rfl
 c2:=by kernel_rfl
 c3:=by kernel_rfl
 c4:=by kernel_rfl
 c5:=by kernel_rfl
 c9:=by kernel_rfl
 c20:=by kernel_rfl
 c21:=by kernel_rfl
 c37:=by kernel_rfl
 c46:=by kernel_rfl
 c51:=by kernel_rfl
 c53:=by kernel_rfl
 c75:=by kernel_rfl
 c80:=by kernel_rfl
 c85:=by kernel_rfl
 c127:=by kernel_rfl
 c143:=by kernel_rfl
 c145:=by kernel_rfl
 c167:=by kernel_rfl
 c168:=by kernel_rfl
 c171:=by kernel_rfl
 c173:=by kernel_rfl
 c175:=by kernel_rfl
 c210:=by kernel_rfl
 c212:=by kernel_rfl
 c213:=by kernel_rfl
 c232:=by kernel_rfl
 c233:=by kernel_rfl }
open Go.RowKit in
theorem Tryz.strconv_ParseInt_10_at64_ok (s:ByteArray) (hmax:s.size≤9223372036854775806) (v:Int) (h:Lib.parseIntB 64 s.data.toList= .ok v) (w:World):
 Calls Tryz.prog 134 #[.string s, .int .i64 10, .int .i64 64] w fun e w'=>e= .returned (.tuple #[.int .i64 v, .nilIface])∧(w'=w∨ ∃ t,w'=Lib.bytesWorld w 5 t):=Any.strconv_ParseInt_10_at64_ok Tryz.IC s hmax v h w
open Go.RowKit in
theorem Tryz.strconv_ParseInt_10_at64_range (s:ByteArray) (hlim:s.size≤281474976710656) (h:Lib.parseIntB 64 s.data.toList= .range) (ev:Value) (w:World) (hv:w.cell? ⟨2,0,none⟩=some ev) (hev:ev= .nilIface∨ ∃ te pe,ev= .iface te pe):
 Calls Tryz.prog 134 #[.string s, .int .i64 10, .int .i64 64] w fun e w'=> ∃ N,e= .returned (.tuple #[.int .i64 (Lib.intSat 64 s.data.toList), .iface 222 (.pointer (some ⟨N,0,none⟩))])∧w.heap.size≤N∧w'.heap[N]? =some (.cells #[.string ⟨#[80,97,114,115,101,73,110,116]⟩, .string s,ev] 233 (0,0))∧Below w.heap.size w w':=Any.strconv_ParseInt_10_at64_range Tryz.IC s hlim h ev w hv hev
end Go.Proofs
namespace Go.Proofs
open Go.Shelf
end Go.Proofs
set_option maxRecDepth 100000
namespace Go.Sy.Ex
open Go.Sy Go.Proofs
noncomputable section
structure aX where
 Name:List UInt8
 N:Int
 At:Int
 deriving DecidableEq
def aX.z:aX:=⟨[],0,0⟩
structure an where
 Kind:Int
 N:Int
 Name:List UInt8
 Kids:List an
 At:Int
def an.z:an:=⟨0,0,[],[],0⟩
structure ak where
 Kind:Int
 Name:List UInt8
 Event:List UInt8
 X:List an
 N:Int
 gh:List ak
 fG:List ak
 At:Int
def ak.z:ak:=⟨0,[],[],[],0,[],[],0⟩
structure aW where
 Event:List UInt8
 Guard:List an
 Target:List UInt8
 uh:List ak
 At:Int
def aW.z:aW:=⟨[],[],[],[],0⟩
structure aG where
 Kind:Int
 Name:List UInt8
 Entry:List ak
 Exit:List ak
 Trans:List aW
 Kids:List aG
 At:Int
def aG.z:aG:=⟨0,[],[],[],[],[],0⟩
structure aZ where
 Name:List UInt8
 Steps:Int
 Fuel:Int
 Vars:List aX
 wM:List aX
 wP:List aX
 oH:List aG
 At:Int
def aZ.z:aZ:=⟨[],0,0,[],[],[],[],0⟩
structure bl where
 Name:List UInt8
 zB:List UInt8
 zI:Int
 Ext:Int
 Prio:Int
 At:Int
 deriving DecidableEq
def bl.z:bl:=⟨[],[],0,0,0,0⟩
structure bk where
 Name:List UInt8
 cx:List UInt8
 Port:List UInt8
 To:List UInt8
 Cap:Int
 Prio:Int
 At:Int
 deriving DecidableEq
def bk.z:bk:=⟨[],[],[],[],0,0,0⟩
structure bL where
 zJ:Int
 Sets:List (List (List UInt8))
 um:List (List (List UInt8))
 At:Int
 deriving DecidableEq
def bL.z:bL:=⟨0,[],[],0⟩
structure a_ where
 Name:List UInt8
 qg:List UInt8
 qh:List UInt8
 qi:List UInt8
 Insts:List (List UInt8)
 eg:List (List UInt8)
 Cells:List bL
 At:Int
 deriving DecidableEq
def a_.z:a_:=⟨[],[],[],[],[],[],[],0⟩
structure bP where
 jF:Int
 gy:List aZ
 Insts:List bl
 eg:List bk
 fM:List a_
def bP.z:bP:=⟨0,[],[],[],[]⟩
structure az where
 Code:Int
 At:Int
 deriving DecidableEq
def az.z:az:=⟨0,0⟩
structure ai where
 Kind:Int
 At:Int
 End:Int
 Text:List UInt8
 N:Int
 deriving DecidableEq
def ai.z:ai:=⟨0,0,0,[],0⟩
structure aU where
 L:List ai
 At:Int
 av:az
 deriving DecidableEq
def aU.z:aU:=⟨[],0,az.z⟩
structure aC where
 Row:aU
 deriving DecidableEq
def aC.z:aC:=⟨aU.z⟩
structure aE where
 Row:aU
 deriving DecidableEq
def aE.z:aE:=⟨aU.z⟩
structure aK where
 Row:aU
 bG:Int
 deriving DecidableEq
def aK.z:aK:=⟨aU.z,0⟩
structure aS where
 Row:aU
 bG:Int
 deriving DecidableEq
def aS.z:aS:=⟨aU.z,0⟩
structure aH where
 l:List ai
 ah:Int
 bad:az
 deriving DecidableEq
def aH.z:aH:=⟨[],0,az.z⟩
structure aB where
 l:List ai
 ah:Int
 bad:az
 deriving DecidableEq
def aB.z:aB:=⟨[],0,az.z⟩
structure bf where
 l:List ai
 ah:Int
 bG:Int
 bad:az
 deriving DecidableEq
def bf.z:bf:=⟨[],0,0,az.z⟩
def C:Nat→Type
 | 0=>bP
 | 1=>aZ
 | 2=>aX
 | 3=>aG
 | 4=>ak
 | 5=>an
 | 6=>aW
 | 7=>bl
 | 8=>bk
 | 9=>a_
 | 10=>bL
 | 11=>az
 | 12=>ai
 | 13=>aU
 | 14=>aC
 | 15=>aE
 | 16=>aK
 | 17=>aS
 | 18=>List UInt8×List UInt8×List UInt8×List UInt8×List UInt8×List UInt8×List UInt8
 | 19=>aH
 | 20=>aB
 | 21=>List UInt8×List UInt8×List UInt8×List UInt8×List UInt8×List UInt8×List UInt8×List UInt8×List UInt8×List UInt8×List UInt8×List UInt8×List UInt8×List UInt8×List UInt8×List UInt8×List UInt8×List UInt8×List UInt8×List UInt8×List UInt8×List UInt8×List UInt8×List UInt8×List UInt8×List UInt8×List UInt8×List UInt8×List UInt8×List UInt8×List UInt8×List UInt8×List UInt8×List UInt8×List UInt8
 | 22=>bf
 | _+23=>Unit
def F:Nat→List Ty
 | 0=> [.int .i64, .sl (.st 1), .sl (.st 7), .sl (.st 8), .sl (.st 9)]
 | 1=> [.str, .int .i64, .int .i64, .sl (.st 2), .sl (.st 2), .sl (.st 2), .sl (.st 3), .int .i64]
 | 2=> [.str, .int .i64, .int .i64]
 | 3=> [.int .i64, .str, .sl (.st 4), .sl (.st 4), .sl (.st 6), .sl (.st 3), .int .i64]
 | 4=> [.int .i64, .str, .str, .sl (.st 5), .int .i64, .sl (.st 4), .sl (.st 4), .int .i64]
 | 5=> [.int .i64, .int .i64, .str, .sl (.st 5), .int .i64]
 | 6=> [.str, .sl (.st 5), .str, .sl (.st 4), .int .i64]
 | 7=> [.str, .str, .int .i64, .int .i64, .int .i64, .int .i64]
 | 8=> [.str, .str, .str, .str, .int .i64, .int .i64, .int .i64]
 | 9=> [.str, .str, .str, .str, .sl .str, .sl .str, .sl (.st 10), .int .i64]
 | 10=> [.int .i64, .sl (.sl .str), .sl (.sl .str), .int .i64]
 | 11=> [.int .i64, .int .i64]
 | 12=> [.int .i64, .int .i64, .int .i64, .str, .int .i64]
 | 13=> [.sl (.st 12), .int .i64, .int .i64, .int .i64]
 | 14=> [.sl (.st 12), .int .i64, .int .i64, .int .i64]
 | 15=> [.sl (.st 12), .int .i64, .int .i64, .int .i64]
 | 16=> [.sl (.st 12), .int .i64, .int .i64, .int .i64, .int .i64]
 | 17=> [.sl (.st 12), .int .i64, .int .i64, .int .i64, .int .i64]
 | 18=> [.str, .str, .str, .str, .str, .str, .str]
 | 19=> [.sl (.st 12), .int .i64, .int .i64, .int .i64]
 | 20=> [.sl (.st 12), .int .i64, .int .i64, .int .i64]
 | 21=> [.str, .str, .str, .str, .str, .str, .str, .str, .str, .str, .str, .str, .str, .str, .str, .str, .str, .str, .str, .str, .str, .str, .str, .str, .str, .str, .str, .str, .str, .str, .str, .str, .str, .str, .str]
 | 22=> [.sl (.st 12), .int .i64, .int .i64, .int .i64, .int .i64]
 | _+23=> []
def ex:(t:Nat)→C t→aA C (F t)
 | 0,(x:bP)=>(x.jF,x.gy,x.Insts,x.eg,x.fM)
 | 1,(x:aZ)=>(x.Name,x.Steps,x.Fuel,x.Vars,x.wM,x.wP,x.oH,x.At)
 | 2,(x:aX)=>(x.Name,x.N,x.At)
 | 3,(x:aG)=>(x.Kind,x.Name,x.Entry,x.Exit,x.Trans,x.Kids,x.At)
 | 4,(x:ak)=>(x.Kind,x.Name,x.Event,x.X,x.N,x.gh,x.fG,x.At)
 | 5,(x:an)=>(x.Kind,x.N,x.Name,x.Kids,x.At)
 | 6,(x:aW)=>(x.Event,x.Guard,x.Target,x.uh,x.At)
 | 7,(x:bl)=>(x.Name,x.zB,x.zI,x.Ext,x.Prio,x.At)
 | 8,(x:bk)=>(x.Name,x.cx,x.Port,x.To,x.Cap,x.Prio,x.At)
 | 9,(x:a_)=>(x.Name,x.qg,x.qh,x.qi,x.Insts,x.eg,x.Cells,x.At)
 | 10,(x:bL)=>(x.zJ,x.Sets,x.um,x.At)
 | 11,(x:az)=>(x.Code,x.At)
 | 12,(x:ai)=>(x.Kind,x.At,x.End,x.Text,x.N)
 | 13,(x:aU)=>(x.L,x.At,x.av.Code,x.av.At)
 | 14,(x:aC)=>(x.Row.L,x.Row.At,x.Row.av.Code,x.Row.av.At)
 | 15,(x:aE)=>(x.Row.L,x.Row.At,x.Row.av.Code,x.Row.av.At)
 | 16,(x:aK)=>(x.Row.L,x.Row.At,x.Row.av.Code,x.Row.av.At,x.bG)
 | 17,(x:aS)=>(x.Row.L,x.Row.At,x.Row.av.Code,x.Row.av.At,x.bG)
 | 18,(x:List UInt8×List UInt8×List UInt8×List UInt8×List UInt8×List UInt8×List UInt8)=>(x.1,x.2.1,x.2.2.1,x.2.2.2.1,x.2.2.2.2.1,x.2.2.2.2.2.1,x.2.2.2.2.2.2)
 | 19,(x:aH)=>(x.l,x.ah,x.bad.Code,x.bad.At)
 | 20,(x:aB)=>(x.l,x.ah,x.bad.Code,x.bad.At)
 | 21,(x:List UInt8×List UInt8×List UInt8×List UInt8×List UInt8×List UInt8×List UInt8×List UInt8×List UInt8×List UInt8×List UInt8×List UInt8×List UInt8×List UInt8×List UInt8×List UInt8×List UInt8×List UInt8×List UInt8×List UInt8×List UInt8×List UInt8×List UInt8×List UInt8×List UInt8×List UInt8×List UInt8×List UInt8×List UInt8×List UInt8×List UInt8×List UInt8×List UInt8×List UInt8×List UInt8)=>(x.1,x.2.1,x.2.2.1,x.2.2.2.1,x.2.2.2.2.1,x.2.2.2.2.2.1,x.2.2.2.2.2.2.1,x.2.2.2.2.2.2.2.1,x.2.2.2.2.2.2.2.2.1,x.2.2.2.2.2.2.2.2.2.1,x.2.2.2.2.2.2.2.2.2.2.1,x.2.2.2.2.2.2.2.2.2.2.2.1,x.2.2.2.2.2.2.2.2.2.2.2.2.1,x.2.2.2.2.2.2.2.2.2.2.2.2.2.1,x.2.2.2.2.2.2.2.2.2.2.2.2.2.2.1,x.2.2.2.2.2.2.2.2.2.2.2.2.2.2.2.1,x.2.2.2.2.2.2.2.2.2.2.2.2.2.2.2.2.1,x.2.2.2.2.2.2.2.2.2.2.2.2.2.2.2.2.2.1,x.2.2.2.2.2.2.2.2.2.2.2.2.2.2.2.2.2.2.1,x.2.2.2.2.2.2.2.2.2.2.2.2.2.2.2.2.2.2.2.1,x.2.2.2.2.2.2.2.2.2.2.2.2.2.2.2.2.2.2.2.2.1,x.2.2.2.2.2.2.2.2.2.2.2.2.2.2.2.2.2.2.2.2.2.1,x.2.2.2.2.2.2.2.2.2.2.2.2.2.2.2.2.2.2.2.2.2.2.1,x.2.2.2.2.2.2.2.2.2.2.2.2.2.2.2.2.2.2.2.2.2.2.2.1,x.2.2.2.2.2.2.2.2.2.2.2.2.2.2.2.2.2.2.2.2.2.2.2.2.1,x.2.2.2.2.2.2.2.2.2.2.2.2.2.2.2.2.2.2.2.2.2.2.2.2.2.1,x.2.2.2.2.2.2.2.2.2.2.2.2.2.2.2.2.2.2.2.2.2.2.2.2.2.2.1,x.2.2.2.2.2.2.2.2.2.2.2.2.2.2.2.2.2.2.2.2.2.2.2.2.2.2.2.1,x.2.2.2.2.2.2.2.2.2.2.2.2.2.2.2.2.2.2.2.2.2.2.2.2.2.2.2.2.1,x.2.2.2.2.2.2.2.2.2.2.2.2.2.2.2.2.2.2.2.2.2.2.2.2.2.2.2.2.2.1,x.2.2.2.2.2.2.2.2.2.2.2.2.2.2.2.2.2.2.2.2.2.2.2.2.2.2.2.2.2.2.1,x.2.2.2.2.2.2.2.2.2.2.2.2.2.2.2.2.2.2.2.2.2.2.2.2.2.2.2.2.2.2.2.1,x.2.2.2.2.2.2.2.2.2.2.2.2.2.2.2.2.2.2.2.2.2.2.2.2.2.2.2.2.2.2.2.2.1,x.2.2.2.2.2.2.2.2.2.2.2.2.2.2.2.2.2.2.2.2.2.2.2.2.2.2.2.2.2.2.2.2.2.1,x.2.2.2.2.2.2.2.2.2.2.2.2.2.2.2.2.2.2.2.2.2.2.2.2.2.2.2.2.2.2.2.2.2.2)
 | 22,(x:bf)=>(x.l,x.ah,x.bG,x.bad.Code,x.bad.At)
 | _+23,_=>()
def im:(t:Nat)→aA C (F t)→C t
 | 0,(a0,a1,a2,a3,a4)=>bP.mk a0 a1 a2 a3 a4
 | 1,(a0,a1,a2,a3,a4,a5,a6,a7)=>aZ.mk a0 a1 a2 a3 a4 a5 a6 a7
 | 2,(a0,a1,a2)=>aX.mk a0 a1 a2
 | 3,(a0,a1,a2,a3,a4,a5,a6)=>aG.mk a0 a1 a2 a3 a4 a5 a6
 | 4,(a0,a1,a2,a3,a4,a5,a6,a7)=>ak.mk a0 a1 a2 a3 a4 a5 a6 a7
 | 5,(a0,a1,a2,a3,a4)=>an.mk a0 a1 a2 a3 a4
 | 6,(a0,a1,a2,a3,a4)=>aW.mk a0 a1 a2 a3 a4
 | 7,(a0,a1,a2,a3,a4,a5)=>bl.mk a0 a1 a2 a3 a4 a5
 | 8,(a0,a1,a2,a3,a4,a5,a6)=>bk.mk a0 a1 a2 a3 a4 a5 a6
 | 9,(a0,a1,a2,a3,a4,a5,a6,a7)=>a_.mk a0 a1 a2 a3 a4 a5 a6 a7
 | 10,(a0,a1,a2,a3)=>bL.mk a0 a1 a2 a3
 | 11,(a0,a1)=>az.mk a0 a1
 | 12,(a0,a1,a2,a3,a4)=>ai.mk a0 a1 a2 a3 a4
 | 13,(a0,a1,a2,a3)=>aU.mk a0 a1 (az.mk a2 a3)
 | 14,(a0,a1,a2,a3)=>aC.mk (aU.mk a0 a1 (az.mk a2 a3))
 | 15,(a0,a1,a2,a3)=>aE.mk (aU.mk a0 a1 (az.mk a2 a3))
 | 16,(a0,a1,a2,a3,a4)=>aK.mk (aU.mk a0 a1 (az.mk a2 a3)) a4
 | 17,(a0,a1,a2,a3,a4)=>aS.mk (aU.mk a0 a1 (az.mk a2 a3)) a4
 | 18,(a0,a1,a2,a3,a4,a5,a6)=>(a0,a1,a2,a3,a4,a5,a6)
 | 19,(a0,a1,a2,a3)=>aH.mk a0 a1 (az.mk a2 a3)
 | 20,(a0,a1,a2,a3)=>aB.mk a0 a1 (az.mk a2 a3)
 | 21,(a0,a1,a2,a3,a4,a5,a6,a7,a8,a9,Tv,Tw,a12,Tx,Tz,TA,TB,TC,TD,TE,a20,a21,TF,TG,a24,TH,TI,TJ,a28,TK,TL,a31,a32,TM,TN)=>(a0,a1,a2,a3,a4,a5,a6,a7,a8,a9,Tv,Tw,a12,Tx,Tz,TA,TB,TC,TD,TE,a20,a21,TF,TG,a24,TH,TI,TJ,a28,TK,TL,a31,a32,TM,TN)
 | 22,(a0,a1,a2,a3,a4)=>bf.mk a0 a1 a2 (az.mk a3 a4)
 | _+23,_=>()
def gA:Nat→List (Nat×Ty)
 | 0=> [(0, .int .i64),(1, .sl (.st 1)),(2, .sl (.st 7)),(3, .sl (.st 8)),(4, .sl (.st 9))]
 | 1=> [(0, .str),(1, .int .i64),(2, .int .i64),(3, .sl (.st 2)),(4, .sl (.st 2)),(5, .sl (.st 2)),(6, .sl (.st 3)),(7, .int .i64)]
 | 2=> [(0, .str),(1, .int .i64),(2, .int .i64)]
 | 3=> [(0, .int .i64),(1, .str),(2, .sl (.st 4)),(3, .sl (.st 4)),(4, .sl (.st 6)),(5, .sl (.st 3)),(6, .int .i64)]
 | 4=> [(0, .int .i64),(1, .str),(2, .str),(3, .sl (.st 5)),(4, .int .i64),(5, .sl (.st 4)),(6, .sl (.st 4)),(7, .int .i64)]
 | 5=> [(0, .int .i64),(1, .int .i64),(2, .str),(3, .sl (.st 5)),(4, .int .i64)]
 | 6=> [(0, .str),(1, .sl (.st 5)),(2, .str),(3, .sl (.st 4)),(4, .int .i64)]
 | 7=> [(0, .str),(1, .str),(2, .int .i64),(3, .int .i64),(4, .int .i64),(5, .int .i64)]
 | 8=> [(0, .str),(1, .str),(2, .str),(3, .str),(4, .int .i64),(5, .int .i64),(6, .int .i64)]
 | 9=> [(0, .str),(1, .str),(2, .str),(3, .str),(4, .sl .str),(5, .sl .str),(6, .sl (.st 10)),(7, .int .i64)]
 | 10=> [(0, .int .i64),(1, .sl (.sl .str)),(2, .sl (.sl .str)),(3, .int .i64)]
 | 11=> [(0, .int .i64),(1, .int .i64)]
 | 12=> [(0, .int .i64),(1, .int .i64),(2, .int .i64),(3, .str),(4, .int .i64)]
 | 13=> [(0, .sl (.st 12)),(1, .int .i64),(2, .st 11)]
 | 14=> [(0, .st 13)]
 | 15=> [(0, .st 13)]
 | 16=> [(0, .st 13),(4, .int .i64)]
 | 17=> [(0, .st 13),(4, .int .i64)]
 | 18=>tI (.str) 7 0
 | 19=> [(0, .sl (.st 12)),(1, .int .i64),(2, .st 11)]
 | 20=> [(0, .sl (.st 12)),(1, .int .i64),(2, .st 11)]
 | 21=>tI (.str) 35 0
 | 22=> [(0, .sl (.st 12)),(1, .int .i64),(2, .int .i64),(3, .st 11)]
 | _+23=> []
def z:(t:Nat)→C t
 | 0=>bP.z
 | 1=>aZ.z
 | 2=>aX.z
 | 3=>aG.z
 | 4=>ak.z
 | 5=>an.z
 | 6=>aW.z
 | 7=>bl.z
 | 8=>bk.z
 | 9=>a_.z
 | 10=>bL.z
 | 11=>az.z
 | 12=>ai.z
 | 13=>aU.z
 | 14=>aC.z
 | 15=>aE.z
 | 16=>aK.z
 | 17=>aS.z
 | 18=>([],[],[],[],[],[],[])
 | 19=>aH.z
 | 20=>aB.z
 | 21=>([],[],[],[],[],[],[],[],[],[],[],[],[],[],[],[],[],[],[],[],[],[],[],[],[],[],[],[],[],[],[],[],[],[],[])
 | 22=>bf.z
 | _+23=>()
def Kx:List (Nat×Ty):= [(2, .int .i64),(3, .int .i64),(4, .bool),(5, .int .u8),(9, .str),(26, .sl (.st 1)),(27, .sl (.st 7)),(28, .sl (.st 8)),(29, .sl (.st 9)),(31, .st 0),(32, .int .i64),(34, .st 11),(37, .sl (.st 12)),(50, .st 13),(52, .st 14),(56, .st 12),(61, .st 19),(65, .sl (.st 2)),(66, .sl (.st 3)),(68, .st 1),(71, .st 7),(74, .st 8),(76, .sl .str),(77, .sl (.st 10)),(79, .st 9),(114, .sl (.sl .str)),(116, .st 10),(128, .sl (.st 4)),(130, .sl (.st 5)),(132, .st 6),(133, .sl (.st 6)),(135, .st 3),(138, .st 4),(142, .st 2),(152, .st 15),(157, .st 18),(160, .st 20),(185, .st 5),(212, .st 21),(248, .st 16),(251, .st 17),(258, .st 22)]
def Ur:List (Nat×(Nat×Ty)):= [(157,7, .str),(212,35, .str)]
def Hj:List (Nat×Unit):= [(34,()),(71,()),(74,())]
def Iq:List (Nat×Unit):= [(189,())]
def Jc:List (Nat×Unit):= []
def spT:List (Nat×Unit):= []
abbrev S:bB:=⟨C,F,ex,im,fun u f=>(gA u)[f]?,z,look Kx,fun t=>(look Jc t).isSome,look Ur,fun t=>(look Hj t).isSome,fun t=>(look Iq t).isSome,[((0,0),fun v=> ∃ m,v= .int .i64 m),((2,0),fun v=>v= .nilIface∨ ∃ t p,v= .iface t p),((1,0),fun v=>v= .nilIface∨ ∃ t p,v= .iface t p)],[(3,fun ob=> ∃ t f,ob= .cells (Go.Lib.pow10Tab.map fun z=>Value.int .u64 z).toArray t f)],none,fun t=>(look spT t).isSome⟩
def UQ:List (Nat×Nat):= [(26,136),(27,64),(28,88),(29,144),(37,48),(65,32),(66,128),(76,16),(77,64),(114,24),(128,128),(130,64),(133,88)]
def ay (t:Nat):Nat:=(look UQ t).getD 1
theorem J9:dU S:=⟨fun | 0=>rfl | 1=>rfl | 2=>rfl | 3=>rfl | 4=>rfl | 5=>rfl | 6=>rfl | 7=>rfl | 8=>rfl | 9=>rfl | 10=>rfl | 11=>rfl | 12=>rfl | 13=>rfl | 14=>rfl | 15=>rfl | 16=>rfl | 17=>rfl | 18=>rfl | 19=>rfl | 20=>rfl | 21=>rfl | 22=>rfl | _+23=>rfl,fun | 0,_=>rfl | 1,_=>rfl | 2,_=>rfl | 3,_=>rfl | 4,_=>rfl | 5,_=>rfl | 6,_=>rfl | 7,_=>rfl | 8,_=>rfl | 9,_=>rfl | 10,_=>rfl | 11,_=>rfl | 12,_=>rfl | 13,_=>rfl | 14,_=>rfl | 15,_=>rfl | 16,_=>rfl | 17,_=>rfl | 18,_=>rfl | 19,_=>rfl | 20,_=>rfl | 21,_=>rfl | 22,_=>rfl | _+23,_=>rfl⟩
theorem ty2:cc Tryz.prog S ay 2 (.int .i64):=FP rfl (by kernel_rfl) (by kernel_rfl) (by kernel_rfl)
theorem ty3:cc Tryz.prog S ay 3 (.int .i64):=FP rfl (by kernel_rfl) (by kernel_rfl) (by kernel_rfl)
theorem ty4:cc Tryz.prog S ay 4 (.bool):=afC rfl (by kernel_rfl) (by kernel_rfl) (by kernel_rfl)
theorem ty5:cc Tryz.prog S ay 5 (.int .u8):=FP rfl (by kernel_rfl) (by kernel_rfl) (by kernel_rfl)
theorem ty9:cc Tryz.prog S ay 9 (.str):=Sv rfl (by kernel_rfl) (by kernel_rfl) (by kernel_rfl)
theorem afd:cc Tryz.prog S ay 26 (.sl (.st 1)):=l8 rfl (by kernel_rfl) (by kernel_rfl) Tryz.underlying26 rfl rfl (by kernel_rfl) (by kernel_rfl)
theorem afe:cc Tryz.prog S ay 27 (.sl (.st 7)):=l8 rfl (by kernel_rfl) (by kernel_rfl) Tryz.underlying27 rfl rfl (by kernel_rfl) (by kernel_rfl)
theorem aff:cc Tryz.prog S ay 28 (.sl (.st 8)):=l8 rfl (by kernel_rfl) (by kernel_rfl) Tryz.underlying28 rfl rfl (by kernel_rfl) (by kernel_rfl)
theorem afg:cc Tryz.prog S ay 29 (.sl (.st 9)):=l8 rfl (by kernel_rfl) (by kernel_rfl) Tryz.underlying29 rfl rfl (by kernel_rfl) (by kernel_rfl)
theorem afi:cc Tryz.prog S ay 31 (.st 0):=gX (l:=gA 0) rfl (by kernel_rfl) rfl (by kernel_rfl) (by kernel_rfl) rfl (by kernel_rfl) Tryz.underlying31 (by kernel_rfl) (fun _=>rfl) rfl
theorem afj:cc Tryz.prog S ay 32 (.int .i64):=FP rfl (by kernel_rfl) (by kernel_rfl) (by kernel_rfl)
theorem afk:cc Tryz.prog S ay 34 (.st 11):=gX (l:=gA 11) rfl (by kernel_rfl) rfl (by kernel_rfl) (by kernel_rfl) rfl (by kernel_rfl) Tryz.underlying34 (by kernel_rfl) (fun _=>rfl) rfl
theorem afl:cc Tryz.prog S ay 37 (.sl (.st 12)):=l8 rfl (by kernel_rfl) (by kernel_rfl) Tryz.underlying37 rfl rfl (by kernel_rfl) (by kernel_rfl)
theorem afo:cc Tryz.prog S ay 50 (.st 13):=gX (l:=gA 13) rfl (by kernel_rfl) rfl (by kernel_rfl) (by kernel_rfl) rfl (by kernel_rfl) Tryz.underlying50 (by kernel_rfl) (fun _=>rfl) rfl
theorem afp:cc Tryz.prog S ay 52 (.st 14):=gX (l:=gA 14) rfl (by kernel_rfl) rfl (by kernel_rfl) (by kernel_rfl) rfl (by kernel_rfl) Tryz.underlying52 (by kernel_rfl) (fun _=>rfl) rfl
theorem afq:cc Tryz.prog S ay 56 (.st 12):=gX (l:=gA 12) rfl (by kernel_rfl) rfl (by kernel_rfl) (by kernel_rfl) rfl (by kernel_rfl) Tryz.underlying56 (by kernel_rfl) (fun _=>rfl) rfl
theorem afr:cc Tryz.prog S ay 61 (.st 19):=gX (l:=gA 19) rfl (by kernel_rfl) rfl (by kernel_rfl) (by kernel_rfl) rfl (by kernel_rfl) Tryz.underlying61 (by kernel_rfl) (fun _=>rfl) rfl
theorem afs:cc Tryz.prog S ay 65 (.sl (.st 2)):=l8 rfl (by kernel_rfl) (by kernel_rfl) Tryz.underlying65 rfl rfl (by kernel_rfl) (by kernel_rfl)
theorem aft:cc Tryz.prog S ay 66 (.sl (.st 3)):=l8 rfl (by kernel_rfl) (by kernel_rfl) Tryz.underlying66 rfl rfl (by kernel_rfl) (by kernel_rfl)
theorem afu:cc Tryz.prog S ay 68 (.st 1):=gX (l:=gA 1) rfl (by kernel_rfl) rfl (by kernel_rfl) (by kernel_rfl) rfl (by kernel_rfl) Tryz.underlying68 (by kernel_rfl) (fun _=>rfl) rfl
theorem afv:cc Tryz.prog S ay 71 (.st 7):=gX (l:=gA 7) rfl (by kernel_rfl) rfl (by kernel_rfl) (by kernel_rfl) rfl (by kernel_rfl) Tryz.underlying71 (by kernel_rfl) (fun _=>rfl) rfl
theorem afw:cc Tryz.prog S ay 74 (.st 8):=gX (l:=gA 8) rfl (by kernel_rfl) rfl (by kernel_rfl) (by kernel_rfl) rfl (by kernel_rfl) Tryz.underlying74 (by kernel_rfl) (fun _=>rfl) rfl
theorem afx:cc Tryz.prog S ay 76 (.sl .str):=l8 rfl (by kernel_rfl) (by kernel_rfl) Tryz.underlying76 rfl rfl (by kernel_rfl) (by kernel_rfl)
theorem afy:cc Tryz.prog S ay 77 (.sl (.st 10)):=l8 rfl (by kernel_rfl) (by kernel_rfl) Tryz.underlying77 rfl rfl (by kernel_rfl) (by kernel_rfl)
theorem afz:cc Tryz.prog S ay 79 (.st 9):=gX (l:=gA 9) rfl (by kernel_rfl) rfl (by kernel_rfl) (by kernel_rfl) rfl (by kernel_rfl) Tryz.underlying79 (by kernel_rfl) (fun _=>rfl) rfl
theorem aeW:cc Tryz.prog S ay 114 (.sl (.sl .str)):=l8 rfl (by kernel_rfl) (by kernel_rfl) Tryz.underlying114 rfl rfl (by kernel_rfl) (by kernel_rfl)
theorem aeX:cc Tryz.prog S ay 116 (.st 10):=gX (l:=gA 10) rfl (by kernel_rfl) rfl (by kernel_rfl) (by kernel_rfl) rfl (by kernel_rfl) Tryz.underlying116 (by kernel_rfl) (fun _=>rfl) rfl
theorem aeY:cc Tryz.prog S ay 128 (.sl (.st 4)):=l8 rfl (by kernel_rfl) (by kernel_rfl) Tryz.underlying128 rfl rfl (by kernel_rfl) (by kernel_rfl)
theorem aeZ:cc Tryz.prog S ay 130 (.sl (.st 5)):=l8 rfl (by kernel_rfl) (by kernel_rfl) Tryz.underlying130 rfl rfl (by kernel_rfl) (by kernel_rfl)
theorem ae0:cc Tryz.prog S ay 132 (.st 6):=gX (l:=gA 6) rfl (by kernel_rfl) rfl (by kernel_rfl) (by kernel_rfl) rfl (by kernel_rfl) Tryz.underlying132 (by kernel_rfl) (fun _=>rfl) rfl
theorem ae1:cc Tryz.prog S ay 133 (.sl (.st 6)):=l8 rfl (by kernel_rfl) (by kernel_rfl) Tryz.underlying133 rfl rfl (by kernel_rfl) (by kernel_rfl)
theorem ae2:cc Tryz.prog S ay 135 (.st 3):=gX (l:=gA 3) rfl (by kernel_rfl) rfl (by kernel_rfl) (by kernel_rfl) rfl (by kernel_rfl) Tryz.underlying135 (by kernel_rfl) (fun _=>rfl) rfl
theorem ae3:cc Tryz.prog S ay 138 (.st 4):=gX (l:=gA 4) rfl (by kernel_rfl) rfl (by kernel_rfl) (by kernel_rfl) rfl (by kernel_rfl) Tryz.underlying138 (by kernel_rfl) (fun _=>rfl) rfl
theorem ae4:cc Tryz.prog S ay 142 (.st 2):=gX (l:=gA 2) rfl (by kernel_rfl) rfl (by kernel_rfl) (by kernel_rfl) rfl (by kernel_rfl) Tryz.underlying142 (by kernel_rfl) (fun _=>rfl) rfl
theorem ae5:cc Tryz.prog S ay 152 (.st 15):=gX (l:=gA 15) rfl (by kernel_rfl) rfl (by kernel_rfl) (by kernel_rfl) rfl (by kernel_rfl) Tryz.underlying152 (by kernel_rfl) (fun _=>rfl) rfl
theorem ae6:cc Tryz.prog S ay 157 (.st 18):=Su rfl (by kernel_rfl) rfl (by kernel_rfl) (by kernel_rfl) rfl (by kernel_rfl) Tryz.underlying157 rfl rfl rfl (by kernel_rfl) (fun _=>rfl) rfl
theorem ae7:cc Tryz.prog S ay 160 (.st 20):=gX (l:=gA 20) rfl (by kernel_rfl) rfl (by kernel_rfl) (by kernel_rfl) rfl (by kernel_rfl) Tryz.underlying160 (by kernel_rfl) (fun _=>rfl) rfl
theorem ae8:cc Tryz.prog S ay 185 (.st 5):=gX (l:=gA 5) rfl (by kernel_rfl) rfl (by kernel_rfl) (by kernel_rfl) rfl (by kernel_rfl) Tryz.underlying185 (by kernel_rfl) (fun _=>rfl) rfl
theorem ae_:cc Tryz.prog S ay 212 (.st 21):=Su rfl (by kernel_rfl) rfl (by kernel_rfl) (by kernel_rfl) rfl (by kernel_rfl) Tryz.underlying212 rfl rfl rfl (by kernel_rfl) (fun _=>rfl) rfl
theorem afa:cc Tryz.prog S ay 248 (.st 16):=gX (l:=gA 16) rfl (by kernel_rfl) rfl (by kernel_rfl) (by kernel_rfl) rfl (by kernel_rfl) Tryz.underlying248 (by kernel_rfl) (fun _=>rfl) rfl
theorem afb:cc Tryz.prog S ay 251 (.st 17):=gX (l:=gA 17) rfl (by kernel_rfl) rfl (by kernel_rfl) (by kernel_rfl) rfl (by kernel_rfl) Tryz.underlying251 (by kernel_rfl) (fun _=>rfl) rfl
theorem afc:cc Tryz.prog S ay 258 (.st 22):=gX (l:=gA 22) rfl (by kernel_rfl) rfl (by kernel_rfl) (by kernel_rfl) rfl (by kernel_rfl) Tryz.underlying258 (by kernel_rfl) (fun _=>rfl) rfl
theorem Jb:bA Tryz.prog S ay:=⟨J9,fun t T h0=>by
 have h:=oZ (show look Kx t=some T from h0)
 simp only [Kx,List.mem_cons,Prod.mk.injEq,List.not_mem_nil,or_false] at h
 rcases h with ⟨rfl,rfl⟩ | ⟨rfl,rfl⟩ | ⟨rfl,rfl⟩ | ⟨rfl,rfl⟩ | ⟨rfl,rfl⟩ | ⟨rfl,rfl⟩ | ⟨rfl,rfl⟩ | ⟨rfl,rfl⟩ | ⟨rfl,rfl⟩ | ⟨rfl,rfl⟩ | ⟨rfl,rfl⟩ | ⟨rfl,rfl⟩ | ⟨rfl,rfl⟩ | ⟨rfl,rfl⟩ | ⟨rfl,rfl⟩ | ⟨rfl,rfl⟩ | ⟨rfl,rfl⟩ | ⟨rfl,rfl⟩ | ⟨rfl,rfl⟩ | ⟨rfl,rfl⟩ | ⟨rfl,rfl⟩ | ⟨rfl,rfl⟩ | ⟨rfl,rfl⟩ | ⟨rfl,rfl⟩ | ⟨rfl,rfl⟩ | ⟨rfl,rfl⟩ | ⟨rfl,rfl⟩ | ⟨rfl,rfl⟩ | ⟨rfl,rfl⟩ | ⟨rfl,rfl⟩ | ⟨rfl,rfl⟩ | ⟨rfl,rfl⟩ | ⟨rfl,rfl⟩ | ⟨rfl,rfl⟩ | ⟨rfl,rfl⟩ | ⟨rfl,rfl⟩ | ⟨rfl,rfl⟩ | ⟨rfl,rfl⟩ | ⟨rfl,rfl⟩ | ⟨rfl,rfl⟩ | ⟨rfl,rfl⟩ | ⟨rfl,rfl⟩
 · exact ty2
 · exact ty3
 · exact ty4
 · exact ty5
 · exact ty9
 · exact afd
 · exact afe
 · exact aff
 · exact afg
 · exact afi
 · exact afj
 · exact afk
 · exact afl
 · exact afo
 · exact afp
 · exact afq
 · exact afr
 · exact afs
 · exact aft
 · exact afu
 · exact afv
 · exact afw
 · exact afx
 · exact afy
 · exact afz
 · exact aeW
 · exact aeX
 · exact aeY
 · exact aeZ
 · exact ae0
 · exact ae1
 · exact ae2
 · exact ae3
 · exact ae4
 · exact ae5
 · exact ae6
 · exact ae7
 · exact ae8
 · exact ae_
 · exact afa
 · exact afb
 · exact afc,fun t h=>by
 have h2: ∃ u,look Jc t=some u:=Option.isSome_iff_exists.1 h
 obtain ⟨u,h2⟩:=h2
 have h:=oZ h2
 simp [Jc] at h,fun t h=>by
 have h2: ∃ u,look Hj t=some u:=Option.isSome_iff_exists.1 h
 obtain ⟨u,h2⟩:=h2
 have h:=oZ h2
 simp only [Hj,List.mem_cons,Prod.mk.injEq,List.not_mem_nil,or_false] at h
 rcases h with ⟨rfl,_⟩ | ⟨rfl,_⟩ | ⟨rfl,_⟩
 · exact ⟨11,rfl,⟨_,Tryz.underlying34,Am (by kernel_rfl)⟩,by kernel_rfl,by kernel_rfl⟩
 · exact ⟨7,rfl,⟨_,Tryz.underlying71,Am (by kernel_rfl)⟩,by kernel_rfl,by kernel_rfl⟩
 · exact ⟨8,rfl,⟨_,Tryz.underlying74,Am (by kernel_rfl)⟩,by kernel_rfl,by kernel_rfl⟩,fun t h=>by
 have h2: ∃ u,look Iq t=some u:=Option.isSome_iff_exists.1 h
 obtain ⟨u,h2⟩:=h2
 have h:=oZ h2
 simp only [Iq,List.mem_cons,Prod.mk.injEq,List.not_mem_nil,or_false] at h
 rcases h with ⟨rfl,_⟩
 · exact ⟨_,Tryz.underlying189⟩,fun p h=>nomatch h⟩
theorem pk:bA Tryz.prog S ay∧Tryz.prog.follows .mixedOrders=true:=⟨Jb,by kernel_rfl⟩
abbrev q0:Sy.K:= .val (.data .str)
abbrev q1:Sy.K:= .val (.data (.int .i64))
abbrev q2:Sy.K:= .val (.data (.int .u8))
abbrev q3:Sy.K:= .val (.data .bool)
abbrev q4:Sy.K:= .val (.data (.st 12))
abbrev q5:Sy.K:= .val (.bE (.st 12))
abbrev q6:Sy.K:= .val (.data (.st 11))
abbrev q7:Sy.K:= .obj [.data (.int .i64), .data (.int .i64)]
abbrev q8:Sy.K:= .obj [.data (.st 14)]
abbrev q9:Sy.K:= .obj [.data (.st 15)]
abbrev Jd:Sy.K:= .val (.data (.st 2))
abbrev DX:Sy.K:= .val (.bE (.st 2))
abbrev cC:Sy.K:= .obj [.data (.sl (.st 12)), .data (.int .i64), .data (.int .i64), .data (.int .i64)]
abbrev jS:Sy.K:= .obj [.data (.st 16)]
abbrev lM:Sy.K:= .obj [.data (.st 17)]
abbrev lN:Sy.K:= .val (.data (.st 5))
abbrev Bl:Sy.K:= .obj [.data (.sl (.st 12)), .data (.int .i64), .data (.int .i64), .data (.int .i64), .data (.int .i64)]
abbrev Je:Sy.K:= .obj [.data (.int .i64), .data (.int .i64), .data .str, .aQ (.st 5), .data (.int .i64)]
abbrev Bm:Sy.K:= .obj [.data (.int .i64), .data (.int .i64), .data .str, .data (.sl (.st 5)), .data (.int .i64)]
abbrev ia:Sy.K:= .val (.data (.sl (.st 12)))
abbrev kP:Sy.K:= .val (.data (.sl (.st 5)))
abbrev qI:Sy.K:= .val (.data (.st 4))
abbrev sY:Sy.K:= .val (.bE (.st 4))
abbrev DY:Sy.K:= .val (.data (.st 6))
abbrev o9:Sy.K:= .obj [.data .str, .aQ (.st 5), .data .str, .aQ (.st 4), .data (.int .i64)]
abbrev Bn:Sy.K:= .obj [.data (.int .i64), .data .str, .data (.sl (.st 4)), .data (.sl (.st 4)), .bE (.st 6), .data (.sl (.st 3)), .data (.int .i64)]
abbrev xP:Sy.K:= .val (.bE (.st 3))
abbrev sZ:Sy.K:= .val (.data (.st 1))
abbrev Pb:Sy.K:= .obj [.data .str, .data (.int .i64), .data (.int .i64), .aQ (.st 2), .aQ (.st 2), .aQ (.st 2), .aQ (.st 3), .data (.int .i64)]
abbrev DZ:Sy.K:= .val (.data (.st 7))
abbrev D0:Sy.K:= .val (.data (.st 8))
abbrev Bo:Sy.K:= .val (.aQ .str)
abbrev D1:Sy.K:= .val (.data (.st 10))
abbrev mL:Sy.K:= .obj [.data (.int .i64), .aQ (.sl .str), .aQ (.sl .str), .data (.int .i64)]
abbrev Pc:Sy.K:= .val (.bE .str)
abbrev xQ:Sy.K:= .val (.data (.st 9))
abbrev D2:Sy.K:= .obj [.data .str, .data .str, .data .str, .data .str, .aQ .str, .aQ .str, .aQ (.st 10), .data (.int .i64)]
abbrev vz:Sy.K:= .val (.data (.st 0))
abbrev iW:Sy.K:= .obj [.data (.int .i64), .aQ (.st 1), .aQ (.st 7), .aQ (.st 8), .aQ (.st 9)]
abbrev ZV:Sy.K:= .ro (.st 18)
abbrev D3:Sy.K:= .obj [.data (.int .i64), .data (.int .i64), .data (.int .i64), .data .str, .data (.int .i64)]
abbrev kQ:Sy.K:= .obj [.data (.st 19)]
abbrev mM:Sy.K:= .obj [.data (.st 20)]
abbrev ZW:Sy.K:= .ro (.st 21)
abbrev D4:Sy.K:= .val (.data (.st 3))
abbrev vA:Sy.K:= .obj [.data (.st 22)]
abbrev ZX:Sy.K:= .obj [.data (.int .i64), .data .str, .data .str, .aQ (.st 5), .data (.int .i64), .aQ (.st 4), .aQ (.st 4), .data (.int .i64)]
abbrev ZY:Sy.K:= .obj [.data (.int .i64), .data .str, .data .str, .data (.sl (.st 5)), .data (.int .i64), .data (.sl (.st 4)), .data (.sl (.st 4)), .data (.int .i64)]
abbrev Pd:Sy.K:= .obj [.data .str, .data (.sl (.st 5)), .data .str, .aQ (.st 4), .data (.int .i64)]
abbrev xR:Sy.K:= .obj [.data (.int .i64), .data .str, .aQ (.st 4), .aQ (.st 4), .aQ (.st 6), .aQ (.st 3), .data (.int .i64)]
abbrev ZZ:Sy.K:= .obj [.data (.int .i64), .data .str, .data (.sl (.st 4)), .aQ (.st 4), .aQ (.st 6), .aQ (.st 3), .data (.int .i64)]
abbrev Jf:Sy.K:= .obj [.data (.int .i64), .data .str, .data (.sl (.st 4)), .data (.sl (.st 4)), .aQ (.st 6), .aQ (.st 3), .data (.int .i64)]
abbrev qJ:Sy.K:= .val (.data (.sl .str))
abbrev o_:Sy.K:= .val (.data (.sl (.st 2)))
abbrev Pe:Sy.K:= .fn [.st 2, .st 2] [.bool]
abbrev Pf:Sy.K:= .fn [.st 5, .st 5] [.bool]
abbrev pg:Sy.K:= .val (.data (.sl (.st 4)))
abbrev Pg:Sy.K:= .fn [.st 4, .st 4] [.bool]
abbrev s6:Sy.K:= .val (.data (.sl (.st 6)))
abbrev Ph:Sy.K:= .fn [.st 6, .st 6] [.bool]
abbrev pn:Sy.K:= .val (.data (.sl (.st 3)))
abbrev Pj:Sy.K:= .fn [.st 3, .st 3] [.bool]
abbrev D5:Sy.K:= .val (.data (.sl (.st 1)))
abbrev Pk:Sy.K:= .fn [.st 1, .st 1] [.bool]
abbrev D6:Sy.K:= .val (.data (.sl (.st 7)))
abbrev Pm:Sy.K:= .fn [.st 7, .st 7] [.bool]
abbrev D7:Sy.K:= .val (.data (.sl (.st 8)))
abbrev Pn:Sy.K:= .fn [.st 8, .st 8] [.bool]
abbrev s7:Sy.K:= .val (.data (.sl (.sl .str)))
abbrev Po:Sy.K:= .fn [.sl .str, .sl .str] [.bool]
abbrev D8:Sy.K:= .val (.data (.sl (.st 10)))
abbrev Pp:Sy.K:= .fn [.st 10, .st 10] [.bool]
abbrev D9:Sy.K:= .val (.data (.sl (.st 9)))
abbrev Pq:Sy.K:= .fn [.st 9, .st 9] [.bool]
abbrev Pr:Sy.K:= .obj [.data .str, .data .str, .data .str, .data .str, .data (.sl .str), .data (.sl .str), .data (.sl (.st 10)), .data (.int .i64)]
abbrev s8:Sy.K:= .obj [.data (.int .i64), .data (.sl (.st 1)), .data (.sl (.st 7)), .data (.sl (.st 8)), .data (.sl (.st 9))]
abbrev Z0:Sy.K:= .err
def bz (e:Ty):Nat:=1
def nq:List (Nat×Ty):= [(9, .str)]
def Ls:List (Nat×(Nat×Ty)):= []
abbrev SA:bB:=S.Cy (look nq) (fun _=>false) (look Ls) (fun _=>false)
theorem afB:cc Tryz.prog SA ay 9 (.str):=Sv rfl (by kernel_rfl) (by kernel_rfl) (by kernel_rfl)
theorem adu:dU SA:=⟨J9.flat,J9.xe⟩
theorem ZS:bA Tryz.prog SA ay:=⟨adu,fun t e h0=>by
 have h:=oZ (show look nq t=some (e) from h0)
 simp only [nq,List.mem_cons,Prod.mk.injEq,List.not_mem_nil,or_false] at h
 rcases h with ⟨rfl,h⟩
 · subst h; exact afB,fun t h=>(nomatch h),fun t h=>(nomatch h),Jb.sQ,Jb.bt⟩
theorem hbz: ∀ t e,SA.ty t=some (.sl e)→ay t=bz e:=fun t e h0=>by
 have h:=oZ (show look nq t=some (.sl e) from h0)
 simp only [nq,List.mem_cons,Prod.mk.injEq,List.not_mem_nil,or_false] at h
 rcases h with ⟨rfl,h⟩
 · exact (nomatch h)
theorem adE:Ga SA:=⟨fun t e h0=>by
 have h:=oZ (show look nq t=some (.sl e) from h0)
 simp only [nq,List.mem_cons,Prod.mk.injEq,List.not_mem_nil,or_false] at h
 rcases h with ⟨rfl,h⟩
 · exact (nomatch h),fun t h0=>by
 have h:=oZ (show look nq t=some (.pt) from h0)
 simp only [nq,List.mem_cons,Prod.mk.injEq,List.not_mem_nil,or_false] at h
 rcases h with ⟨rfl,h⟩
 · exact (nomatch h)⟩
theorem ad9:Ge Tryz.prog SA:=fun t e h0=>by
 have h:=oZ (show look nq t=some (.st e) from h0)
 simp only [nq,List.mem_cons,Prod.mk.injEq,List.not_mem_nil,or_false] at h
 rcases h with ⟨rfl,h⟩
 · exact (nomatch h)
abbrev J6:List UInt8:= [115,121,115,116,101,109,32,97,103,101,32,49,59]
abbrev E_:List UInt8:= [32,9,10,13]
abbrev Ri:List UInt8:= [45,62,32,61,61,32,33,61,32,60,61,32,62,61,32,38,38,32,124,124]
abbrev i_:List UInt8:= [123,125,40,41,91,93,59,44,46,58,61,60,62,43,45,42,47,37,33,36]
abbrev ou:List UInt8:= [115,121,115,116,101,109]
abbrev oh:List UInt8:= [97,103,101]
abbrev bD:List UInt8:= [59]
abbrev iq:List UInt8:= [99,104,97,114,116]
abbrev rG:List UInt8:= [115,116,101,112,115]
abbrev rB:List UInt8:= [102,117,101,108]
abbrev jx:List UInt8:= [118,97,114]
abbrev rD:List UInt8:= [112,111,114,116]
abbrev rH:List UInt8:= [116,105,109,101,114]
abbrev iw:List UInt8:= [115,116,97,116,101]
abbrev ir:List UInt8:= [112,97,114,97,108,108,101,108]
abbrev gL:List UInt8:= [104,105,115,116,111,114,121]
abbrev fK:List UInt8:= [100,101,101,112]
abbrev pR:List UInt8:= [101,110,116,114,121]
abbrev pT:List UInt8:= [101,120,105,116]
abbrev fX:List UInt8:= [111,110]
abbrev iZ:List UInt8:= [97,117,116,111]
abbrev nc:List UInt8:= [114,97,105,115,101]
abbrev ng:List UInt8:= [115,101,110,100]
abbrev m_:List UInt8:= [97,114,109]
abbrev om:List UInt8:= [99,97,110,99,101,108]
abbrev kX:List UInt8:= [105,102]
abbrev ry:List UInt8:= [101,108,115,101]
abbrev kq:List UInt8:= [108,111,111,112]
abbrev lX:List UInt8:= [105,110]
abbrev jw:List UInt8:= [105,110,115,116]
abbrev rF:List UInt8:= [113,117,97,110,116,117,109]
abbrev rz:List UInt8:= [101,120,116]
abbrev kY:List UInt8:= [112,114,105,111]
abbrev jv:List UInt8:= [99,104,97,110]
abbrev rm:List UInt8:= [99,97,112]
abbrev ij:List UInt8:= [99,101,114,116]
abbrev rC:List UInt8:= [105,110,115,116,115]
abbrev rq:List UInt8:= [99,104,97,110,115]
abbrev ju:List UInt8:= [99,101,108,108]
abbrev tM:List UInt8:= [111,102,102]
abbrev ew:List UInt8:= [123]
abbrev pS:List UInt8:= [61]
abbrev gW:List UInt8:= [45]
abbrev fh:List UInt8:= [125]
abbrev pQ:List UInt8:= [33]
abbrev tJ:List UInt8:= [36]
abbrev gM:List UInt8:= [40]
abbrev iu:List UInt8:= [41]
abbrev iJ:List UInt8:= [124,124]
abbrev iH:List UInt8:= [38,38]
abbrev tL:List UInt8:= [60]
abbrev iM:List UInt8:= [60,61]
abbrev tK:List UInt8:= [62]
abbrev iL:List UInt8:= [62,61]
abbrev iK:List UInt8:= [61,61]
abbrev iI:List UInt8:= [33,61]
abbrev ey:List UInt8:= [43]
abbrev tP:List UInt8:= [42]
abbrev tO:List UInt8:= [47]
abbrev tN:List UInt8:= [37]
abbrev gV:List UInt8:= [91]
abbrev fY:List UInt8:= [93]
abbrev eN:List UInt8:= [45,62]
abbrev ko:List UInt8:= [58]
abbrev ru:List UInt8:= [46]
abbrev ec:List UInt8:= [44]
abbrev J7:List UInt8:= [115,121,115,116,101,109,32,97,103,101,32,49]
abbrev Gz:List UInt8×List UInt8×List UInt8×List UInt8×List UInt8×List UInt8×List UInt8:=(eN,iK,iI,iM,iL,iH,iJ)
abbrev Lv:List UInt8×List UInt8×List UInt8×List UInt8×List UInt8×List UInt8×List UInt8×List UInt8×List UInt8×List UInt8×List UInt8×List UInt8×List UInt8×List UInt8×List UInt8×List UInt8×List UInt8×List UInt8×List UInt8×List UInt8×List UInt8×List UInt8×List UInt8×List UInt8×List UInt8×List UInt8×List UInt8×List UInt8×List UInt8×List UInt8×List UInt8×List UInt8×List UInt8×List UInt8×List UInt8:=(ou,oh,iq,rG,rB,jx,rD,rH,iw,ir,gL,fK,pR,pT,fX,iZ,nc,ng,m_,om,kX,ry,kq,lX,jw,rF,rz,kY,jv,rm,ij,rC,rq,ju,tM)
end
end Go.Sy.Ex
namespace Go.Sy.Ex
open Go.Sy Go.Proofs
theorem WQ {w:World} {M:St} (h:kD S w M):(∃ m,w.cell? ⟨0,0,none⟩=some (.int .i64 m)):=by
 obtain ⟨_,_,v0,c0,m,rfl⟩:=h.1 (((0,0),fun v=> ∃ m,v= .int .i64 m)) (by simp)
 exact ⟨m,c0⟩
theorem WR {w:World} {M:St} (h:kD S w M):(∃ e,w.cell? ⟨2,0,none⟩=some e∧(e= .nilIface∨ ∃ t p,e= .iface t p)):=by
 obtain ⟨_,_,v1,c1,p1⟩:=h.1 (((2,0),fun v=>v= .nilIface∨ ∃ t p,v= .iface t p)) (by simp)
 exact ⟨v1,c1,p1⟩
theorem WS {w:World} {M:St} (h:kD S w M):(∃ e,w.cell? ⟨1,0,none⟩=some e∧(e= .nilIface∨ ∃ t p,e= .iface t p)):=by
 obtain ⟨_,_,v1,c1,p1⟩:=h.1 (((1,0),fun v=>v= .nilIface∨ ∃ t p,v= .iface t p)) (by simp)
 exact ⟨v1,c1,p1⟩
theorem VJ {w w':World} {M:St} (h:RowKit.Below w.heap.size w w'):bI w w' M:=by
 obtain ⟨a,b,c,d,e⟩:=h
 exact ⟨a,b,c,d,fun k hk _=>e k hk,fun k o hk _=>cell_of_heap (e k hk),fun k o hk hs=>by rw [cell_of_heap (e k hk)]; exact hs,fun k o hk _=>HA (e k hk)⟩
theorem RW (l:List UInt8):(⟨l.toArray⟩:ByteArray).size=l.length:=by show l.toArray.size=_; simp
noncomputable def sW (s:List UInt8) (c:Int):Option Int:=some (Lib.indexByte s c.toNat.toUInt8)
theorem O7:ax Tryz.prog S ⟨94,[.val (.data .str), .val (.data (.int .u8))],[.val (.data (.int .i64))],fun x=>sW x.1 x.2⟩:=by
 refine ⟨⟨Tryz.f94,Tryz.func94,by kernel_rfl,by kernel_rfl⟩,fun w s M (x:List UInt8×Int) args r hx hs hG hr=> ?_⟩
 obtain ⟨x,y⟩:=x
 obtain ⟨M1,M2,v,rr,_,rfl,⟨⟨_,n,h1⟩,h2⟩,M3,M4,v',Q9,_,rfl,⟨⟨_,n',h3⟩,h4⟩,_,rfl⟩:=hx
 have hv:=sn (w:=w) (s:=s) ⟨h2,n,h1⟩
 have j7:=zK (w:=w) (s:=s) ⟨h4,n',h3⟩
 subst hv j7
 cases hr
 refine (Tryz.strings_IndexByte _ _ w).mono ?_
 rintro e w' ⟨rfl,rfl⟩
 exact ⟨[.int .i64 _],fun _ _=>False,fun _ _=>False,rfl,bI.refl _ _,⟨_,_,_,_,IU,rfl,⟨⟨fun _ _ h=>h,1,rfl⟩,rfl⟩,fun _ _ h=>h,rfl⟩,fun _ _ h=>h.elim,fun _ _ h=>h.elim⟩
noncomputable def xL (s sub:List UInt8):Option Bool:=if s.length<4294967281 then some (Lib.contains s sub) else none
theorem ZH:ax Tryz.prog S ⟨135,[.val (.data .str), .val (.data .str)],[.val (.data .bool)],fun x=>xL x.1 x.2⟩:=by
 refine ⟨⟨Tryz.f135,Tryz.func135,by kernel_rfl,by kernel_rfl⟩,fun w s M (x:List UInt8×List UInt8) args r hx hs hG hr=> ?_⟩
 obtain ⟨x,y⟩:=x
 obtain ⟨M1,M2,v,rr,_,rfl,⟨⟨_,n,h1⟩,h2⟩,M3,M4,v',Q9,_,rfl,⟨⟨_,n',h3⟩,h4⟩,_,rfl⟩:=hx
 have hv:=sn (w:=w) (s:=s) ⟨h2,n,h1⟩
 have j7:=sn (w:=w) (s:=s) ⟨h4,n',h3⟩
 subst hv j7
 obtain ⟨m,hm⟩:=WQ hG
 replace hr:xL x y=some r:=hr
 unfold xL at hr
 split at hr
 · rename_i hl
   cases hr
   refine (Tryz.strings_Contains ⟨x.toArray⟩ ⟨y.toArray⟩ m w (Nat.lt_of_le_of_lt (Nat.le_of_eq (RW _)) hl) hm).mono ?_
   rintro e w' ⟨rfl,rfl⟩
   exact ⟨[.bool _],fun _ _=>False,fun _ _=>False,rfl,bI.refl _ _,⟨_,_,_,_,IU,rfl,⟨⟨fun _ _ h=>h,1,rfl⟩,rfl⟩,fun _ _ h=>h,rfl⟩,fun _ _ h=>h.elim,fun _ _ h=>h.elim⟩
 · cases hr
noncomputable def sX (s:List UInt8) (b z:Int):Option (Int×Bool):=if s.length≤281474976710656∧b=10∧z=64 then some (match Lib.parseIntB 64 s with
 | .ok v=>(v,true)
 | .range=>(Lib.intSat 64 s,false)
 | _=>(0,false)) else none
theorem Ys {w:World} {s M:St} (hM:j0 M) (v:Int) (b:Bool) (e:Value) (he:zG b e):cM Tryz.prog S w s M [.val (.data (.int .i64)), .err] (v,b) [.int .i64 v,e]:=
 ⟨_,_,_,_,ad6 M,rfl,⟨⟨hM,1,rfl⟩,rfl⟩,_,_,_,_,IU,rfl,⟨fun _ _ h=>h,he⟩,fun _ _ h=>h,rfl⟩
theorem ZI:ax Tryz.prog S ⟨134,[.val (.data .str), .val (.data (.int .i64)), .val (.data (.int .i64))],[.val (.data (.int .i64)), .err],fun x=>sX x.1 x.2.1 x.2.2⟩:=by
 refine ⟨⟨Tryz.f134,Tryz.func134,by kernel_rfl,by kernel_rfl⟩,fun w s M (x:List UInt8×Int×Int) args r hx hs hG hr=> ?_⟩
 obtain ⟨x,y,z⟩:=x
 obtain ⟨M1,M2,v,rr,_,rfl,⟨⟨_,n,h1⟩,h2⟩,M3,M4,v',Q9,_,rfl,⟨⟨_,n',h3⟩,h4⟩,M5,M6,v'',agh,_,rfl,⟨⟨_,Zl,h5⟩,h6⟩,_,rfl⟩:=hx
 have hv:=sn (w:=w) (s:=s) ⟨h2,n,h1⟩
 have j7:=zK (w:=w) (s:=s) ⟨h4,n',h3⟩
 have Yb:=zK (w:=w) (s:=s) ⟨h6,Zl,h5⟩
 subst hv j7 Yb
 obtain ⟨e1,c1,k1⟩:=WR hG
 obtain ⟨e0,c0,k0⟩:=WS hG
 replace hr:sX x y z=some r:=hr
 unfold sX at hr
 split at hr
 · rename_i hl
   obtain ⟨hl,rfl,rfl⟩:=hl
   have hsz:(⟨x.toArray⟩:ByteArray).size≤281474976710656:=Nat.le_trans (Nat.le_of_eq (RW x)) hl
   have HV: ∀ (r0:Int×Bool) (e:Value) (w':World),zG r0.2 e→RowKit.Below w.heap.size w w'→ ∃ us s' M',Ending.returned (Value.tuple #[.int .i64 r0.1,e])= .returned (mZ us)∧bI w w' M∧cM Tryz.prog S w' s' M' [.val (.data (.int .i64)), .err] r0 (us++ [])∧
    (∀ b o,s' b o→b<w'.heap.size∧ ¬ M' b o∧(s b o∨M b o∨w.heap.size≤b))∧ ∀ b o,M' b o→M b o∨w.heap.size≤b:=fun r0 e w' he hb=>
    ⟨[.int .i64 r0.1,e],fun _ _=>False,fun _ _=>False,rfl,VJ hb,Ys (fun _ _ h=>h) _ _ _ he,fun _ _ h=>h.elim,fun _ _ h=>h.elim⟩
   cases hp:Lib.parseIntB 64 x with
   | ok v=>
    rw [hp] at hr
    cases hr
    refine (Tryz.strconv_ParseInt_10_at64_ok ⟨x.toArray⟩ (by omega) v hp w).mono ?_
    rintro e w' ⟨rfl,hw⟩
    refine HV (v,true) .nilIface w' rfl ?_
    rcases hw with rfl | ⟨t,rfl⟩
    · exact RowKit.Below.refl _ _
    · exact ⟨rfl,rfl,rfl,by rw [Lib.bytesWorld_size]; omega,fun j hj=>Lib.bytesWorld_at_old w 5 t j hj⟩
   | range=>
    rw [hp] at hr
    cases hr
    refine (Tryz.strconv_ParseInt_10_at64_range ⟨x.toArray⟩ hsz hp e1 w c1 k1).mono ?_
    rintro e w' ⟨N,rfl,_,_,hb⟩
    exact HV (_,false) _ w' ⟨_,_,rfl⟩ hb
   | _=>
    rw [hp] at hr
    cases hr
    refine (Any.strconv_ParseInt_10_at64_syntax Tryz.IC ⟨x.toArray⟩ hsz hp e0 w c0 k0).mono ?_
    rintro e w' ⟨N,rfl,_,_,hb⟩
    exact HV (0,false) _ w' ⟨_,_,rfl⟩ hb
 · cases hr
end Go.Sy.Ex
set_option maxRecDepth 100000
namespace Go.Sy.Ex
open Go.Sy Go.Proofs
noncomputable section
abbrev MC:Entry S:=⟨94,[q0,q2],[q1],fun x=>sW x.1 x.2⟩
abbrev V2:Entry S:=⟨134,[q0,q1,q1],[q1,Z0],fun x=>sX x.1 x.2.1 x.2.2⟩
abbrev V3:Entry S:=⟨135,[q0,q0],[q3],fun x=>xL x.1 x.2⟩
abbrev Y1:=(List UInt8)→Int→Option Int
abbrev OD (f:Y1):Entry S:=⟨52,[q0,q1],[q1],fun x=>f x.1 x.2⟩
mutual
def oY:Nat→(List UInt8)→Int→Option Int
 | 0,_,_=>none
 | k+1,text,ah=>if ah<(text.length:Int) then
  if 0≤ah then
  if ah<(text.length:Int) then
  (sW E_ ((text.getD ah.toNat 0).toNat:Int)).bind fun r1=>
  if 0≤r1 then
  oY k text (aj (ah+1)) else
  if 0≤ah then
  if ah<(text.length:Int) then
  if ((text.getD ah.toNat 0).toNat:Int)=35 then
  sS k text ah else
  some ah else none else none else none else none else
  some ah
def sS:Nat→(List UInt8)→Int→Option Int
 | 0,_,_=>none
 | k+1,text,ah=>if ah<(text.length:Int) then
  if 0≤ah then
  if ah<(text.length:Int) then
  if ((text.getD ah.toNat 0).toNat:Int)≠10 then
  sS k text (aj (ah+1)) else
  oY k text ah else none else none else
  oY k text ah
end
def OC (k:Nat) (text:List UInt8) (ah:Int):Option Int:=oY k text ah
def Ba  (text:List UInt8) (ah:Int):Option Int:=bw (fun k (x:List UInt8×Int)=>OC k x.1 x.2) (text,ah)
theorem Y0:ax Tryz.prog S (OD (Ba)):=cl (fun k x=>OC k x.1 x.2) (fun _=>rfl) fun k=>
 b7 pk [MC] ⟨O7,trivial⟩ Tryz.func52 [] k (fun k=> [(0,⟨[0,1],[q0,q1],fun x=>oY k x.1 x.2,false⟩),(2,⟨[0,1],[q0,q1],fun x=>sS k x.1 x.2,false⟩)]) ⟨fun _=>rfl,fun _=>rfl,trivial⟩ (fun _=>by kernel_rfl) (fun _=>by kernel_rfl) (by kernel_rfl)
abbrev YV:=Int→Option (Bool×Bool)
abbrev IJ (f:YV):Entry S:=⟨95,[q2],[q3,q3],fun x=>f x⟩
def sR  (c:Int):Option (Bool×Bool):=if 48≤c then
 if c≤57 then
 some (true,true) else
 if 97≤c then
 if c≤122 then
 if c≤122 then
 some (true,false) else
 some (false,false) else
 if 65≤c then
 if c≤90 then
 if c≤90 then
 some (true,false) else
 some (false,false) else
 if c=95 then
 some (true,false) else
 some (false,false) else
 if c=95 then
 some (true,false) else
 some (false,false) else
 if 65≤c then
 if c≤90 then
 if c≤90 then
 some (true,false) else
 some (false,false) else
 if c=95 then
 some (true,false) else
 some (false,false) else
 if c=95 then
 some (true,false) else
 some (false,false) else
 if 97≤c then
 if c≤122 then
 if c≤122 then
 some (true,false) else
 some (false,false) else
 if 65≤c then
 if c≤90 then
 if c≤90 then
 some (true,false) else
 some (false,false) else
 if c=95 then
 some (true,false) else
 some (false,false) else
 if c=95 then
 some (true,false) else
 some (false,false) else
 if 65≤c then
 if c≤90 then
 if c≤90 then
 some (true,false) else
 some (false,false) else
 if c=95 then
 some (true,false) else
 some (false,false) else
 if c=95 then
 some (true,false) else
 some (false,false)
theorem Oz:ax Tryz.prog S (IJ (sR)):=
 aY pk [] trivial Tryz.func95 (by kernel_rfl) (fun _=>by kernel_rfl) (by kernel_rfl)
abbrev YU:=(List UInt8)→Int→Option Int
abbrev Oy (f:YU):Entry S:=⟨96,[q0,q1],[q1],fun x=>f x.1 x.2⟩
def vv:Nat→(List UInt8)→Int→Bool→Option Int
 | 0,_,_,_=>none
 | k+1,text,ah,number=>if ah<(text.length:Int) then
  if 0≤ah then
  if ah<(text.length:Int) then
  (sR ((text.getD ah.toNat 0).toNat:Int)).bind fun r2=>
  bif !r2.1 then
  some ah else
  bif number then
  bif !r2.2 then
  some ah else
  vv k text (aj (ah+1)) number else
  vv k text (aj (ah+1)) number else none else none else
  some ah
def II (k:Nat) (text:List UInt8) (ah:Int):Option Int:=if 0≤ah then
 if ah<(text.length:Int) then
 (sR ((text.getD ah.toNat 0).toNat:Int)).bind fun r1=>
 vv k text ah r1.2 else none else none
def A8  (text:List UInt8) (ah:Int):Option Int:=bw (fun k (x:List UInt8×Int)=>II k x.1 x.2) (text,ah)
theorem YT:ax Tryz.prog S (Oy (A8)):=cl (fun k x=>II k x.1 x.2) (fun _=>rfl) fun k=>
 b7 pk [IJ sR] ⟨Oz,trivial⟩ Tryz.func96 [] k (fun k=> [(0,⟨[0,1,6],[q0,q1,q3],fun x=>vv k x.1 x.2.1 x.2.2,false⟩)]) ⟨fun _=>rfl,trivial⟩ (fun _=>by kernel_rfl) (fun _=>by kernel_rfl) (by kernel_rfl)
abbrev YX:=(List UInt8)→Option (Int×Int)
abbrev OA (f:YX):Entry S:=⟨97,[q0],[q1,q1],fun x=>f x⟩
def A9  (s:List UInt8):Option (Int×Int):=if 1<(s.length:Int) then
 if (0:Int)≤0 then
 if 0<(s.length:Int) then
 if ((s.getD (0:Int).toNat 0).toNat:Int)=48 then
 some (0,11) else
 (sX s 10 64).bind fun r1=>
 bif !r1.2 then
 some (0,16) else
 some (r1.1,0) else none else none else
 (sX s 10 64).bind fun r2=>
 bif !r2.2 then
 some (0,16) else
 some (r2.1,0)
theorem YW:ax Tryz.prog S (OA (A9)):=
 aY pk [V2] ⟨ZI,trivial⟩ Tryz.func97 (by kernel_rfl) (fun _=>by kernel_rfl) (by kernel_rfl)
abbrev YZ:=(List UInt8)→Int→Option Int
abbrev OB (f:YZ):Entry S:=⟨98,[q0,q1],[q1],fun x=>f x.1 x.2⟩
def A_  (text:List UInt8) (ah:Int):Option Int:=if (aj (ah+1))<(text.length:Int) then
 if 0≤(aj (ah+1)) then
 if (aj (ah+1))<(text.length:Int) then
 if ((text.getD (aj (ah+1)).toNat 0).toNat:Int)≠32 then
 if 0≤(aj (ah+2)) then
 if (aj (ah+2))≤(text.length:Int) then
 if 0≤ah then
 if ah≤(aj (ah+2)) then
 (xL Ri (cut text ah (aj (ah+2)))).bind fun r1=>
 bif r1 then
 some (aj (ah+2)) else
 if 0≤ah then
 if ah<(text.length:Int) then
 (sW i_ ((text.getD ah.toNat 0).toNat:Int)).bind fun r2=>
 if 0≤r2 then
 some (aj (ah+1)) else
 some ah else none else none else none else none else none else none else
 if 0≤ah then
 if ah<(text.length:Int) then
 (sW i_ ((text.getD ah.toNat 0).toNat:Int)).bind fun r3=>
 if 0≤r3 then
 some (aj (ah+1)) else
 some ah else none else none else none else none else
 if 0≤ah then
 if ah<(text.length:Int) then
 (sW i_ ((text.getD ah.toNat 0).toNat:Int)).bind fun r4=>
 if 0≤r4 then
 some (aj (ah+1)) else
 some ah else none else none
theorem YY:ax Tryz.prog S (OB (A_)):=
 aY pk [V3,MC] ⟨ZH,O7,trivial⟩ Tryz.func98 (by kernel_rfl) (fun _=>by kernel_rfl) (by kernel_rfl)
abbrev Y3:=(List UInt8)→Int→Option (ai×Int)
abbrev OF (f:Y3):Entry S:=⟨53,[q0,q1],[q4,q1],fun x=>f x.1 x.2⟩
def Bb  (text:List UInt8) (ah:Int):Option (ai×Int):=if 0≤ah then
 if ah<(text.length:Int) then
 (sR ((text.getD ah.toNat 0).toNat:Int)).bind fun r1=>
 bif r1.2 then
 (A8 text ah).bind fun r2=>
 if 0≤r2 then
 if r2≤(text.length:Int) then
 if 0≤ah then
 if ah≤r2 then
 (A9 (cut text ah r2)).bind fun r3=>
 if r3.2≠0 then
 some (ai.mk 0 0 0 [] 0,r3.2) else
 if 0≤r2 then
 if r2≤(text.length:Int) then
 if 0≤ah then
 if ah≤r2 then
 some (ai.mk 2 ah r2 (cut text ah r2) r3.1,0) else none else none else none else none else none else none else none else none else
 bif r1.1 then
 (A8 text ah).bind fun r4=>
 if 24<(aj (r4 - ah)) then
 some (ai.mk 0 0 0 [] 0,13) else
 if 0≤r4 then
 if r4≤(text.length:Int) then
 if 0≤ah then
 if ah≤r4 then
 some (ai.mk 1 ah r4 (cut text ah r4) 0,0) else none else none else none else none else
 (A_ text ah).bind fun r5=>
 if r5=ah then
 some (ai.mk 0 0 0 [] 0,10) else
 if 0≤r5 then
 if r5≤(text.length:Int) then
 if 0≤ah then
 if ah≤r5 then
 some (ai.mk 3 ah r5 (cut text ah r5) 0,0) else none else none else none else none else none else none
theorem Y2:ax Tryz.prog S (OF (Bb)):=
 aY pk [IJ sR,Oy A8,OA A9,OB A_] ⟨Oz,YT,YW,YY,trivial⟩ Tryz.func53 (by kernel_rfl) (fun _=>by kernel_rfl) (by kernel_rfl)
abbrev YR:=(List UInt8)→Option (List ai×az)
abbrev Ox (f:YR):Entry S:=⟨18,[q0],[q5,q6],fun x=>f x⟩
def vu:Nat→(List UInt8)→Int→Int→(List ai)→Int→Option (List ai×az)
 | 0,_,_,_,_,_=>none
 | k+1,text,f_,fZ,l,ah=>if ah<(text.length:Int) then
  (Bb text ah).bind fun r2=>
  if r2.2≠0 then
  some ([],az.mk r2.2 ah) else
  if (l.length+ [r2.1].length)*48≤140737488355328 then
  (Ba text r2.1.End).bind fun r3=>
  vu k text f_ fZ (l++ [r2.1]) r3 else none else
  if (l.length+ [ai.mk 4 ah ah [] 0].length)*48≤140737488355328 then
  some (l++ [ai.mk 4 ah ah [] 0],az.mk 0 0) else none
def IG (k:Nat) (text:List UInt8):Option (List ai×az):=if 16384<(text.length:Int) then
 some ([],az.mk 13 16384) else
 (Ba text 0).bind fun r1=>
 vu k text 0 0 [] r1
def DM  (text:List UInt8):Option (List ai×az):=bw (fun k (x:List UInt8)=>IG k x) text
theorem YQ:ax Tryz.prog S (Ox (DM)):=cl (fun k x=>IG k x) (fun _=>rfl) fun k=>
 b7 pk [OD Ba,OF Bb] ⟨Y0,Y2,trivial⟩ Tryz.func18 [] k (fun k=> [(0,⟨[0,3,4,5],[q0,q7,q5,q1],fun x=>vu k x.1 x.2.1.1 x.2.1.2 x.2.2.1 x.2.2.2,false⟩)]) ⟨fun _=>rfl,trivial⟩ (fun _=>by kernel_rfl) (fun _=>by kernel_rfl) (by kernel_rfl)
abbrev aaJ:=aC→Option (Bool×aC)
abbrev Em (f:aaJ):Entry S:=⟨20,[q8],[q3],fun x=>f x⟩
def n8  (r_:aC):Option (Bool×aC):=some (decide (r_.Row.av.Code=0),r_)
theorem Jy:ax Tryz.prog S (Em (n8)):=
 aY pk [] trivial Tryz.func20 (by kernel_rfl) (fun _=>by kernel_rfl) (by kernel_rfl)
abbrev aau:=aC→Option (ai×aC)
abbrev n6 (f:aau):Entry S:=⟨62,[q8],[q4],fun x=>f x⟩
def fI  (r_:aC):Option (ai×aC):=(n8 r_).bind fun r1=>
 bif !r1.1 then
 some (ai.mk 4 0 0 [] 0,r1.2) else
 if r1.2.Row.At<0 then
 some (ai.mk 4 0 0 [] 0,r1.2) else
 if (r1.2.Row.L.length:Int)≤r1.2.Row.At then
 some (ai.mk 4 0 0 [] 0,r1.2) else
 if 0≤r1.2.Row.At then
 if r1.2.Row.At<(r1.2.Row.L.length:Int) then
 some (r1.2.Row.L.getD r1.2.Row.At.toNat ai.z,r1.2) else none else none
theorem pz:ax Tryz.prog S (n6 (fI)):=
 aY pk [Em n8] ⟨Jy,trivial⟩ Tryz.func62 (by kernel_rfl) (fun _=>by kernel_rfl) (by kernel_rfl)
abbrev aaq:=aC→(List UInt8)→Option (Bool×aC)
abbrev Jv (f:aaq):Entry S:=⟨100,[q8,q0],[q3],fun x=>f x.1 x.2⟩
def mQ  (r_:aC) (s:List UInt8):Option (Bool×aC):=(fI r_).bind fun r1=>
 if r1.1.Kind=3 then
 some (decide (r1.1.Text=s),r1.2) else
 if r1.1.Kind=1 then
 some (decide (r1.1.Text=s),r1.2) else
 some (false,r1.2)
theorem PI:ax Tryz.prog S (Jv (mQ)):=
 aY pk [n6 fI] ⟨pz,trivial⟩ Tryz.func100 (by kernel_rfl) (fun _=>by kernel_rfl) (by kernel_rfl)
abbrev aaN:=aC→(List UInt8)→Option (Bool×aC)
abbrev By (f:aaN):Entry S:=⟨99,[q8,q0],[q3],fun x=>f x.1 x.2⟩
def eL  (r_:aC) (s:List UInt8):Option (Bool×aC):=(mQ r_ s).bind fun r1=>
 bif r1.1 then
 some (r1.1,aC.mk (aU.mk r1.2.Row.L (aj (r1.2.Row.At+1)) r1.2.Row.av)) else
 some (r1.1,r1.2)
theorem Eo:ax Tryz.prog S (By (eL)):=
 aY pk [Jv mQ] ⟨PI,trivial⟩ Tryz.func99 (by kernel_rfl) (fun _=>by kernel_rfl) (by kernel_rfl)
abbrev aah:=aC→Int→Int→Option aC
abbrev Ee (f:aah):Entry S:=⟨58,[q8,q1,q1],[],fun x=>f x.1 x.2.1 x.2.2⟩
def jo  (r_:aC) (code:Int) (ah:Int):Option aC:=(n8 r_).bind fun r1=>
 bif r1.1 then
 some (aC.mk (aU.mk r1.2.Row.L r1.2.Row.At (az.mk code ah))) else
 some r1.2
theorem Jp:ax Tryz.prog S (Ee (jo)):=
 aY pk [Em n8] ⟨Jy,trivial⟩ Tryz.func58 (by kernel_rfl) (fun _=>by kernel_rfl) (by kernel_rfl)
abbrev aaW:=aC→Option aC
abbrev BC (f:aaW):Entry S:=⟨63,[q8],[],fun x=>f x⟩
def lR  (r_:aC):Option aC:=(fI r_).bind fun r1=>
 if r1.1.Kind=4 then
 (jo r1.2 12 r1.1.At).bind fun r2=>
 some r2 else
 (jo r1.2 11 r1.1.At).bind fun r3=>
 some r3
theorem Eu:ax Tryz.prog S (BC (lR)):=
 aY pk [n6 fI,Ee jo] ⟨pz,Jp,trivial⟩ Tryz.func63 (by kernel_rfl) (fun _=>by kernel_rfl) (by kernel_rfl)
abbrev aaS:=aC→(List UInt8)→Option aC
abbrev tf (f:aaS):Entry S:=⟨54,[q8,q0],[],fun x=>f x.1 x.2⟩
def bQ  (r_:aC) (s:List UInt8):Option aC:=(eL r_ s).bind fun r1=>
 bif !r1.1 then
 (lR r1.2).bind fun r2=>
 some r2 else
 some r1.2
theorem vH:ax Tryz.prog S (tf (bQ)):=
 aY pk [By eL,BC lR] ⟨Eo,Eu,trivial⟩ Tryz.func54 (by kernel_rfl) (fun _=>by kernel_rfl) (by kernel_rfl)
abbrev aaE:=aC→Option (Int×aC)
abbrev Jw (f:aaE):Entry S:=⟨55,[q8],[q1],fun x=>f x⟩
def iF  (r_:aC):Option (Int×aC):=(fI r_).bind fun r1=>
 if r1.1.Kind≠2 then
 (lR r1.2).bind fun r2=>
 some (0,r2) else
 some (r1.1.N,aC.mk (aU.mk r1.2.Row.L (aj (r1.2.Row.At+1)) r1.2.Row.av))
theorem PM:ax Tryz.prog S (Jw (iF)):=
 aY pk [n6 fI,BC lR] ⟨pz,Eu,trivial⟩ Tryz.func55 (by kernel_rfl) (fun _=>by kernel_rfl) (by kernel_rfl)
abbrev aeC:=aC→(List UInt8)→Int→Int→Option (Bool×aC)
abbrev Kp (f:aeC):Entry S:=⟨56,[q8,q0,q1,q1],[q3],fun x=>f x.1 x.2.1 x.2.2.1 x.2.2.2⟩
def fF  (r_:aC) (word:List UInt8) (afH:Int) (most:Int):Option (Bool×aC):=(mQ r_ word).bind fun r1=>
 bif r1.1 then
 if afH=most then
 (fI r1.2).bind fun r2=>
 (jo r2.2 15 r2.1.At).bind fun r3=>
 (mQ r3 word).bind fun r4=>
 some (r4.1,r4.2) else
 (mQ r1.2 word).bind fun r5=>
 some (r5.1,r5.2) else
 (mQ r1.2 word).bind fun r6=>
 some (r6.1,r6.2)
theorem R3:ax Tryz.prog S (Kp (fF)):=
 aY pk [Jv mQ,n6 fI,Ee jo] ⟨PI,pz,Jp,trivial⟩ Tryz.func56 (by kernel_rfl) (fun _=>by kernel_rfl) (by kernel_rfl)
abbrev aaI:=aE→Option (Bool×aE)
abbrev Bu (f:aaI):Entry S:=⟨20,[q9],[q3],fun x=>f x⟩
def mR  (r_:aE):Option (Bool×aE):=some (decide (r_.Row.av.Code=0),r_)
theorem El:ax Tryz.prog S (Bu (mR)):=
 aY pk [] trivial Tryz.func20 (by kernel_rfl) (fun _=>by kernel_rfl) (by kernel_rfl)
abbrev aat:=aE→Option (ai×aE)
abbrev qP (f:aat):Entry S:=⟨62,[q9],[q4],fun x=>f x⟩
def gr  (r_:aE):Option (ai×aE):=(mR r_).bind fun r1=>
 bif !r1.1 then
 some (ai.mk 4 0 0 [] 0,r1.2) else
 if r1.2.Row.At<0 then
 some (ai.mk 4 0 0 [] 0,r1.2) else
 if (r1.2.Row.L.length:Int)≤r1.2.Row.At then
 some (ai.mk 4 0 0 [] 0,r1.2) else
 if 0≤r1.2.Row.At then
 if r1.2.Row.At<(r1.2.Row.L.length:Int) then
 some (r1.2.Row.L.getD r1.2.Row.At.toNat ai.z,r1.2) else none else none
theorem tc:ax Tryz.prog S (qP (gr)):=
 aY pk [Bu mR] ⟨El,trivial⟩ Tryz.func62 (by kernel_rfl) (fun _=>by kernel_rfl) (by kernel_rfl)
abbrev aap:=aE→(List UInt8)→Option (Bool×aE)
abbrev Bq (f:aap):Entry S:=⟨100,[q9,q0],[q3],fun x=>f x.1 x.2⟩
def gG  (r_:aE) (s:List UInt8):Option (Bool×aE):=(gr r_).bind fun r1=>
 if r1.1.Kind=3 then
 some (decide (r1.1.Text=s),r1.2) else
 if r1.1.Kind=1 then
 some (decide (r1.1.Text=s),r1.2) else
 some (false,r1.2)
theorem Eh:ax Tryz.prog S (Bq (gG)):=
 aY pk [qP gr] ⟨tc,trivial⟩ Tryz.func100 (by kernel_rfl) (fun _=>by kernel_rfl) (by kernel_rfl)
abbrev aaM:=aE→(List UInt8)→Option (Bool×aE)
abbrev xY (f:aaM):Entry S:=⟨99,[q9,q0],[q3],fun x=>f x.1 x.2⟩
def dY  (r_:aE) (s:List UInt8):Option (Bool×aE):=(gG r_ s).bind fun r1=>
 bif r1.1 then
 some (r1.1,aE.mk (aU.mk r1.2.Row.L (aj (r1.2.Row.At+1)) r1.2.Row.av)) else
 some (r1.1,r1.2)
theorem Bw:ax Tryz.prog S (xY (dY)):=
 aY pk [Bq gG] ⟨Eh,trivial⟩ Tryz.func99 (by kernel_rfl) (fun _=>by kernel_rfl) (by kernel_rfl)
abbrev aag:=aE→Int→Int→Option aE
abbrev Ed (f:aag):Entry S:=⟨58,[q9,q1,q1],[],fun x=>f x.1 x.2.1 x.2.2⟩
def kg  (r_:aE) (code:Int) (ah:Int):Option aE:=(mR r_).bind fun r1=>
 bif r1.1 then
 some (aE.mk (aU.mk r1.2.Row.L r1.2.Row.At (az.mk code ah))) else
 some r1.2
theorem Jo:ax Tryz.prog S (Ed (kg)):=
 aY pk [Bu mR] ⟨El,trivial⟩ Tryz.func58 (by kernel_rfl) (fun _=>by kernel_rfl) (by kernel_rfl)
abbrev aaV:=aE→Option aE
abbrev Et (f:aaV):Entry S:=⟨63,[q9],[],fun x=>f x⟩
def n9  (r_:aE):Option aE:=(gr r_).bind fun r1=>
 if r1.1.Kind=4 then
 (kg r1.2 12 r1.1.At).bind fun r2=>
 some r2 else
 (kg r1.2 11 r1.1.At).bind fun r3=>
 some r3
theorem JB:ax Tryz.prog S (Et (n9)):=
 aY pk [qP gr,Ed kg] ⟨tc,Jo,trivial⟩ Tryz.func63 (by kernel_rfl) (fun _=>by kernel_rfl) (by kernel_rfl)
abbrev aaR:=aE→(List UInt8)→Option aE
abbrev xZ (f:aaR):Entry S:=⟨54,[q9,q0],[],fun x=>f x.1 x.2⟩
def cL  (r_:aE) (s:List UInt8):Option aE:=(dY r_ s).bind fun r1=>
 bif !r1.1 then
 (n9 r1.2).bind fun r2=>
 some r2 else
 some r1.2
theorem BA:ax Tryz.prog S (xZ (cL)):=
 aY pk [xY dY,Et n9] ⟨Bw,JB,trivial⟩ Tryz.func54 (by kernel_rfl) (fun _=>by kernel_rfl) (by kernel_rfl)
abbrev YS:=(List UInt8)→Option Bool
abbrev A7 (f:YS):Entry S:=⟨161,[q0],[q3],fun x=>f x⟩
def nU  (s:List UInt8):Option Bool:=if s=ou then
 if s=ou then
 some true else
 some false else
 if s=oh then
 if s=oh then
 some true else
 some false else
 if s=iq then
 if s=iq then
 some true else
 some false else
 if s=rG then
 if s=rG then
 some true else
 some false else
 if s=rB then
 if s=rB then
 some true else
 some false else
 if s=jx then
 if s=jx then
 some true else
 some false else
 if s=rD then
 if s=rD then
 some true else
 some false else
 if s=rH then
 if s=rH then
 some true else
 some false else
 if s=iw then
 if s=iw then
 some true else
 some false else
 if s=ir then
 if s=ir then
 some true else
 some false else
 if s=gL then
 if s=gL then
 some true else
 some false else
 if s=fK then
 if s=fK then
 some true else
 some false else
 if s=pR then
 if s=pR then
 some true else
 some false else
 if s=pT then
 if s=pT then
 some true else
 some false else
 if s=fX then
 if s=fX then
 some true else
 some false else
 if s=iZ then
 if s=iZ then
 some true else
 some false else
 if s=nc then
 if s=nc then
 some true else
 some false else
 if s=ng then
 if s=ng then
 some true else
 some false else
 if s=m_ then
 if s=m_ then
 some true else
 some false else
 if s=om then
 if s=om then
 some true else
 some false else
 if s=kX then
 if s=kX then
 some true else
 some false else
 if s=ry then
 if s=ry then
 some true else
 some false else
 if s=kq then
 if s=kq then
 some true else
 some false else
 if s=lX then
 if s=lX then
 some true else
 some false else
 if s=jw then
 if s=jw then
 some true else
 some false else
 if s=rF then
 if s=rF then
 some true else
 some false else
 if s=rz then
 if s=rz then
 some true else
 some false else
 if s=kY then
 if s=kY then
 some true else
 some false else
 if s=jv then
 if s=jv then
 some true else
 some false else
 if s=rm then
 if s=rm then
 some true else
 some false else
 if s=ij then
 if s=ij then
 some true else
 some false else
 if s=rC then
 if s=rC then
 some true else
 some false else
 if s=rq then
 if s=rq then
 some true else
 some false else
 if s=ju then
 if s=ju then
 some true else
 some false else
 if s=tM then
 some true else
 some false
theorem DN:ax Tryz.prog S (A7 (nU)):=
 aY pk [] trivial Tryz.func161 (by kernel_rfl) (fun _=>by kernel_rfl) (by kernel_rfl)
abbrev aal:=aE→Option (Bool×aE)
abbrev PE (f:aal):Entry S:=⟨139,[q9],[q3],fun x=>f x⟩
def vB  (r_:aE):Option (Bool×aE):=(gr r_).bind fun r1=>
 if r1.1.Kind=1 then
 (nU r1.1.Text).bind fun r2=>
 some (!r2,r1.2) else
 some (false,r1.2)
theorem aak:ax Tryz.prog S (PE (vB)):=
 aY pk [qP gr,A7 nU] ⟨tc,DN,trivial⟩ Tryz.func139 (by kernel_rfl) (fun _=>by kernel_rfl) (by kernel_rfl)
abbrev aay:=aE→Option (List UInt8×aE)
abbrev Bt (f:aay):Entry S:=⟨102,[q9],[q0],fun x=>f x⟩
def fD  (r_:aE):Option (List UInt8×aE):=(vB r_).bind fun r1=>
 bif !r1.1 then
 (n9 r1.2).bind fun r2=>
 some ([],r2) else
 if 0≤(aj ((aj (r1.2.Row.At+1)) - 1)) then
 if (aj ((aj (r1.2.Row.At+1)) - 1))<(r1.2.Row.L.length:Int) then
 some ((r1.2.Row.L.getD (aj ((aj (r1.2.Row.At+1)) - 1)).toNat ai.z).Text,aE.mk (aU.mk r1.2.Row.L (aj (r1.2.Row.At+1)) r1.2.Row.av)) else none else none
theorem Ej:ax Tryz.prog S (Bt (fD)):=
 aY pk [PE vB,Et n9] ⟨aak,JB,trivial⟩ Tryz.func102 (by kernel_rfl) (fun _=>by kernel_rfl) (by kernel_rfl)
abbrev aaD:=aE→Option (Int×aE)
abbrev PL (f:aaD):Entry S:=⟨55,[q9],[q1],fun x=>f x⟩
def ki  (r_:aE):Option (Int×aE):=(gr r_).bind fun r1=>
 if r1.1.Kind≠2 then
 (n9 r1.2).bind fun r2=>
 some (0,r2) else
 some (r1.1.N,aE.mk (aU.mk r1.2.Row.L (aj (r1.2.Row.At+1)) r1.2.Row.av))
theorem aaC:ax Tryz.prog S (PL (ki)):=
 aY pk [qP gr,Et n9] ⟨tc,JB,trivial⟩ Tryz.func55 (by kernel_rfl) (fun _=>by kernel_rfl) (by kernel_rfl)
abbrev Vv:=aE→Option (aX×aE)
abbrev GZ (f:Vv):Entry S:=⟨136,[q9],[Jd],fun x=>f x⟩
def uK  (r_:aE):Option (aX×aE):=(gr r_).bind fun r1=>
 (fD r1.2).bind fun r2=>
 some (aX.mk r2.1 0 r1.1.At,r2.2)
theorem Mc:ax Tryz.prog S (GZ (uK)):=
 aY pk [qP gr,Bt fD] ⟨tc,Ej,trivial⟩ Tryz.func136 (by kernel_rfl) (fun _=>by kernel_rfl) (by kernel_rfl)
abbrev Vy:=aE→(List UInt8)→Option (List aX×aE)
abbrev Md (f:Vy):Entry S:=⟨137,[q9,q0],[DX],fun x=>f x.1 x.2⟩
def uL:Nat→(List ai)→Int→Int→Int→(List UInt8)→(List aX)→Option (List aX×aE)
 | 0,_,_,_,_,_,_=>none
 | k+1,cK,cH,cJ,cI,word,l=>(dY (aE.mk (aU.mk cK cH (az.mk cJ cI))) word).bind fun r1=>
  bif r1.1 then
  (uK r1.2).bind fun r2=>
  if (l.length+ [r2.1].length)*32≤140737488355328 then
  (cL r2.2 bD).bind fun r3=>
  uL k r3.Row.L r3.Row.At r3.Row.av.Code r3.Row.av.At word (l++ [r2.1]) else none else
  some (l,r1.2)
def G0 (k:Nat) (r_:aE) (word:List UInt8):Option (List aX×aE):=uL k r_.Row.L r_.Row.At r_.Row.av.Code r_.Row.av.At word []
def sH  (r_:aE) (word:List UInt8):Option (List aX×aE):=bw (fun k (x:aE×List UInt8)=>G0 k x.1 x.2) (r_,word)
theorem Vw:ax Tryz.prog S (Md (sH)):=cl (fun k x=>G0 k x.1 x.2) (fun _=>rfl) fun k=>
 b7 pk [xY dY,GZ uK,xZ cL] ⟨Bw,Mc,BA,trivial⟩ Tryz.func137 [] k (fun k=> [(0,⟨[0,1,5],[cC,q0,DX],fun x=>uL k x.1.1 x.1.2.1 x.1.2.2.1 x.1.2.2.2 x.2.1 x.2.2,false⟩)]) ⟨fun _=>rfl,trivial⟩ (fun _=>by kernel_rfl) (fun _=>by kernel_rfl) (by kernel_rfl)
abbrev Vn:=aE→Option (Int×aE)
abbrev L5 (f:Vn):Entry S:=⟨159,[q9],[q1],fun x=>f x⟩
def iS  (r_:aE):Option (Int×aE):=(gG r_ iw).bind fun r1=>
 bif r1.1 then
 some (1,r1.2) else
 (gG r1.2 ir).bind fun r2=>
 bif r2.1 then
 some (2,r2.2) else
 (gG r2.2 gL).bind fun r3=>
 bif r3.1 then
 some (3,r3.2) else
 (gG r3.2 fK).bind fun r4=>
 bif r4.1 then
 some (4,r4.2) else
 some (0,r4.2)
theorem Vm:ax Tryz.prog S (L5 (iS)):=
 aY pk [Bq gG] ⟨Eh,trivial⟩ Tryz.func159 (by kernel_rfl) (fun _=>by kernel_rfl) (by kernel_rfl)
abbrev aaK:=aK→Option (Bool×aK)
abbrev xX (f:aaK):Entry S:=⟨20,[jS],[q3],fun x=>f x⟩
def kS  (r_:aK):Option (Bool×aK):=some (decide (r_.Row.av.Code=0),r_)
theorem Bv:ax Tryz.prog S (xX (kS)):=
 aY pk [] trivial Tryz.func20 (by kernel_rfl) (fun _=>by kernel_rfl) (by kernel_rfl)
abbrev aav:=aK→Option (ai×aK)
abbrev vF (f:aav):Entry S:=⟨62,[jS],[q4],fun x=>f x⟩
def jq  (r_:aK):Option (ai×aK):=(kS r_).bind fun r1=>
 bif !r1.1 then
 some (ai.mk 4 0 0 [] 0,r1.2) else
 if r1.2.Row.At<0 then
 some (ai.mk 4 0 0 [] 0,r1.2) else
 if (r1.2.Row.L.length:Int)≤r1.2.Row.At then
 some (ai.mk 4 0 0 [] 0,r1.2) else
 if 0≤r1.2.Row.At then
 if r1.2.Row.At<(r1.2.Row.L.length:Int) then
 some (r1.2.Row.L.getD r1.2.Row.At.toNat ai.z,r1.2) else none else none
theorem xV:ax Tryz.prog S (vF (jq)):=
 aY pk [xX kS] ⟨Bv,trivial⟩ Tryz.func62 (by kernel_rfl) (fun _=>by kernel_rfl) (by kernel_rfl)
abbrev aar:=aK→(List UInt8)→Option (Bool×aK)
abbrev Br (f:aar):Entry S:=⟨100,[jS,q0],[q3],fun x=>f x.1 x.2⟩
def kR  (r_:aK) (s:List UInt8):Option (Bool×aK):=(jq r_).bind fun r1=>
 if r1.1.Kind=3 then
 some (decide (r1.1.Text=s),r1.2) else
 if r1.1.Kind=1 then
 some (decide (r1.1.Text=s),r1.2) else
 some (false,r1.2)
theorem Ei:ax Tryz.prog S (Br (kR)):=
 aY pk [vF jq] ⟨xV,trivial⟩ Tryz.func100 (by kernel_rfl) (fun _=>by kernel_rfl) (by kernel_rfl)
abbrev aai:=aK→Int→Int→Option aK
abbrev Ef (f:aai):Entry S:=⟨58,[jS,q1,q1],[],fun x=>f x.1 x.2.1 x.2.2⟩
def iE  (r_:aK) (code:Int) (ah:Int):Option aK:=(kS r_).bind fun r1=>
 bif r1.1 then
 some (aK.mk (aU.mk r1.2.Row.L r1.2.Row.At (az.mk code ah)) r1.2.bG) else
 some r1.2
theorem Jq:ax Tryz.prog S (Ef (iE)):=
 aY pk [xX kS] ⟨Bv,trivial⟩ Tryz.func58 (by kernel_rfl) (fun _=>by kernel_rfl) (by kernel_rfl)
abbrev aaO:=aK→(List UInt8)→Option (Bool×aK)
abbrev Bz (f:aaO):Entry S:=⟨99,[jS,q0],[q3],fun x=>f x.1 x.2⟩
def iX  (r_:aK) (s:List UInt8):Option (Bool×aK):=(kR r_ s).bind fun r1=>
 bif r1.1 then
 some (r1.1,aK.mk (aU.mk r1.2.Row.L (aj (r1.2.Row.At+1)) r1.2.Row.av) r1.2.bG) else
 some (r1.1,r1.2)
theorem Ep:ax Tryz.prog S (Bz (iX)):=
 aY pk [Br kR] ⟨Ei,trivial⟩ Tryz.func99 (by kernel_rfl) (fun _=>by kernel_rfl) (by kernel_rfl)
abbrev aaX:=aK→Option aK
abbrev BD (f:aaX):Entry S:=⟨63,[jS],[],fun x=>f x⟩
def js  (r_:aK):Option aK:=(jq r_).bind fun r1=>
 if r1.1.Kind=4 then
 (iE r1.2 12 r1.1.At).bind fun r2=>
 some r2 else
 (iE r1.2 11 r1.1.At).bind fun r3=>
 some r3
theorem Ev:ax Tryz.prog S (BD (js)):=
 aY pk [vF jq,Ef iE] ⟨xV,Jq,trivial⟩ Tryz.func63 (by kernel_rfl) (fun _=>by kernel_rfl) (by kernel_rfl)
abbrev aaT:=aK→(List UInt8)→Option aK
abbrev BB (f:aaT):Entry S:=⟨54,[jS,q0],[],fun x=>f x.1 x.2⟩
def dZ  (r_:aK) (s:List UInt8):Option aK:=(iX r_ s).bind fun r1=>
 bif !r1.1 then
 (js r1.2).bind fun r2=>
 some r2 else
 some r1.2
theorem Er:ax Tryz.prog S (BB (dZ)):=
 aY pk [Bz iX,BD js] ⟨Ep,Ev,trivial⟩ Tryz.func54 (by kernel_rfl) (fun _=>by kernel_rfl) (by kernel_rfl)
abbrev aan:=aK→Option (Bool×aK)
abbrev Jt (f:aan):Entry S:=⟨139,[jS],[q3],fun x=>f x⟩
def qN  (r_:aK):Option (Bool×aK):=(jq r_).bind fun r1=>
 if r1.1.Kind=1 then
 (nU r1.1.Text).bind fun r2=>
 some (!r2,r1.2) else
 some (false,r1.2)
theorem PG:ax Tryz.prog S (Jt (qN)):=
 aY pk [vF jq,A7 nU] ⟨xV,DN,trivial⟩ Tryz.func139 (by kernel_rfl) (fun _=>by kernel_rfl) (by kernel_rfl)
abbrev aaB:=aK→Option (List UInt8×aK)
abbrev PK (f:aaB):Entry S:=⟨102,[jS],[q0],fun x=>f x⟩
def ic  (r_:aK):Option (List UInt8×aK):=(qN r_).bind fun r1=>
 bif !r1.1 then
 (js r1.2).bind fun r2=>
 some ([],r2) else
 if 0≤(aj ((aj (r1.2.Row.At+1)) - 1)) then
 if (aj ((aj (r1.2.Row.At+1)) - 1))<(r1.2.Row.L.length:Int) then
 some ((r1.2.Row.L.getD (aj ((aj (r1.2.Row.At+1)) - 1)).toNat ai.z).Text,aK.mk (aU.mk r1.2.Row.L (aj (r1.2.Row.At+1)) r1.2.Row.av) r1.2.bG) else none else none
theorem aaA:ax Tryz.prog S (PK (ic)):=
 aY pk [Jt qN,BD js] ⟨PG,Ev,trivial⟩ Tryz.func102 (by kernel_rfl) (fun _=>by kernel_rfl) (by kernel_rfl)
abbrev aaH:=aS→Option (Bool×aS)
abbrev Ek (f:aaH):Entry S:=⟨20,[lM],[q3],fun x=>f x⟩
def pE  (r_:aS):Option (Bool×aS):=some (decide (r_.Row.av.Code=0),r_)
theorem Jx:ax Tryz.prog S (Ek (pE)):=
 aY pk [] trivial Tryz.func20 (by kernel_rfl) (fun _=>by kernel_rfl) (by kernel_rfl)
abbrev aas:=aS→Option (ai×aS)
abbrev vE (f:aas):Entry S:=⟨62,[lM],[q4],fun x=>f x⟩
def jr  (r_:aS):Option (ai×aS):=(pE r_).bind fun r1=>
 bif !r1.1 then
 some (ai.mk 4 0 0 [] 0,r1.2) else
 if r1.2.Row.At<0 then
 some (ai.mk 4 0 0 [] 0,r1.2) else
 if (r1.2.Row.L.length:Int)≤r1.2.Row.At then
 some (ai.mk 4 0 0 [] 0,r1.2) else
 if 0≤r1.2.Row.At then
 if r1.2.Row.At<(r1.2.Row.L.length:Int) then
 some (r1.2.Row.L.getD r1.2.Row.At.toNat ai.z,r1.2) else none else none
theorem xU:ax Tryz.prog S (vE (jr)):=
 aY pk [Ek pE] ⟨Jx,trivial⟩ Tryz.func62 (by kernel_rfl) (fun _=>by kernel_rfl) (by kernel_rfl)
abbrev aao:=aS→(List UInt8)→Option (Bool×aS)
abbrev Eg (f:aao):Entry S:=⟨100,[lM,q0],[q3],fun x=>f x.1 x.2⟩
def mP  (r_:aS) (s:List UInt8):Option (Bool×aS):=(jr r_).bind fun r1=>
 if r1.1.Kind=3 then
 some (decide (r1.1.Text=s),r1.2) else
 if r1.1.Kind=1 then
 some (decide (r1.1.Text=s),r1.2) else
 some (false,r1.2)
theorem Ju:ax Tryz.prog S (Eg (mP)):=
 aY pk [vE jr] ⟨xU,trivial⟩ Tryz.func100 (by kernel_rfl) (fun _=>by kernel_rfl) (by kernel_rfl)
abbrev aaf:=aS→Int→Int→Option aS
abbrev Jn (f:aaf):Entry S:=⟨58,[lM,q1,q1],[],fun x=>f x.1 x.2.1 x.2.2⟩
def n5  (r_:aS) (code:Int) (ah:Int):Option aS:=(pE r_).bind fun r1=>
 bif r1.1 then
 some (aS.mk (aU.mk r1.2.Row.L r1.2.Row.At (az.mk code ah)) r1.2.bG) else
 some r1.2
theorem PC:ax Tryz.prog S (Jn (n5)):=
 aY pk [Ek pE] ⟨Jx,trivial⟩ Tryz.func58 (by kernel_rfl) (fun _=>by kernel_rfl) (by kernel_rfl)
abbrev Wo:=aS→Int→Option (Bool×aS)
abbrev Hr (f:Wo):Entry S:=⟨220,[lM,q1],[q3],fun x=>f x.1 x.2⟩
def kL  (r_:aS) (ah:Int):Option (Bool×aS):=if r_.bG=12 then
 (n5 r_ 14 ah).bind fun r1=>
 some (false,r1) else
 some (true,aS.mk (aU.mk r_.Row.L (aj (r_.Row.At+1)) r_.Row.av) (aj (r_.bG+1)))
theorem MW:ax Tryz.prog S (Hr (kL)):=
 aY pk [Jn n5] ⟨PC,trivial⟩ Tryz.func220 (by kernel_rfl) (fun _=>by kernel_rfl) (by kernel_rfl)
abbrev aaL:=aS→(List UInt8)→Option (Bool×aS)
abbrev Jz (f:aaL):Entry S:=⟨99,[lM,q0],[q3],fun x=>f x.1 x.2⟩
def pF  (r_:aS) (s:List UInt8):Option (Bool×aS):=(mP r_ s).bind fun r1=>
 bif r1.1 then
 some (r1.1,aS.mk (aU.mk r1.2.Row.L (aj (r1.2.Row.At+1)) r1.2.Row.av) r1.2.bG) else
 some (r1.1,r1.2)
theorem PO:ax Tryz.prog S (Jz (pF)):=
 aY pk [Eg mP] ⟨Ju,trivial⟩ Tryz.func99 (by kernel_rfl) (fun _=>by kernel_rfl) (by kernel_rfl)
abbrev aaj:=aS→Option (Bool×aS)
abbrev Jr (f:aaj):Entry S:=⟨139,[lM],[q3],fun x=>f x⟩
def qO  (r_:aS):Option (Bool×aS):=(jr r_).bind fun r1=>
 if r1.1.Kind=1 then
 (nU r1.1.Text).bind fun r2=>
 some (!r2,r1.2) else
 some (false,r1.2)
theorem PD:ax Tryz.prog S (Jr (qO)):=
 aY pk [vE jr,A7 nU] ⟨xU,DN,trivial⟩ Tryz.func139 (by kernel_rfl) (fun _=>by kernel_rfl) (by kernel_rfl)
abbrev aaU:=aS→Option aS
abbrev Es (f:aaU):Entry S:=⟨63,[lM],[],fun x=>f x⟩
def mS  (r_:aS):Option aS:=(jr r_).bind fun r1=>
 if r1.1.Kind=4 then
 (n5 r1.2 12 r1.1.At).bind fun r2=>
 some r2 else
 (n5 r1.2 11 r1.1.At).bind fun r3=>
 some r3
theorem JA:ax Tryz.prog S (Es (mS)):=
 aY pk [vE jr,Jn n5] ⟨xU,PC,trivial⟩ Tryz.func63 (by kernel_rfl) (fun _=>by kernel_rfl) (by kernel_rfl)
abbrev aax:=aS→Option (List UInt8×aS)
abbrev PJ (f:aax):Entry S:=⟨102,[lM],[q0],fun x=>f x⟩
def n7  (r_:aS):Option (List UInt8×aS):=(qO r_).bind fun r1=>
 bif !r1.1 then
 (mS r1.2).bind fun r2=>
 some ([],r2) else
 if 0≤(aj ((aj (r1.2.Row.At+1)) - 1)) then
 if (aj ((aj (r1.2.Row.At+1)) - 1))<(r1.2.Row.L.length:Int) then
 some ((r1.2.Row.L.getD (aj ((aj (r1.2.Row.At+1)) - 1)).toNat ai.z).Text,aS.mk (aU.mk r1.2.Row.L (aj (r1.2.Row.At+1)) r1.2.Row.av) r1.2.bG) else none else none
theorem aaw:ax Tryz.prog S (PJ (n7)):=
 aY pk [Jr qO,Es mS] ⟨PD,JA,trivial⟩ Tryz.func102 (by kernel_rfl) (fun _=>by kernel_rfl) (by kernel_rfl)
abbrev aaQ:=aS→(List UInt8)→Option aS
abbrev PS (f:aaQ):Entry S:=⟨54,[lM,q0],[],fun x=>f x.1 x.2⟩
def kj  (r_:aS) (s:List UInt8):Option aS:=(pF r_ s).bind fun r1=>
 bif !r1.1 then
 (mS r1.2).bind fun r2=>
 some r2 else
 some r1.2
theorem aaP:ax Tryz.prog S (PS (kj)):=
 aY pk [Jz pF,Es mS] ⟨PO,JA,trivial⟩ Tryz.func54 (by kernel_rfl) (fun _=>by kernel_rfl) (by kernel_rfl)
abbrev nN:=aS→Int→Option (an×aS)
abbrev qu (f:nN):Entry S:=⟨195,[lM,q1],[lN],fun x=>f x.1 x.2⟩
abbrev Ws:=aS→Option (an×aS)
abbrev MX (f:Ws):Entry S:=⟨219,[lM],[lN],fun x=>f x⟩
def nO (dH:nN)  (r_:aS):Option (an×aS):=(jr r_).bind fun r1=>
 if r1.1.Kind=2 then
 some (an.mk 1 r1.1.N [] [] r1.1.At,aS.mk (aU.mk r1.2.Row.L (aj (r1.2.Row.At+1)) r1.2.Row.av) r1.2.bG) else
 (pF r1.2 tJ).bind fun r2=>
 bif r2.1 then
 some (an.mk 3 0 [] [] r1.1.At,r2.2) else
 (qO r2.2).bind fun r3=>
 bif r3.1 then
 (n7 r3.2).bind fun r4=>
 some (an.mk 2 0 r4.1 [] r1.1.At,r4.2) else
 (pF r3.2 lX).bind fun r5=>
 bif r5.1 then
 (kj r5.2 gM).bind fun r6=>
 (n7 r6).bind fun r7=>
 (kj r7.2 iu).bind fun r8=>
 some (an.mk 4 0 r7.1 [] r1.1.At,r8) else
 (mP r5.2 gM).bind fun r9=>
 bif !r9.1 then
 (mS r9.2).bind fun aJ=>
 some (an.mk 0 0 [] [] 0,aJ) else
 (kL r9.2 r1.1.At).bind fun bu=>
 bif !bu.1 then
 some (an.mk 0 0 [] [] 0,bu.2) else
 (dH bu.2 1).bind fun bg=>
 (kj bg.2 iu).bind fun bp=>
 some (an.mk bg.1.Kind bg.1.N bg.1.Name bg.1.Kids bg.1.At,aS.mk bp.Row (aj (bp.bG - 1)))
theorem Wr (dH:nN) (sL:ax Tryz.prog S (qu dH)):ax Tryz.prog S (MX (nO dH)):=
 aY pk [vE jr,Jz pF,Jr qO,PJ n7,PS kj,Eg mP,Es mS,Hr kL,qu dH] ⟨xU,PO,PD,aaw,aaP,Ju,JA,MW,sL,trivial⟩ Tryz.func219 (by kernel_rfl) (fun _=>by kernel_rfl) (by kernel_rfl)
abbrev Hs:=aS→Option (an×aS)
abbrev Ap (f:Hs):Entry S:=⟨202,[lM],[lN],fun x=>f x⟩
def Dd (yX:Hs) (dH:nN) (k:Nat) (r_:aS):Option (an×aS):=(jr r_).bind fun r1=>
 (mP r1.2 gW).bind fun r2=>
 bif r2.1 then
 (kL r2.2 r1.1.At).bind fun r3=>
 bif !r3.1 then
 some (an.mk 0 0 [] [] 0,r3.2) else
 (yX r3.2).bind fun r4=>
 some (an.mk 5 0 [] [an.mk r4.1.Kind r4.1.N r4.1.Name r4.1.Kids r4.1.At] r1.1.At,aS.mk r4.2.Row (aj (r4.2.bG - 1))) else
 (mP r2.2 pQ).bind fun r5=>
 bif r5.1 then
 (kL r5.2 r1.1.At).bind fun r6=>
 bif !r6.1 then
 some (an.mk 0 0 [] [] 0,r6.2) else
 (yX r6.2).bind fun r7=>
 some (an.mk 6 0 [] [an.mk r7.1.Kind r7.1.N r7.1.Name r7.1.Kids r7.1.At] r1.1.At,aS.mk r7.2.Row (aj (r7.2.bG - 1))) else
 (nO dH r5.2).bind fun r8=>
 some (an.mk r8.1.Kind r8.1.N r8.1.Name r8.1.Kids r8.1.At,r8.2)
def lF (dH:nN):Nat→aS→Option (an×aS)
 | 0,_=>none
 | k+1,x0=>Dd (lF dH k) dH k x0
def uR (dH:nN)  (r_:aS):Option (an×aS):=bw (fun k (x:aS)=>lF dH k x) r_
theorem Wu (yX:Hs) (dH:nN) (k:Nat) (W6:ax Tryz.prog S (Ap yX)) (sL:ax Tryz.prog S (qu dH)):ax Tryz.prog S (Ap (Dd yX dH k)):=
 aY pk [vE jr,Eg mP,Hr kL,Ap yX,MX (nO dH)] ⟨xU,Ju,MW,W6,Wr dH sL,trivial⟩ Tryz.func202 (by kernel_rfl) (fun _=>by kernel_rfl) (by kernel_rfl)
theorem Wt (dH:nN) (sL:ax Tryz.prog S (qu dH)):ax Tryz.prog S (Ap (uR dH)):=kZ (fun k x=>lF dH k x) (fun _=>rfl) Tryz.func202 (by kernel_rfl) (fun _=>rfl) fun k h=>Wu (lF dH k) dH k h sL
abbrev Ww:=(List UInt8)→Option (Int×Int)
abbrev MY (f:Ww):Entry S:=⟨203,[q0],[q1,q1],fun x=>f x⟩
def Aq  (text:List UInt8):Option (Int×Int):=if text=iJ then
 some (19,1) else
 if text=iH then
 some (18,2) else
 if text=tL then
 some (12,3) else
 if text=iM then
 some (13,3) else
 if text=tK then
 some (14,3) else
 if text=iL then
 some (15,3) else
 if text=iK then
 some (16,3) else
 if text=iI then
 some (17,3) else
 if text=ey then
 some (10,4) else
 if text=gW then
 some (11,4) else
 if text=tP then
 some (7,5) else
 if text=tO then
 some (8,5) else
 if text=tN then
 some (9,5) else
 some (0,0)
theorem Wv:ax Tryz.prog S (MY (Aq)):=
 aY pk [] trivial Tryz.func203 (by kernel_rfl) (fun _=>by kernel_rfl) (by kernel_rfl)
def qv (dH:nN):Nat→(List ai)→Int→Int→Int→Int→Int→Int→Int→(List UInt8)→(List an)→Int→Int→Int→(List UInt8)→(List an)→Int→Option (an×aS)
 | 0,_,_,_,_,_,_,_,_,_,_,_,_,_,_,_,_=>none
 | k+1,cK,cH,cJ,cI,lP,level,gf,oy,iO,jb,ga,lC,lD,lE,lB,lA=>(jr (aS.mk (aU.mk cK cH (az.mk cJ cI)) lP)).bind fun r3=>
  (Aq r3.1.Text).bind fun r4=>
  if r3.1.Kind≠3 then
  some (an.mk lC lD lE lB lA,r3.2) else
  if r4.2≠level then
  some (an.mk lC lD lE lB lA,r3.2) else
  (dH (aS.mk (aU.mk r3.2.Row.L (aj (r3.2.Row.At+1)) r3.2.Row.av) r3.2.bG) (aj (level+1))).bind fun r5=>
  if level=3 then
  some (an.mk r4.1 0 [] [an.mk lC lD lE lB lA,an.mk r5.1.Kind r5.1.N r5.1.Name r5.1.Kids r5.1.At] r3.1.At,r5.2) else
  qv dH k r5.2.Row.L r5.2.Row.At r5.2.Row.av.Code r5.2.Row.av.At r5.2.bG level gf oy iO jb ga r4.1 0 [] [an.mk lC lD lE lB lA,an.mk r5.1.Kind r5.1.N r5.1.Name r5.1.Kids r5.1.At] r3.1.At
def sK (dH:nN) (k:Nat) (r_:aS) (level:Int):Option (an×aS):=if level=6 then
 (uR dH r_).bind fun r1=>
 some (an.mk r1.1.Kind r1.1.N r1.1.Name r1.1.Kids r1.1.At,r1.2) else
 (dH r_ (aj (level+1))).bind fun r2=>
 qv dH k r2.2.Row.L r2.2.Row.At r2.2.Row.av.Code r2.2.Row.av.At r2.2.bG level 0 0 [] [] 0 r2.1.Kind r2.1.N r2.1.Name r2.1.Kids r2.1.At
def fO:Nat→aS→Int→Option (an×aS)
 | 0,_,_=>none
 | k+1,x0,x1=>sK (fO k) k x0 x1
def Ao  (r_:aS) (level:Int):Option (an×aS):=bw (fun k (x:aS×Int)=>fO k x.1 x.2) (r_,level)
theorem Wq (dH:nN) (k:Nat) (sL:ax Tryz.prog S (qu dH)):ax Tryz.prog S (qu (sK dH k)):=
 b7 pk [Ap (uR dH),qu dH,vE jr,MY Aq] ⟨Wt dH sL,sL,xU,Wv,trivial⟩ Tryz.func195 [] k (fun k=> [(0,⟨[0,1,4,5],[Bl,q1,Je,Bm],fun x=>qv dH k x.1.1 x.1.2.1 x.1.2.2.1 x.1.2.2.2.1 x.1.2.2.2.2 x.2.1 x.2.2.1.1 x.2.2.1.2.1 x.2.2.1.2.2.1 x.2.2.1.2.2.2.1 x.2.2.1.2.2.2.2 x.2.2.2.1 x.2.2.2.2.1 x.2.2.2.2.2.1 x.2.2.2.2.2.2.1 x.2.2.2.2.2.2.2,false⟩)]) ⟨fun _=>rfl,trivial⟩ (fun _=>by kernel_rfl) (fun _=>by kernel_rfl) (by kernel_rfl)
theorem Wp:ax Tryz.prog S (qu (Ao)):=kZ (fun k x=>fO k x.1 x.2) (fun _=>rfl) Tryz.func195 (by kernel_rfl) (fun _=>rfl) fun k h=>Wq (fO k) k h
abbrev Wm:=(List ai)→Int→Option (an×Int×az)
abbrev Ho (f:Wm):Entry S:=⟨189,[ia,q1],[lN,q1,q6],fun x=>f x.1 x.2⟩
def nM  (l:List ai) (ah:Int):Option (an×Int×az):=(Ao (aS.mk (aU.mk l ah (az.mk 0 0)) 0) 1).bind fun r1=>
 (pE r1.2).bind fun r2=>
 bif !r2.1 then
 some (an.mk 0 0 [] [] 0,0,r2.2.Row.av) else
 some (an.mk r1.1.Kind r1.1.N r1.1.Name r1.1.Kids r1.1.At,r2.2.Row.At,az.mk 0 0)
theorem MU:ax Tryz.prog S (Ho (nM)):=
 aY pk [qu Ao,Ek pE] ⟨Wp,Jx,trivial⟩ Tryz.func189 (by kernel_rfl) (fun _=>by kernel_rfl) (by kernel_rfl)
abbrev T8:=aK→Option (List an×aK)
abbrev Gq (f:T8):Entry S:=⟨215,[jS],[kP],fun x=>f x⟩
def lq  (r_:aK):Option (List an×aK):=(kS r_).bind fun r1=>
 bif !r1.1 then
 some ([],r1.2) else
 (nM r1.2.Row.L r1.2.Row.At).bind fun r2=>
 (iE r1.2 r2.2.2.Code r2.2.2.At).bind fun r3=>
 some ([an.mk r2.1.Kind r2.1.N r2.1.Name r2.1.Kids r2.1.At],aK.mk (aU.mk r3.Row.L r2.2.1 r3.Row.av) r3.bG)
theorem Ll:ax Tryz.prog S (Gq (lq)):=
 aY pk [xX kS,Ho nM,Ef iE] ⟨Bv,MU,Jq,trivial⟩ Tryz.func215 (by kernel_rfl) (fun _=>by kernel_rfl) (by kernel_rfl)
abbrev T9:=aK→Option (List an×aK)
abbrev CP (f:T9):Entry S:=⟨217,[jS],[kP],fun x=>f x⟩
def j4  (r_:aK):Option (List an×aK):=(dZ r_ gM).bind fun r1=>
 (lq r1).bind fun r2=>
 (dZ r2.2 iu).bind fun r3=>
 some (r2.1,r3)
theorem Gr:ax Tryz.prog S (CP (j4)):=
 aY pk [BB dZ,Gq lq] ⟨Er,Ll,trivial⟩ Tryz.func217 (by kernel_rfl) (fun _=>by kernel_rfl) (by kernel_rfl)
abbrev Ua:=aK→Option (List an×aK)
abbrev Lm (f:Ua):Entry S:=⟨216,[jS],[kP],fun x=>f x⟩
def oK  (r_:aK):Option (List an×aK):=(kR r_ gM).bind fun r1=>
 bif !r1.1 then
 some ([],r1.2) else
 (j4 r1.2).bind fun r2=>
 some (r2.1,r2.2)
theorem T_:ax Tryz.prog S (Lm (oK)):=
 aY pk [Br kR,CP j4] ⟨Ei,Gr,trivial⟩ Tryz.func216 (by kernel_rfl) (fun _=>by kernel_rfl) (by kernel_rfl)
abbrev aaG:=aK→Option (Int×aK)
abbrev PN (f:aaG):Entry S:=⟨55,[jS],[q1],fun x=>f x⟩
def td  (r_:aK):Option (Int×aK):=(jq r_).bind fun r1=>
 if r1.1.Kind≠2 then
 (js r1.2).bind fun r2=>
 some (0,r2) else
 some (r1.1.N,aK.mk (aU.mk r1.2.Row.L (aj (r1.2.Row.At+1)) r1.2.Row.av) r1.2.bG)
theorem aaF:ax Tryz.prog S (PN (td)):=
 aY pk [vF jq,BD js] ⟨xV,Ev,trivial⟩ Tryz.func55 (by kernel_rfl) (fun _=>by kernel_rfl) (by kernel_rfl)
abbrev qj:=aK→Option (List ak×aK)
abbrev uA (f:qj):Entry S:=⟨194,[jS],[sY],fun x=>f x⟩
abbrev Uc:=aK→ak→Option (ak×aK)
abbrev Ln (f:Uc):Entry S:=⟨218,[jS,qI],[qI],fun x=>f x.1 x.2⟩
def uB (eC:qj)  (r_:aK) (a:ak):Option (ak×aK):=(iX r_ kq).bind fun r1=>
 bif r1.1 then
 (td r1.2).bind fun r2=>
 (eC r2.2).bind fun r3=>
 some (ak.mk 7 a.Name a.Event a.X r2.1 r3.1 a.fG a.At,r3.2) else
 (dZ r1.2 kX).bind fun r4=>
 (j4 r4).bind fun r5=>
 (eC r5.2).bind fun r6=>
 (iX r6.2 ry).bind fun r7=>
 bif r7.1 then
 (eC r7.2).bind fun r8=>
 some (ak.mk 6 a.Name a.Event r5.1 a.N r6.1 r8.1 a.At,r8.2) else
 some (ak.mk 6 a.Name a.Event r5.1 a.N r6.1 a.fG a.At,r7.2)
theorem Ub (eC:qj) (Az:ax Tryz.prog S (uA eC)):ax Tryz.prog S (Ln (uB eC)):=
 aY pk [Bz iX,PN td,uA eC,BB dZ,CP j4] ⟨Ep,aaF,Az,Er,Gr,trivial⟩ Tryz.func218 (by kernel_rfl) (fun _=>by kernel_rfl) (by kernel_rfl)
abbrev T5:=aK→Option (ak×aK)
abbrev Lj (f:T5):Entry S:=⟨201,[jS],[qI],fun x=>f x⟩
def jH (eC:qj)  (r_:aK):Option (ak×aK):=(jq r_).bind fun r1=>
 (qN r1.2).bind fun r2=>
 bif r2.1 then
 (ic r2.2).bind fun r3=>
 (dZ r3.2 pS).bind fun r4=>
 (lq r4).bind fun r5=>
 (dZ r5.2 bD).bind fun r6=>
 some (ak.mk 1 r3.1 [] r5.1 0 [] [] r1.1.At,r6) else
 (iX r2.2 nc).bind fun r7=>
 bif r7.1 then
 (ic r7.2).bind fun r8=>
 (oK r8.2).bind fun r9=>
 (dZ r9.2 bD).bind fun aJ=>
 some (ak.mk 2 [] r8.1 r9.1 0 [] [] r1.1.At,aJ) else
 (iX r7.2 ng).bind fun bu=>
 bif bu.1 then
 (ic bu.2).bind fun bg=>
 (ic bg.2).bind fun bp=>
 (oK bp.2).bind fun bC=>
 (dZ bC.2 bD).bind fun dN=>
 some (ak.mk 3 bg.1 bp.1 bC.1 0 [] [] r1.1.At,dN) else
 (iX bu.2 m_).bind fun r16=>
 bif r16.1 then
 (ic r16.2).bind fun gE=>
 (j4 gE.2).bind fun dF=>
 (dZ dF.2 bD).bind fun mN=>
 some (ak.mk 4 gE.1 [] dF.1 0 [] [] r1.1.At,mN) else
 (iX r16.2 om).bind fun fT=>
 bif fT.1 then
 (ic fT.2).bind fun s9=>
 (dZ s9.2 bD).bind fun xS=>
 some (ak.mk 5 s9.1 [] [] 0 [] [] r1.1.At,xS) else
 (kR fT.2 kX).bind fun Bp=>
 bif Bp.1 then
 bif Bp.1 then
 (uB eC Bp.2 (ak.mk 0 [] [] [] 0 [] [] r1.1.At)).bind fun qK=>
 some (ak.mk qK.1.Kind qK.1.Name qK.1.Event qK.1.X qK.1.N qK.1.gh qK.1.fG qK.1.At,qK.2) else
 (js Bp.2).bind fun Z1=>
 (dZ Z1 bD).bind fun Z3=>
 some (ak.mk 0 [] [] [] 0 [] [] r1.1.At,Z3) else
 (kR Bp.2 kq).bind fun Jg=>
 bif Jg.1 then
 (uB eC Jg.2 (ak.mk 0 [] [] [] 0 [] [] r1.1.At)).bind fun qL=>
 some (ak.mk qL.1.Kind qL.1.Name qL.1.Event qL.1.X qL.1.N qL.1.gh qL.1.fG qL.1.At,qL.2) else
 (js Jg.2).bind fun Jh=>
 (dZ Jh bD).bind fun Ji=>
 some (ak.mk 0 [] [] [] 0 [] [] r1.1.At,Ji)
theorem T4 (eC:qj) (Az:ax Tryz.prog S (uA eC)):ax Tryz.prog S (Lj (jH eC)):=
 aY pk [vF jq,Jt qN,PK ic,BB dZ,Gq lq,Bz iX,Lm oK,CP j4,Br kR,Ln (uB eC),BD js] ⟨xV,PG,aaA,Er,Ll,Ep,T_,Gr,Ei,Ub eC Az,Ev,trivial⟩ Tryz.func201 (by kernel_rfl) (fun _=>by kernel_rfl) (by kernel_rfl)
def kH (eC:qj):Nat→(List ai)→Int→Int→Int→Int→(List ak)→Option (List ak×aK)
 | 0,_,_,_,_,_,_=>none
 | k+1,cK,cH,cJ,cI,lP,l=>(kS (aK.mk (aU.mk cK cH (az.mk cJ cI)) lP)).bind fun r5=>
  bif r5.1 then
  (iX r5.2 fh).bind fun r6=>
  bif !r6.1 then
  (jH eC r6.2).bind fun r7=>
  if (l.length+ [r7.1].length)*128≤140737488355328 then
  kH eC k r7.2.Row.L r7.2.Row.At r7.2.Row.av.Code r7.2.Row.av.At r7.2.bG (l++ [r7.1]) else none else
  some (l,aK.mk r6.2.Row (aj (r6.2.bG - 1))) else
  some (l,aK.mk r5.2.Row (aj (r5.2.bG - 1)))
def sx (eC:qj):Nat→(List ai)→Int→Int→Int→Int→Option (List ak×aK)
 | 0,_,_,_,_,_=>none
 | k+1,cK,cH,cJ,cI,lP=>(dZ (aK.mk (aU.mk cK cH (az.mk cJ cI)) lP) ew).bind fun r4=>
  kH eC k r4.Row.L r4.Row.At r4.Row.av.Code r4.Row.av.At (aj (r4.bG+1)) []
def oJ (eC:qj) (k:Nat) (r_:aK):Option (List ak×aK):=(kR r_ ew).bind fun r1=>
 bif r1.1 then
 if r1.2.bG=4 then
 (jq r1.2).bind fun r2=>
 (iE r2.2 14 r2.1.At).bind fun r3=>
 sx eC k r3.Row.L r3.Row.At r3.Row.av.Code r3.Row.av.At r3.bG else
 sx eC k r1.2.Row.L r1.2.Row.At r1.2.Row.av.Code r1.2.Row.av.At r1.2.bG else
 sx eC k r1.2.Row.L r1.2.Row.At r1.2.Row.av.Code r1.2.Row.av.At r1.2.bG
def fN:Nat→aK→Option (List ak×aK)
 | 0,_=>none
 | k+1,x0=>oJ (fN k) k x0
def zS  (r_:aK):Option (List ak×aK):=bw (fun k (x:aK)=>fN k x) r_
theorem T7 (eC:qj) (k:Nat) (Az:ax Tryz.prog S (uA eC)):ax Tryz.prog S (uA (oJ eC k)):=
 b7 pk [Br kR,vF jq,Ef iE,BB dZ,xX kS,Bz iX,Lj (jH eC)] ⟨Ei,xV,Jq,Er,Bv,Ep,T4 eC Az,trivial⟩ Tryz.func194 [1] k (fun k=> [(1,⟨[0],[Bl],fun x=>sx eC k x.1 x.2.1 x.2.2.1 x.2.2.2.1 x.2.2.2.2,false⟩),(0,⟨[0,3],[Bl,sY],fun x=>kH eC k x.1.1 x.1.2.1 x.1.2.2.1 x.1.2.2.2.1 x.1.2.2.2.2 x.2,false⟩)]) ⟨fun _=>rfl,fun _=>rfl,trivial⟩ (fun _=>by kernel_rfl) (fun _=>by kernel_rfl) (by kernel_rfl)
theorem T6:ax Tryz.prog S (uA (zS)):=kZ (fun k x=>fN k x) (fun _=>rfl) Tryz.func194 (by kernel_rfl) (fun _=>rfl) fun k h=>T7 (fN k) k h
abbrev TW:=(List ai)→Int→Option (List ak×Int×az)
abbrev Lh (f:TW):Entry S:=⟨187,[ia,q1],[sY,q1,q6],fun x=>f x.1 x.2⟩
def uw  (l:List ai) (ah:Int):Option (List ak×Int×az):=(zS (aK.mk (aU.mk l ah (az.mk 0 0)) 0)).bind fun r1=>
 (kS r1.2).bind fun r2=>
 bif !r2.1 then
 some ([],0,r2.2.Row.av) else
 some (r1.1,r2.2.Row.At,az.mk 0 0)
theorem TV:ax Tryz.prog S (Lh (uw)):=
 aY pk [uA zS,xX kS] ⟨T6,Bv,trivial⟩ Tryz.func187 (by kernel_rfl) (fun _=>by kernel_rfl) (by kernel_rfl)
abbrev Vu:=aE→Int→az→Option aE
abbrev GY (f:Vu):Entry S:=⟨188,[q9,q1,q6],[],fun x=>f x.1 x.2.1 x.2.2⟩
def nI  (r_:aE) (ah:Int) (f:az):Option aE:=(kg r_ f.Code f.At).bind fun r1=>
 some (aE.mk (aU.mk r1.Row.L ah r1.Row.av))
theorem L_:ax Tryz.prog S (GY (nI)):=
 aY pk [Ed kg] ⟨Jo,trivial⟩ Tryz.func188 (by kernel_rfl) (fun _=>by kernel_rfl) (by kernel_rfl)
abbrev Vo:=aE→Option (List ak×aE)
abbrev GW (f:Vo):Entry S:=⟨175,[q9],[sY],fun x=>f x⟩
def mC  (r_:aE):Option (List ak×aE):=(mR r_).bind fun r1=>
 bif !r1.1 then
 some ([],r1.2) else
 (uw r1.2.Row.L r1.2.Row.At).bind fun r2=>
 (nI r1.2 r2.2.1 r2.2.2).bind fun r3=>
 some (r2.1,r3)
theorem L6:ax Tryz.prog S (GW (mC)):=
 aY pk [Bu mR,Lh uw,GY nI] ⟨El,TV,L_,trivial⟩ Tryz.func175 (by kernel_rfl) (fun _=>by kernel_rfl) (by kernel_rfl)
abbrev VD:=aE→Option (aW×aE)
abbrev Me (f:VD):Entry S:=⟨176,[q9],[DY],fun x=>f x⟩
def w8:Nat→(List ai)→Int→Int→Int→(List UInt8)→(List an)→(List UInt8)→(List ak)→Int→(List UInt8)→(List an)→(List UInt8)→(List ak)→Int→Option (aW×aE)
 | 0,_,_,_,_,_,_,_,_,_,_,_,_,_,_=>none
 | k+1,cK,cH,cJ,cI,mg,mh,mj,me,dz,jy,kA,kB,kz,e_=>(gG (aE.mk (aU.mk cK cH (az.mk cJ cI))) ew).bind fun bu=>
  bif bu.1 then
  (mC bu.2).bind fun bg=>
  some (aW.mk jy kA kB bg.1 e_,bg.2) else
  (cL bu.2 bD).bind fun bp=>
  some (aW.mk jy kA kB kz e_,bp)
def w7:Nat→(List ai)→Int→Int→Int→(List UInt8)→(List an)→(List UInt8)→(List ak)→Int→(List UInt8)→(List an)→(List UInt8)→(List ak)→Int→Option (aW×aE)
 | 0,_,_,_,_,_,_,_,_,_,_,_,_,_,_=>none
 | k+1,cK,cH,cJ,cI,mg,mh,mj,me,dz,jy,kA,kB,kz,e_=>(dY (aE.mk (aU.mk cK cH (az.mk cJ cI))) eN).bind fun r9=>
  bif r9.1 then
  (fD r9.2).bind fun aJ=>
  w8 k aJ.2.Row.L aJ.2.Row.At aJ.2.Row.av.Code aJ.2.Row.av.At mg mh mj me dz jy kA aJ.1 kz e_ else
  w8 k r9.2.Row.L r9.2.Row.At r9.2.Row.av.Code r9.2.Row.av.At mg mh mj me dz jy kA kB kz e_
def w6:Nat→(List ai)→Int→Int→Int→(List UInt8)→(List an)→(List UInt8)→(List ak)→Int→(List UInt8)→(List an)→(List UInt8)→(List ak)→Int→Option (aW×aE)
 | 0,_,_,_,_,_,_,_,_,_,_,_,_,_,_=>none
 | k+1,cK,cH,cJ,cI,mg,mh,mj,me,dz,jy,kA,kB,kz,e_=>(dY (aE.mk (aU.mk cK cH (az.mk cJ cI))) gV).bind fun r5=>
  bif r5.1 then
  (nM r5.2.Row.L r5.2.Row.At).bind fun r6=>
  (nI r5.2 r6.2.1 r6.2.2).bind fun r7=>
  (cL r7 fY).bind fun r8=>
  w7 k r8.Row.L r8.Row.At r8.Row.av.Code r8.Row.av.At mg mh mj me dz jy [an.mk r6.1.Kind r6.1.N r6.1.Name r6.1.Kids r6.1.At] kB kz e_ else
  w7 k r5.2.Row.L r5.2.Row.At r5.2.Row.av.Code r5.2.Row.av.At mg mh mj me dz jy kA kB kz e_
def Ad (k:Nat) (r_:aE):Option (aW×aE):=(gr r_).bind fun r1=>
 (dY r1.2 fX).bind fun r2=>
 bif r2.1 then
 (fD r2.2).bind fun r3=>
 w6 k r3.2.Row.L r3.2.Row.At r3.2.Row.av.Code r3.2.Row.av.At [] [] [] [] 0 r3.1 [] [] [] r1.1.At else
 (cL r2.2 iZ).bind fun r4=>
 w6 k r4.Row.L r4.Row.At r4.Row.av.Code r4.Row.av.At [] [] [] [] 0 [] [] [] [] r1.1.At
def uM  (r_:aE):Option (aW×aE):=bw (fun k (x:aE)=>Ad k x) r_
theorem VB:ax Tryz.prog S (Me (uM)):=cl (fun k x=>Ad k x) (fun _=>rfl) fun k=>
 b7 pk [qP gr,xY dY,Bt fD,xZ cL,Ho nM,GY nI,Bq gG,GW mC] ⟨tc,Bw,Ej,BA,MU,L_,Eh,L6,trivial⟩ Tryz.func176 [2,4,9] k (fun k=> [(1,⟨[0,2,3],[cC,o9,o9],fun x=>w6 k x.1.1 x.1.2.1 x.1.2.2.1 x.1.2.2.2 x.2.1.1 x.2.1.2.1 x.2.1.2.2.1 x.2.1.2.2.2.1 x.2.1.2.2.2.2 x.2.2.1 x.2.2.2.1 x.2.2.2.2.1 x.2.2.2.2.2.1 x.2.2.2.2.2.2,false⟩),(3,⟨[0,2,3],[cC,o9,o9],fun x=>w7 k x.1.1 x.1.2.1 x.1.2.2.1 x.1.2.2.2 x.2.1.1 x.2.1.2.1 x.2.1.2.2.1 x.2.1.2.2.2.1 x.2.1.2.2.2.2 x.2.2.1 x.2.2.2.1 x.2.2.2.2.1 x.2.2.2.2.2.1 x.2.2.2.2.2.2,false⟩),(5,⟨[0,2,3],[cC,o9,o9],fun x=>w8 k x.1.1 x.1.2.1 x.1.2.2.1 x.1.2.2.2 x.2.1.1 x.2.1.2.1 x.2.1.2.2.1 x.2.1.2.2.2.1 x.2.1.2.2.2.2 x.2.2.1 x.2.2.2.1 x.2.2.2.2.1 x.2.2.2.2.2.1 x.2.2.2.2.2.2,false⟩)]) ⟨fun _=>rfl,fun _=>rfl,fun _=>rfl,trivial⟩ (fun _=>by kernel_rfl) (fun _=>by kernel_rfl) (by kernel_rfl)
abbrev jK:=aE→Int→Option (List aG×aE)
abbrev w5 (f:jK):Entry S:=⟨138,[q9,q1],[xP],fun x=>f x.1 x.2⟩
abbrev Vt:=aE→(Int×List UInt8×List ak×List ak×List aW×List aG×Int)→Int→Option (aE×(Int×List UInt8×List ak×List ak×List aW×List aG×Int))
abbrev L9 (f:Vt):Entry S:=⟨160,[q9,Bn,q1],[],fun x=>f x.1 x.2.1 x.2.2⟩
mutual
def qq (dy:jK):Nat→(List ai)→Int→Int→Int→Int→(List UInt8)→(List ak)→(List ak)→(List aW)→(List aG)→Int→Int→Option (aE×(Int×List UInt8×List ak×List ak×List aW×List aG×Int))
 | 0,_,_,_,_,_,_,_,_,_,_,_,_=>none
 | k+1,cK,cH,cJ,cI,fW,gK,gv,gH,fE,gJ,fV,deep=>(gG (aE.mk (aU.mk cK cH (az.mk cJ cI))) fX).bind fun r6=>
  bif r6.1 then
  wX dy k r6.2.Row.L r6.2.Row.At r6.2.Row.av.Code r6.2.Row.av.At fW gK gv gH fE gJ fV deep else
  (gG r6.2 iZ).bind fun r7=>
  bif r7.1 then
  wX dy k r7.2.Row.L r7.2.Row.At r7.2.Row.av.Code r7.2.Row.av.At fW gK gv gH fE gJ fV deep else
  (dy r7.2 (aj (deep+1))).bind fun r8=>
  (cL r8.2 fh).bind fun r9=>
  some (r9,(fW,gK,gv,gH,fE,r8.1,fV))
def wX (dy:jK):Nat→(List ai)→Int→Int→Int→Int→(List UInt8)→(List ak)→(List ak)→(List aW)→(List aG)→Int→Int→Option (aE×(Int×List UInt8×List ak×List ak×List aW×List aG×Int))
 | 0,_,_,_,_,_,_,_,_,_,_,_,_=>none
 | k+1,cK,cH,cJ,cI,fW,gK,gv,gH,fE,gJ,fV,deep=>(uM (aE.mk (aU.mk cK cH (az.mk cJ cI)))).bind fun aJ=>
  if (fE.length+ [aJ.1].length)*88≤140737488355328 then
  qq dy k aJ.2.Row.L aJ.2.Row.At aJ.2.Row.av.Code aJ.2.Row.av.At fW gK gv gH (fE++ [aJ.1]) gJ fV deep else none
end
def GX (dy:jK):Nat→(List ai)→Int→Int→Int→Int→(List UInt8)→(List ak)→(List ak)→(List aW)→(List aG)→Int→Int→Option (aE×(Int×List UInt8×List ak×List ak×List aW×List aG×Int))
 | 0,_,_,_,_,_,_,_,_,_,_,_,_=>none
 | k+1,cK,cH,cJ,cI,fW,gK,gv,gH,fE,gJ,fV,deep=>qq dy k cK cH cJ cI fW gK gv gH fE gJ fV deep
def Ac (dy:jK):Nat→(List ai)→Int→Int→Int→Int→(List UInt8)→(List ak)→(List ak)→(List aW)→(List aG)→Int→Int→Option (aE×(Int×List UInt8×List ak×List ak×List aW×List aG×Int))
 | 0,_,_,_,_,_,_,_,_,_,_,_,_=>none
 | k+1,cK,cH,cJ,cI,fW,gK,gv,gH,fE,gJ,fV,deep=>(dY (aE.mk (aU.mk cK cH (az.mk cJ cI))) pT).bind fun r4=>
  bif r4.1 then
  (mC r4.2).bind fun r5=>
  GX dy k r5.2.Row.L r5.2.Row.At r5.2.Row.av.Code r5.2.Row.av.At fW gK gv r5.1 fE gJ fV deep else
  GX dy k r4.2.Row.L r4.2.Row.At r4.2.Row.av.Code r4.2.Row.av.At fW gK gv gH fE gJ fV deep
def wY (dy:jK) (k:Nat) (r_:aE) (s:Int×List UInt8×List ak×List ak×List aW×List aG×Int) (deep:Int):Option (aE×(Int×List UInt8×List ak×List ak×List aW×List aG×Int)):=(cL r_ ew).bind fun r1=>
 (dY r1 pR).bind fun r2=>
 bif r2.1 then
 (mC r2.2).bind fun r3=>
 Ac dy k r3.2.Row.L r3.2.Row.At r3.2.Row.av.Code r3.2.Row.av.At s.1 s.2.1 r3.1 s.2.2.2.1 s.2.2.2.2.1 s.2.2.2.2.2.1 s.2.2.2.2.2.2 deep else
 Ac dy k r2.2.Row.L r2.2.Row.At r2.2.Row.av.Code r2.2.Row.av.At s.1 s.2.1 s.2.2.1 s.2.2.2.1 s.2.2.2.2.1 s.2.2.2.2.2.1 s.2.2.2.2.2.2 deep
def uJ (dy:jK)  (r_:aE) (s:Int×List UInt8×List ak×List ak×List aW×List aG×Int) (deep:Int):Option (aE×(Int×List UInt8×List ak×List ak×List aW×List aG×Int)):=bw (fun k (x:aE×(Int×List UInt8×List ak×List ak×List aW×List aG×Int)×Int)=>wY dy k x.1 x.2.1 x.2.2) (r_,s,deep)
theorem Vr (dy:jK) (HK:ax Tryz.prog S (w5 dy)):ax Tryz.prog S (L9 (uJ dy)):=cl (fun k x=>wY dy k x.1 x.2.1 x.2.2) (fun _=>rfl) fun k=>
 b7 pk [xZ cL,xY dY,GW mC,Bq gG,w5 dy,Me uM] ⟨BA,Bw,L6,Eh,HK,VB,trivial⟩ Tryz.func160 [1,3,6] k (fun k=> [(1,⟨[0,1,2],[cC,Bn,q1],fun x=>Ac dy k x.1.1 x.1.2.1 x.1.2.2.1 x.1.2.2.2 x.2.1.1 x.2.1.2.1 x.2.1.2.2.1 x.2.1.2.2.2.1 x.2.1.2.2.2.2.1 x.2.1.2.2.2.2.2.1 x.2.1.2.2.2.2.2.2 x.2.2,false⟩),(3,⟨[0,1,2],[cC,Bn,q1],fun x=>GX dy k x.1.1 x.1.2.1 x.1.2.2.1 x.1.2.2.2 x.2.1.1 x.2.1.2.1 x.2.1.2.2.1 x.2.1.2.2.2.1 x.2.1.2.2.2.2.1 x.2.1.2.2.2.2.2.1 x.2.1.2.2.2.2.2.2 x.2.2,false⟩),(0,⟨[0,1,2],[cC,Bn,q1],fun x=>qq dy k x.1.1 x.1.2.1 x.1.2.2.1 x.1.2.2.2 x.2.1.1 x.2.1.2.1 x.2.1.2.2.1 x.2.1.2.2.2.1 x.2.1.2.2.2.2.1 x.2.1.2.2.2.2.2.1 x.2.1.2.2.2.2.2.2 x.2.2,false⟩),(5,⟨[0,1,2],[cC,Bn,q1],fun x=>wX dy k x.1.1 x.1.2.1 x.1.2.2.1 x.1.2.2.2 x.2.1.1 x.2.1.2.1 x.2.1.2.2.1 x.2.1.2.2.2.1 x.2.1.2.2.2.2.1 x.2.1.2.2.2.2.2.1 x.2.1.2.2.2.2.2.2 x.2.2,false⟩)]) ⟨fun _=>rfl,fun _=>rfl,fun _=>rfl,fun _=>rfl,trivial⟩ (fun _=>by kernel_rfl) (fun _=>by kernel_rfl) (by kernel_rfl)
def nJ (dy:jK):Nat→(List ai)→Int→Int→Int→Int→(List aG)→Int→Option (List aG×aE)
 | 0,_,_,_,_,_,_,_=>none
 | k+1,cK,cH,cJ,cI,deep,l,kind=>if kind≠0 then
  (gr (aE.mk (aU.mk cK cH (az.mk cJ cI)))).bind fun r2=>
  if 12<deep then
  (kg r2.2 14 r2.1.At).bind fun r3=>
  some ([],r3) else
  (fD (aE.mk (aU.mk r2.2.Row.L (aj (r2.2.Row.At+1)) r2.2.Row.av))).bind fun r4=>
  if kind=1 then
  (uJ dy r4.2 (kind,r4.1,[],[],[],[],r2.1.At) deep).bind fun r5=>
  if (l.length+ [aG.mk r5.2.1 r5.2.2.1 r5.2.2.2.1 r5.2.2.2.2.1 r5.2.2.2.2.2.1 r5.2.2.2.2.2.2.1 r5.2.2.2.2.2.2.2].length)*128≤140737488355328 then
  (iS r5.1).bind fun r6=>
  nJ dy k r6.2.Row.L r6.2.Row.At r6.2.Row.av.Code r6.2.Row.av.At deep (l++ [aG.mk r5.2.1 r5.2.2.1 r5.2.2.2.1 r5.2.2.2.2.1 r5.2.2.2.2.2.1 r5.2.2.2.2.2.2.1 r5.2.2.2.2.2.2.2]) r6.1 else none else
  if kind=2 then
  (uJ dy r4.2 (kind,r4.1,[],[],[],[],r2.1.At) deep).bind fun r7=>
  if (l.length+ [aG.mk r7.2.1 r7.2.2.1 r7.2.2.2.1 r7.2.2.2.2.1 r7.2.2.2.2.2.1 r7.2.2.2.2.2.2.1 r7.2.2.2.2.2.2.2].length)*128≤140737488355328 then
  (iS r7.1).bind fun r8=>
  nJ dy k r8.2.Row.L r8.2.Row.At r8.2.Row.av.Code r8.2.Row.av.At deep (l++ [aG.mk r7.2.1 r7.2.2.1 r7.2.2.2.1 r7.2.2.2.2.1 r7.2.2.2.2.2.1 r7.2.2.2.2.2.2.1 r7.2.2.2.2.2.2.2]) r8.1 else none else
  (cL r4.2 bD).bind fun r9=>
  if (l.length+ [aG.mk kind r4.1 [] [] [] [] r2.1.At].length)*128≤140737488355328 then
  (iS r9).bind fun aJ=>
  nJ dy k aJ.2.Row.L aJ.2.Row.At aJ.2.Row.av.Code aJ.2.Row.av.At deep (l++ [aG.mk kind r4.1 [] [] [] [] r2.1.At]) aJ.1 else none else
  some (l,aE.mk (aU.mk cK cH (az.mk cJ cI)))
def w4 (dy:jK) (k:Nat) (r_:aE) (deep:Int):Option (List aG×aE):=(iS r_).bind fun r1=>
 nJ dy k r1.2.Row.L r1.2.Row.At r1.2.Row.av.Code r1.2.Row.av.At deep [] r1.1
def eS:Nat→aE→Int→Option (List aG×aE)
 | 0,_,_=>none
 | k+1,x0,x1=>w4 (eS k) k x0 x1
def wZ  (r_:aE) (deep:Int):Option (List aG×aE):=bw (fun k (x:aE×Int)=>eS k x.1 x.2) (r_,deep)
theorem VA (dy:jK) (k:Nat) (HK:ax Tryz.prog S (w5 dy)):ax Tryz.prog S (w5 (w4 dy k)):=
 b7 pk [L5 iS,qP gr,Ed kg,Bt fD,L9 (uJ dy),xZ cL] ⟨Vm,tc,Jo,Ej,Vr dy HK,BA,trivial⟩ Tryz.func138 [] k (fun k=> [(0,⟨[0,1,5,6],[cC,q1,xP,q1],fun x=>nJ dy k x.1.1 x.1.2.1 x.1.2.2.1 x.1.2.2.2 x.2.1 x.2.2.1 x.2.2.2,false⟩)]) ⟨fun _=>rfl,trivial⟩ (fun _=>by kernel_rfl) (fun _=>by kernel_rfl) (by kernel_rfl)
theorem Vz:ax Tryz.prog S (w5 (wZ)):=kZ (fun k x=>eS k x.1 x.2) (fun _=>rfl) Tryz.func138 (by kernel_rfl) (fun _=>rfl) fun k h=>VA (eS k) k h
abbrev Vq:=aE→Option (aZ×aE)
abbrev L8 (f:Vq):Entry S:=⟨101,[q9],[sZ],fun x=>f x⟩
def sG:Nat→(List ai)→Int→Int→Int→(List UInt8)→Int→Int→(List aX)→(List aX)→(List aX)→(List aG)→Int→(List UInt8)→Int→Int→(List aX)→(List aX)→(List aX)→(List aG)→Int→Option (aZ×aE)
 | 0,_,_,_,_,_,_,_,_,_,_,_,_,_,_,_,_,_,_,_,_=>none
 | k+1,cK,cH,cJ,cI,zy,SY,SV,S0,SW,SZ,SX,dz,wW,GP,GO,zZ,LR,LW,LV,jJ=>(dY (aE.mk (aU.mk cK cH (az.mk cJ cI))) jx).bind fun r9=>
  bif r9.1 then
  (uK r9.2).bind fun aJ=>
  (cL aJ.2 pS).bind fun bu=>
  (dY bu gW).bind fun bg=>
  (ki bg.2).bind fun bp=>
  bif bg.1 then
  (cL bp.2 bD).bind fun bC=>
  if (zZ.length+ [aX.mk aJ.1.Name (aj (0 - bp.1)) aJ.1.At].length)*32≤140737488355328 then
  sG k bC.Row.L bC.Row.At bC.Row.av.Code bC.Row.av.At zy SY SV S0 SW SZ SX dz wW GP GO (zZ++ [aX.mk aJ.1.Name (aj (0 - bp.1)) aJ.1.At]) LR LW LV jJ else none else
  (cL bp.2 bD).bind fun dN=>
  if (zZ.length+ [aX.mk aJ.1.Name bp.1 aJ.1.At].length)*32≤140737488355328 then
  sG k dN.Row.L dN.Row.At dN.Row.av.Code dN.Row.av.At zy SY SV S0 SW SZ SX dz wW GP GO (zZ++ [aX.mk aJ.1.Name bp.1 aJ.1.At]) LR LW LV jJ else none else
  (sH r9.2 rD).bind fun r16=>
  (sH r16.2 rH).bind fun gE=>
  (wZ gE.2 1).bind fun dF=>
  (cL dF.2 fh).bind fun mN=>
  some (aZ.mk wW GP GO zZ r16.1 gE.1 dF.1 jJ,mN)
def Ab (k:Nat) (r_:aE):Option (aZ×aE):=(gr r_).bind fun r1=>
 (cL r1.2 iq).bind fun r2=>
 (fD r2).bind fun r3=>
 (cL r3.2 rG).bind fun r4=>
 (ki r4).bind fun r5=>
 (cL r5.2 rB).bind fun r6=>
 (ki r6).bind fun r7=>
 (cL r7.2 ew).bind fun r8=>
 sG k r8.Row.L r8.Row.At r8.Row.av.Code r8.Row.av.At [] 0 0 [] [] [] [] 0 r3.1 r5.1 r7.1 [] [] [] [] r1.1.At
def C1  (r_:aE):Option (aZ×aE):=bw (fun k (x:aE)=>Ab k x) r_
theorem Vp:ax Tryz.prog S (L8 (C1)):=cl (fun k x=>Ab k x) (fun _=>rfl) fun k=>
 b7 pk [qP gr,xZ cL,Bt fD,PL ki,xY dY,GZ uK,Md sH,w5 wZ] ⟨tc,BA,Ej,aaC,Bw,Mc,Vw,Vz,trivial⟩ Tryz.func101 [] k (fun k=> [(0,⟨[0,2,3],[cC,Pb,Pb],fun x=>sG k x.1.1 x.1.2.1 x.1.2.2.1 x.1.2.2.2 x.2.1.1 x.2.1.2.1 x.2.1.2.2.1 x.2.1.2.2.2.1 x.2.1.2.2.2.2.1 x.2.1.2.2.2.2.2.1 x.2.1.2.2.2.2.2.2.1 x.2.1.2.2.2.2.2.2.2 x.2.2.1 x.2.2.2.1 x.2.2.2.2.1 x.2.2.2.2.2.1 x.2.2.2.2.2.2.1 x.2.2.2.2.2.2.2.1 x.2.2.2.2.2.2.2.2.1 x.2.2.2.2.2.2.2.2.2,false⟩)]) ⟨fun _=>rfl,trivial⟩ (fun _=>by kernel_rfl) (fun _=>by kernel_rfl) (by kernel_rfl)
abbrev U_:=(List ai)→Int→Option (aZ×Int×az)
abbrev L3 (f:U_):Entry S:=⟨57,[ia,q1],[sZ,q1,q6],fun x=>f x.1 x.2⟩
def uH  (l:List ai) (ah:Int):Option (aZ×Int×az):=(C1 (aE.mk (aU.mk l ah (az.mk 0 0)))).bind fun r1=>
 (mR r1.2).bind fun r2=>
 bif !r2.1 then
 some (aZ.mk [] 0 0 [] [] [] [] 0,0,r2.2.Row.av) else
 some (r1.1,r2.2.Row.At,az.mk 0 0)
theorem U9:ax Tryz.prog S (L3 (uH)):=
 aY pk [L8 C1,Bu mR] ⟨Vp,El,trivial⟩ Tryz.func57 (by kernel_rfl) (fun _=>by kernel_rfl) (by kernel_rfl)
abbrev aam:=aC→Option (Bool×aC)
abbrev Js (f:aam):Entry S:=⟨139,[q8],[q3],fun x=>f x⟩
def lQ  (r_:aC):Option (Bool×aC):=(fI r_).bind fun r1=>
 if r1.1.Kind=1 then
 (nU r1.1.Text).bind fun r2=>
 some (!r2,r1.2) else
 some (false,r1.2)
theorem PF:ax Tryz.prog S (Js (lQ)):=
 aY pk [n6 fI,A7 nU] ⟨pz,DN,trivial⟩ Tryz.func139 (by kernel_rfl) (fun _=>by kernel_rfl) (by kernel_rfl)
abbrev aaz:=aC→Option (List UInt8×aC)
abbrev vG (f:aaz):Entry S:=⟨102,[q8],[q0],fun x=>f x⟩
def c8  (r_:aC):Option (List UInt8×aC):=(lQ r_).bind fun r1=>
 bif !r1.1 then
 (lR r1.2).bind fun r2=>
 some ([],r2) else
 if 0≤(aj ((aj (r1.2.Row.At+1)) - 1)) then
 if (aj ((aj (r1.2.Row.At+1)) - 1))<(r1.2.Row.L.length:Int) then
 some ((r1.2.Row.L.getD (aj ((aj (r1.2.Row.At+1)) - 1)).toNat ai.z).Text,aC.mk (aU.mk r1.2.Row.L (aj (r1.2.Row.At+1)) r1.2.Row.av)) else none else none
theorem xW:ax Tryz.prog S (vG (c8)):=
 aY pk [Js lQ,BC lR] ⟨PF,Eu,trivial⟩ Tryz.func102 (by kernel_rfl) (fun _=>by kernel_rfl) (by kernel_rfl)
abbrev aeH:=aC→(List UInt8)→Option (Int×aC)
abbrev FG (f:aeH):Entry S:=⟨103,[q8,q0],[q1],fun x=>f x.1 x.2⟩
def l7  (r_:aC) (word:List UInt8):Option (Int×aC):=(bQ r_ word).bind fun r1=>
 (iF r1).bind fun r2=>
 some (r2.1,r2.2)
theorem Ku:ax Tryz.prog S (FG (l7)):=
 aY pk [tf bQ,Jw iF] ⟨vH,PM,trivial⟩ Tryz.func103 (by kernel_rfl) (fun _=>by kernel_rfl) (by kernel_rfl)
abbrev aeB:=aC→Option (bl×aC)
abbrev R2 (f:aeB):Entry S:=⟨59,[q8],[DZ],fun x=>f x⟩
def wG  (r_:aC):Option (bl×aC):=(fI r_).bind fun r1=>
 (bQ r1.2 jw).bind fun r2=>
 (c8 r2).bind fun r3=>
 (bQ r3.2 ko).bind fun r4=>
 (c8 r4).bind fun r5=>
 (l7 r5.2 rF).bind fun r6=>
 (l7 r6.2 rz).bind fun r7=>
 (l7 r7.2 kY).bind fun r8=>
 (bQ r8.2 bD).bind fun r9=>
 some (bl.mk r3.1 r5.1 r6.1 r7.1 r8.1 r1.1.At,r9)
theorem aeA:ax Tryz.prog S (R2 (wG)):=
 aY pk [n6 fI,tf bQ,vG c8,FG l7] ⟨pz,vH,xW,Ku,trivial⟩ Tryz.func59 (by kernel_rfl) (fun _=>by kernel_rfl) (by kernel_rfl)
abbrev aeG:=aC→Option (List UInt8×List UInt8×List UInt8×aC)
abbrev Kr (f:aeG):Entry S:=⟨104,[q8],[q0,q0,q0],fun x=>f x⟩
def wH  (r_:aC):Option (List UInt8×List UInt8×List UInt8×aC):=(c8 r_).bind fun r1=>
 (bQ r1.2 ru).bind fun r2=>
 (c8 r2).bind fun r3=>
 (bQ r3.2 eN).bind fun r4=>
 (c8 r4).bind fun r5=>
 some (r1.1,r3.1,r5.1,r5.2)
theorem R7:ax Tryz.prog S (Kr (wH)):=
 aY pk [vG c8,tf bQ] ⟨xW,vH,trivial⟩ Tryz.func104 (by kernel_rfl) (fun _=>by kernel_rfl) (by kernel_rfl)
abbrev aez:=aC→Option (bk×aC)
abbrev R1 (f:aez):Entry S:=⟨60,[q8],[D0],fun x=>f x⟩
def wF  (r_:aC):Option (bk×aC):=(fI r_).bind fun r1=>
 (bQ r1.2 jv).bind fun r2=>
 (c8 r2).bind fun r3=>
 (bQ r3.2 ko).bind fun r4=>
 (wH r4).bind fun r5=>
 (l7 r5.2.2.2 rm).bind fun r6=>
 (l7 r6.2 kY).bind fun r7=>
 (bQ r7.2 bD).bind fun r8=>
 some (bk.mk r3.1 r5.1 r5.2.1 r5.2.2.1 r6.1 r7.1 r1.1.At,r8)
theorem aey:ax Tryz.prog S (R1 (wF)):=
 aY pk [n6 fI,tf bQ,vG c8,Kr wH,FG l7] ⟨pz,vH,xW,R7,Ku,trivial⟩ Tryz.func60 (by kernel_rfl) (fun _=>by kernel_rfl) (by kernel_rfl)
abbrev aeD:=aC→(List UInt8)→Option (List (List UInt8)×aC)
abbrev Kq (f:aeD):Entry S:=⟨105,[q8,q0],[Bo],fun x=>f x.1 x.2⟩
def pW:Nat→(List ai)→Int→Int→Int→(List UInt8)→(List (List UInt8))→Option (List (List UInt8)×aC)
 | 0,_,_,_,_,_,_=>none
 | k+1,cK,cH,cJ,cI,sign,l=>(eL (aC.mk (aU.mk cK cH (az.mk cJ cI))) sign).bind fun r2=>
  bif r2.1 then
  (c8 r2.2).bind fun r3=>
  if (l.length+ [r3.1].length)*16≤140737488355328 then
  pW k r3.2.Row.L r3.2.Row.At r3.2.Row.av.Code r3.2.Row.av.At sign (l++ [r3.1]) else none else
  some (l,r2.2)
def tU (k:Nat) (r_:aC) (sign:List UInt8):Option (List (List UInt8)×aC):=(c8 r_).bind fun r1=>
 pW k r1.2.Row.L r1.2.Row.At r1.2.Row.av.Code r1.2.Row.av.At sign [r1.1]
def l6  (r_:aC) (sign:List UInt8):Option (List (List UInt8)×aC):=bw (fun k (x:aC×List UInt8)=>tU k x.1 x.2) (r_,sign)
theorem R4:ax Tryz.prog S (Kq (l6)):=cl (fun k x=>tU k x.1 x.2) (fun _=>rfl) fun k=>
 b7 pk [vG c8,By eL] ⟨xW,Eo,trivial⟩ Tryz.func105 [] k (fun k=> [(0,⟨[0,1,5],[cC,q0,Bo],fun x=>pW k x.1.1 x.1.2.1 x.1.2.2.1 x.1.2.2.2 x.2.1 x.2.2,false⟩)]) ⟨fun _=>rfl,trivial⟩ (fun _=>by kernel_rfl) (fun _=>by kernel_rfl) (by kernel_rfl)
abbrev aev:=aC→Option (bL×aC)
abbrev RZ (f:aev):Entry S:=⟨106,[q8],[D1],fun x=>f x⟩
mutual
def zk:Nat→(List ai)→Int→Int→Int→Int→(List (List (List UInt8)))→(List (List (List UInt8)))→Int→Int→(List (List (List UInt8)))→(List (List (List UInt8)))→Int→Option (bL×aC)
 | 0,_,_,_,_,_,_,_,_,_,_,_,_=>none
 | k+1,cK,cH,cJ,cI,jD,jE,jC,dz,qp,nG,oO,jJ=>(eL (aC.mk (aU.mk cK cH (az.mk cJ cI))) gV).bind fun r9=>
  bif r9.1 then
  zl k r9.2.Row.L r9.2.Row.At r9.2.Row.av.Code r9.2.Row.av.At jD jE jC dz qp nG oO jJ [] else
  (bQ r9.2 fh).bind fun aJ=>
  some (bL.mk qp nG oO jJ,aJ)
def zl:Nat→(List ai)→Int→Int→Int→Int→(List (List (List UInt8)))→(List (List (List UInt8)))→Int→Int→(List (List (List UInt8)))→(List (List (List UInt8)))→Int→(List (List UInt8))→Option (bL×aC)
 | 0,_,_,_,_,_,_,_,_,_,_,_,_,_=>none
 | k+1,cK,cH,cJ,cI,jD,jE,jC,dz,qp,nG,oO,jJ,l=>(lQ (aC.mk (aU.mk cK cH (az.mk cJ cI)))).bind fun bu=>
  bif bu.1 then
  (c8 bu.2).bind fun bg=>
  if (l.length+ [bg.1].length)*16≤140737488355328 then
  zl k bg.2.Row.L bg.2.Row.At bg.2.Row.av.Code bg.2.Row.av.At jD jE jC dz qp nG oO jJ (l++ [bg.1]) else none else
  (bQ bu.2 fY).bind fun bp=>
  if (oO.length+ [l].length)*24≤140737488355328 then
  zk k bp.Row.L bp.Row.At bp.Row.av.Code bp.Row.av.At jD jE jC dz qp nG (oO++ [l]) jJ else none
end
def rM:Nat→(List ai)→Int→Int→Int→Int→(List (List (List UInt8)))→(List (List (List UInt8)))→Int→Int→(List (List (List UInt8)))→(List (List (List UInt8)))→Int→Bool→Option (bL×aC)
 | 0,_,_,_,_,_,_,_,_,_,_,_,_,_=>none
 | k+1,cK,cH,cJ,cI,jD,jE,jC,dz,qp,nG,oO,jJ,more=>bif more then
  (eL (aC.mk (aU.mk cK cH (az.mk cJ cI))) tM).bind fun r4=>
  bif !r4.1 then
  (l6 r4.2 ey).bind fun r5=>
  if (nG.length+ [r5.1].length)*24≤140737488355328 then
  (eL r5.2 ec).bind fun r6=>
  rM k r6.2.Row.L r6.2.Row.At r6.2.Row.av.Code r6.2.Row.av.At jD jE jC dz qp (nG++ [r5.1]) oO jJ r6.1 else none else
  if (nG.length+([[]]:List (List (List UInt8))).length)*24≤140737488355328 then
  (eL r4.2 ec).bind fun r7=>
  rM k r7.2.Row.L r7.2.Row.At r7.2.Row.av.Code r7.2.Row.av.At jD jE jC dz qp (nG++([[]]:List (List (List UInt8)))) oO jJ r7.1 else none else
  (bQ (aC.mk (aU.mk cK cH (az.mk cJ cI))) bD).bind fun r8=>
  zk k r8.Row.L r8.Row.At r8.Row.av.Code r8.Row.av.At jD jE jC dz qp nG oO jJ
def zj (k:Nat) (r_:aC):Option (bL×aC):=(fI r_).bind fun r1=>
 (l7 r1.2 ju).bind fun r2=>
 (bQ r2.2 ew).bind fun r3=>
 rM k r3.Row.L r3.Row.At r3.Row.av.Code r3.Row.av.At 0 [] [] 0 r2.1 [] [] r1.1.At true
def Cn  (r_:aC):Option (bL×aC):=bw (fun k (x:aC)=>zj k x) r_
theorem aeu:ax Tryz.prog S (RZ (Cn)):=cl (fun k x=>zj k x) (fun _=>rfl) fun k=>
 b7 pk [n6 fI,FG l7,tf bQ,By eL,Kq l6,Js lQ,vG c8] ⟨pz,Ku,vH,Eo,R4,PF,xW,trivial⟩ Tryz.func106 [] k (fun k=> [(0,⟨[0,2,3,4],[cC,mL,mL,q3],fun x=>rM k x.1.1 x.1.2.1 x.1.2.2.1 x.1.2.2.2 x.2.1.1 x.2.1.2.1 x.2.1.2.2.1 x.2.1.2.2.2 x.2.2.1.1 x.2.2.1.2.1 x.2.2.1.2.2.1 x.2.2.1.2.2.2 x.2.2.2,false⟩),(2,⟨[0,2,3],[cC,mL,mL],fun x=>zk k x.1.1 x.1.2.1 x.1.2.2.1 x.1.2.2.2 x.2.1.1 x.2.1.2.1 x.2.1.2.2.1 x.2.1.2.2.2 x.2.2.1 x.2.2.2.1 x.2.2.2.2.1 x.2.2.2.2.2,false⟩),(4,⟨[0,2,3,6],[cC,mL,mL,Pc],fun x=>zl k x.1.1 x.1.2.1 x.1.2.2.1 x.1.2.2.2 x.2.1.1 x.2.1.2.1 x.2.1.2.2.1 x.2.1.2.2.2 x.2.2.1.1 x.2.2.1.2.1 x.2.2.1.2.2.1 x.2.2.1.2.2.2 x.2.2.2,false⟩)]) ⟨fun _=>rfl,fun _=>rfl,fun _=>rfl,trivial⟩ (fun _=>by kernel_rfl) (fun _=>by kernel_rfl) (by kernel_rfl)
abbrev aex:=aC→Option (a_×aC)
abbrev R0 (f:aex):Entry S:=⟨61,[q8],[xQ],fun x=>f x⟩
def wE:Nat→(List ai)→Int→Int→Int→(List UInt8)→(List UInt8)→(List UInt8)→(List UInt8)→(List (List UInt8))→(List (List UInt8))→(List bL)→Int→(List UInt8)→(List UInt8)→(List UInt8)→(List UInt8)→(List (List UInt8))→(List (List UInt8))→(List bL)→Int→Option (a_×aC)
 | 0,_,_,_,_,_,_,_,_,_,_,_,_,_,_,_,_,_,_,_,_=>none
 | k+1,cK,cH,cJ,cI,zy,KI,KJ,KK,dR,dQ,KH,dz,wW,LO,LS,LU,LQ,LN,C0,jJ=>(fF (aC.mk (aU.mk cK cH (az.mk cJ cI))) ju (C0.length:Int) 64).bind fun bp=>
  bif bp.1 then
  (Cn bp.2).bind fun bC=>
  if (C0.length+ [bC.1].length)*64≤140737488355328 then
  wE k bC.2.Row.L bC.2.Row.At bC.2.Row.av.Code bC.2.Row.av.At zy KI KJ KK dR dQ KH dz wW LO LS LU LQ LN (C0++ [bC.1]) jJ else none else
  (bQ bp.2 fh).bind fun dN=>
  some (a_.mk wW LO LS LU LQ LN C0 jJ,dN)
def Cp (k:Nat) (r_:aC):Option (a_×aC):=(fI r_).bind fun r1=>
 (bQ r1.2 ij).bind fun r2=>
 (c8 r2).bind fun r3=>
 (bQ r3.2 ko).bind fun r4=>
 (wH r4).bind fun r5=>
 (bQ r5.2.2.2 ew).bind fun r6=>
 (bQ r6 rC).bind fun r7=>
 (l6 r7 ec).bind fun r8=>
 (bQ r8.2 bD).bind fun r9=>
 (eL r9 rq).bind fun aJ=>
 bif aJ.1 then
 (l6 aJ.2 ec).bind fun bu=>
 (bQ bu.2 bD).bind fun bg=>
 wE k bg.Row.L bg.Row.At bg.Row.av.Code bg.Row.av.At [] [] [] [] [] [] [] 0 r3.1 r5.1 r5.2.1 r5.2.2.1 r8.1 bu.1 [] r1.1.At else
 wE k aJ.2.Row.L aJ.2.Row.At aJ.2.Row.av.Code aJ.2.Row.av.At [] [] [] [] [] [] [] 0 r3.1 r5.1 r5.2.1 r5.2.2.1 r8.1 [] [] r1.1.At
def Co  (r_:aC):Option (a_×aC):=bw (fun k (x:aC)=>Cp k x) r_
theorem aew:ax Tryz.prog S (R0 (Co)):=cl (fun k x=>Cp k x) (fun _=>rfl) fun k=>
 b7 pk [n6 fI,tf bQ,vG c8,Kr wH,Kq l6,By eL,Kp fF,RZ Cn] ⟨pz,vH,xW,R7,R4,Eo,R3,aeu,trivial⟩ Tryz.func61 [] k (fun k=> [(0,⟨[0,2,3],[cC,D2,D2],fun x=>wE k x.1.1 x.1.2.1 x.1.2.2.1 x.1.2.2.2 x.2.1.1 x.2.1.2.1 x.2.1.2.2.1 x.2.1.2.2.2.1 x.2.1.2.2.2.2.1 x.2.1.2.2.2.2.2.1 x.2.1.2.2.2.2.2.2.1 x.2.1.2.2.2.2.2.2.2 x.2.2.1 x.2.2.2.1 x.2.2.2.2.1 x.2.2.2.2.2.1 x.2.2.2.2.2.2.1 x.2.2.2.2.2.2.2.1 x.2.2.2.2.2.2.2.2.1 x.2.2.2.2.2.2.2.2.2,false⟩)]) ⟨fun _=>rfl,trivial⟩ (fun _=>by kernel_rfl) (fun _=>by kernel_rfl) (by kernel_rfl)
abbrev aeF:=aC→Option (bP×aC)
abbrev R5 (f:aeF):Entry S:=⟨19,[q8],[vz],fun x=>f x⟩
def ow:Nat→(List ai)→Int→Int→Int→Int→(List aZ)→(List bl)→(List bk)→(List a_)→Int→(List aZ)→(List bl)→(List bk)→(List a_)→Option (bP×aC)
 | 0,_,_,_,_,_,_,_,_,_,_,_,_,_,_=>none
 | k+1,cK,cH,cJ,cI,eD,eF,dR,dQ,eE,d_,dw,dx,dr,dn=>(fF (aC.mk (aU.mk cK cH (az.mk cJ cI))) ij (dn.length:Int) 4).bind fun bg=>
  bif bg.1 then
  (Co bg.2).bind fun bp=>
  if (dn.length+ [bp.1].length)*144≤140737488355328 then
  ow k bp.2.Row.L bp.2.Row.At bp.2.Row.av.Code bp.2.Row.av.At eD eF dR dQ eE d_ dw dx dr (dn++ [bp.1]) else none else
  (fI bg.2).bind fun bC=>
  if bC.1.Kind≠4 then
  (lR bC.2).bind fun dN=>
  some (bP.mk d_ dw dx dr dn,dN) else
  some (bP.mk d_ dw dx dr dn,bC.2)
def tW:Nat→(List ai)→Int→Int→Int→Int→(List aZ)→(List bl)→(List bk)→(List a_)→Int→(List aZ)→(List bl)→(List bk)→(List a_)→Option (bP×aC)
 | 0,_,_,_,_,_,_,_,_,_,_,_,_,_,_=>none
 | k+1,cK,cH,cJ,cI,eD,eF,dR,dQ,eE,d_,dw,dx,dr,dn=>(fF (aC.mk (aU.mk cK cH (az.mk cJ cI))) jv (dr.length:Int) 24).bind fun aJ=>
  bif aJ.1 then
  (wF aJ.2).bind fun bu=>
  if (dr.length+ [bu.1].length)*88≤140737488355328 then
  tW k bu.2.Row.L bu.2.Row.At bu.2.Row.av.Code bu.2.Row.av.At eD eF dR dQ eE d_ dw dx (dr++ [bu.1]) dn else none else
  ow k aJ.2.Row.L aJ.2.Row.At aJ.2.Row.av.Code aJ.2.Row.av.At eD eF dR dQ eE d_ dw dx dr dn
def tV:Nat→(List ai)→Int→Int→Int→Int→(List aZ)→(List bl)→(List bk)→(List a_)→Int→(List aZ)→(List bl)→(List bk)→(List a_)→Option (bP×aC)
 | 0,_,_,_,_,_,_,_,_,_,_,_,_,_,_=>none
 | k+1,cK,cH,cJ,cI,eD,eF,dR,dQ,eE,d_,dw,dx,dr,dn=>(fF (aC.mk (aU.mk cK cH (az.mk cJ cI))) jw (dx.length:Int) 12).bind fun r8=>
  bif r8.1 then
  (wG r8.2).bind fun r9=>
  if (dx.length+ [r9.1].length)*64≤140737488355328 then
  tV k r9.2.Row.L r9.2.Row.At r9.2.Row.av.Code r9.2.Row.av.At eD eF dR dQ eE d_ dw (dx++ [r9.1]) dr dn else none else
  tW k r8.2.Row.L r8.2.Row.At r8.2.Row.av.Code r8.2.Row.av.At eD eF dR dQ eE d_ dw dx dr dn
def pX:Nat→(List ai)→Int→Int→Int→Int→(List aZ)→(List bl)→(List bk)→(List a_)→Int→(List aZ)→(List bl)→(List bk)→(List a_)→Option (bP×aC)
 | 0,_,_,_,_,_,_,_,_,_,_,_,_,_,_=>none
 | k+1,cK,cH,cJ,cI,eD,eF,dR,dQ,eE,d_,dw,dx,dr,dn=>(fF (aC.mk (aU.mk cK cH (az.mk cJ cI))) iq (dw.length:Int) 8).bind fun r5=>
  bif r5.1 then
  (uH r5.2.Row.L r5.2.Row.At).bind fun r6=>
  (jo r5.2 r6.2.2.Code r6.2.2.At).bind fun r7=>
  if (dw.length+ [r6.1].length)*136≤140737488355328 then
  pX k r7.Row.L r6.2.1 r7.Row.av.Code r7.Row.av.At eD eF dR dQ eE d_ (dw++ [r6.1]) dx dr dn else none else
  tV k r5.2.Row.L r5.2.Row.At r5.2.Row.av.Code r5.2.Row.av.At eD eF dR dQ eE d_ dw dx dr dn
def zn (k:Nat) (r_:aC):Option (bP×aC):=(bQ r_ ou).bind fun r1=>
 (bQ r1 oh).bind fun r2=>
 (iF r2).bind fun r3=>
 (bQ r3.2 bD).bind fun r4=>
 pX k r4.Row.L r4.Row.At r4.Row.av.Code r4.Row.av.At 0 [] [] [] [] r3.1 [] [] [] []
def zm  (r_:aC):Option (bP×aC):=bw (fun k (x:aC)=>zn k x) r_
theorem aeE:ax Tryz.prog S (R5 (zm)):=cl (fun k x=>zn k x) (fun _=>rfl) fun k=>
 b7 pk [tf bQ,Jw iF,Kp fF,L3 uH,Ee jo,R2 wG,R1 wF,R0 Co,n6 fI,BC lR] ⟨vH,PM,R3,U9,Jp,aeA,aey,aew,pz,Eu,trivial⟩ Tryz.func19 [] k (fun k=> [(0,⟨[0,2,3],[cC,iW,iW],fun x=>pX k x.1.1 x.1.2.1 x.1.2.2.1 x.1.2.2.2 x.2.1.1 x.2.1.2.1 x.2.1.2.2.1 x.2.1.2.2.2.1 x.2.1.2.2.2.2 x.2.2.1 x.2.2.2.1 x.2.2.2.2.1 x.2.2.2.2.2.1 x.2.2.2.2.2.2,false⟩),(2,⟨[0,2,3],[cC,iW,iW],fun x=>tV k x.1.1 x.1.2.1 x.1.2.2.1 x.1.2.2.2 x.2.1.1 x.2.1.2.1 x.2.1.2.2.1 x.2.1.2.2.2.1 x.2.1.2.2.2.2 x.2.2.1 x.2.2.2.1 x.2.2.2.2.1 x.2.2.2.2.2.1 x.2.2.2.2.2.2,false⟩),(4,⟨[0,2,3],[cC,iW,iW],fun x=>tW k x.1.1 x.1.2.1 x.1.2.2.1 x.1.2.2.2 x.2.1.1 x.2.1.2.1 x.2.1.2.2.1 x.2.1.2.2.2.1 x.2.1.2.2.2.2 x.2.2.1 x.2.2.2.1 x.2.2.2.2.1 x.2.2.2.2.2.1 x.2.2.2.2.2.2,false⟩),(6,⟨[0,2,3],[cC,iW,iW],fun x=>ow k x.1.1 x.1.2.1 x.1.2.2.1 x.1.2.2.2 x.2.1.1 x.2.1.2.1 x.2.1.2.2.1 x.2.1.2.2.2.1 x.2.1.2.2.2.2 x.2.2.1 x.2.2.2.1 x.2.2.2.2.1 x.2.2.2.2.2.1 x.2.2.2.2.2.2,false⟩)]) ⟨fun _=>rfl,fun _=>rfl,fun _=>rfl,fun _=>rfl,trivial⟩ (fun _=>by kernel_rfl) (fun _=>by kernel_rfl) (by kernel_rfl)
abbrev aef:=(List UInt8)→Option (bP×az)
abbrev Ko (f:aef):Entry S:=⟨10,[q0],[vz,q6],fun x=>f x⟩
def k8  (text:List UInt8):Option (bP×az):=(DM text).bind fun r1=>
 if r1.2.Code≠0 then
 some (bP.mk 0 [] [] [] [],r1.2) else
 (zm (aC.mk (aU.mk r1.1 0 (az.mk 0 0)))).bind fun r2=>
 (n8 r2.2).bind fun r3=>
 bif !r3.1 then
 some (bP.mk 0 [] [] [] [],r3.2.Row.av) else
 some (r2.1,az.mk 0 0)
theorem RX:ax Tryz.prog S (Ko (k8)):=
 aY pk [Ox DM,R5 zm,Em n8] ⟨YQ,aeE,Jy,trivial⟩ Tryz.func10 (by kernel_rfl) (fun _=>by kernel_rfl) (by kernel_rfl)
abbrev YF:=Option Bool
abbrev Ot (f:YF):Entry S:=⟨7,[],[q3],fun x=>f⟩
def vq:Option Bool:=(k8 J6).bind fun r1=>
 (k8 J7).bind fun r2=>
 if r1.2.Code=0 then
 if r1.1.jF=1 then
 if (r1.1.gy.length:Int)=0 then
 some (decide (r2.2.Code=12∧r2.2.At=12)) else
 some false else
 some false else
 some false
theorem YE:ax Tryz.prog S (Ot (vq)):=
 aY pk [Ko k8] ⟨RX,trivial⟩ Tryz.func7 (by kernel_rfl) (fun _=>by kernel_rfl) (by kernel_rfl)
abbrev abK:=(List UInt8)→Int→Option Int
abbrev Qe (f:abK):Entry S:=⟨21,[q0,q1],[q1],fun x=>f x.1 x.2⟩
mutual
def lT:Nat→(List UInt8)→Int→Option Int
 | 0,_,_=>none
 | k+1,s,i=>if i<(s.length:Int) then
  if 0≤i then
  if i<(s.length:Int) then
  if ((s.getD i.toNat 0).toNat:Int)=32 then
  lT k s (aj (i+1)) else
  if 0≤i then
  if i<(s.length:Int) then
  if ((s.getD i.toNat 0).toNat:Int)=9 then
  lT k s (aj (i+1)) else
  if 0≤i then
  if i<(s.length:Int) then
  if ((s.getD i.toNat 0).toNat:Int)=10 then
  lT k s (aj (i+1)) else
  if 0≤i then
  if i<(s.length:Int) then
  if ((s.getD i.toNat 0).toNat:Int)=13 then
  lT k s (aj (i+1)) else
  if 0≤i then
  if i<(s.length:Int) then
  if ((s.getD i.toNat 0).toNat:Int)=35 then
  tv k s i else
  some i else none else none else none else none else none else none else none else none else none else none else
  some i
def tv:Nat→(List UInt8)→Int→Option Int
 | 0,_,_=>none
 | k+1,s,i=>if i<(s.length:Int) then
  if 0≤i then
  if i<(s.length:Int) then
  if ((s.getD i.toNat 0).toNat:Int)≠10 then
  tv k s (aj (i+1)) else
  lT k s i else none else none else
  lT k s i
end
def Qd (k:Nat) (s:List UInt8) (i:Int):Option Int:=lT k s i
def BQ  (s:List UInt8) (i:Int):Option Int:=bw (fun k (x:List UInt8×Int)=>Qd k x.1 x.2) (s,i)
theorem abJ:ax Tryz.prog S (Qe (BQ)):=cl (fun k x=>Qd k x.1 x.2) (fun _=>rfl) fun k=>
 b7 pk [] trivial Tryz.func21 [] k (fun k=> [(0,⟨[0,1],[q0,q1],fun x=>lT k x.1 x.2,false⟩),(2,⟨[0,1],[q0,q1],fun x=>tv k x.1 x.2,false⟩)]) ⟨fun _=>rfl,fun _=>rfl,trivial⟩ (fun _=>by kernel_rfl) (fun _=>by kernel_rfl) (by kernel_rfl)
abbrev abE:=Int→Option Bool
abbrev Qa (f:abE):Entry S:=⟨64,[q2],[q3],fun x=>f x⟩
def ym  (x:Int):Option Bool:=if 97≤x then
 if x≤122 then
 some true else
 if 65≤x then
 if x≤90 then
 some true else
 some (decide (x=95)) else
 some (decide (x=95)) else
 if 65≤x then
 if x≤90 then
 some true else
 some (decide (x=95)) else
 some (decide (x=95))
theorem abD:ax Tryz.prog S (Qa (ym)):=
 aY pk [] trivial Tryz.func64 (by kernel_rfl) (fun _=>by kernel_rfl) (by kernel_rfl)
abbrev abC:=Int→Option Bool
abbrev P_ (f:abC):Entry S:=⟨65,[q2],[q3],fun x=>f x⟩
def vZ  (x:Int):Option Bool:=if 48≤x then some (decide (x≤57)) else some false
theorem abB:ax Tryz.prog S (P_ (vZ)):=
 aY pk [] trivial Tryz.func65 (by kernel_rfl) (fun _=>by kernel_rfl) (by kernel_rfl)
abbrev abI:=(List UInt8)→Int→Option Int
abbrev Qc (f:abI):Entry S:=⟨67,[q0,q1],[q1],fun x=>f x.1 x.2⟩
def v8:Nat→(List UInt8)→Int→(List UInt8)→Int→Option Int
 | 0,_,_,_,_=>none
 | k+1,s,i,one,k_=>if k_<(one.length:Int) then
  if 0≤i then
  if i<(s.length:Int) then
  if 0≤k_ then
  if k_<(one.length:Int) then
  if ((s.getD i.toNat 0).toNat:Int)=((one.getD k_.toNat 0).toNat:Int) then
  some 1 else
  v8 k s i one (aj (k_+1)) else none else none else none else none else
  some 0
def yp:Nat→(List UInt8)→Int→(List UInt8×List UInt8×List UInt8×List UInt8×List UInt8×List UInt8×List UInt8)→Int→Option Int
 | 0,_,_,_,_=>none
 | k+1,s,i,two,k_=>if k_<7 then
  if (aj (i+1))<(s.length:Int) then
  if 0≤(aj (i+2)) then
  if (aj (i+2))≤(s.length:Int) then
  if 0≤i then
  if i≤(aj (i+2)) then
  if 0≤k_ then
  if k_<([two.1,two.2.1,two.2.2.1,two.2.2.2.1,two.2.2.2.2.1,two.2.2.2.2.2.1,two.2.2.2.2.2.2].length:Int) then
  if (cut s i (aj (i+2)))=([two.1,two.2.1,two.2.2.1,two.2.2.2.1,two.2.2.2.2.1,two.2.2.2.2.2.1,two.2.2.2.2.2.2].getD k_.toNat []) then
  some 2 else
  yp k s i two (aj (k_+1)) else none else none else none else none else none else none else
  yp k s i two (aj (k_+1)) else
  v8 k s i i_ 0
def EK (k:Nat) (s:List UInt8) (i:Int):Option Int:=yp k s i Gz 0
def EJ  (s:List UInt8) (i:Int):Option Int:=bw (fun k (x:List UInt8×Int)=>EK k x.1 x.2) (s,i)
theorem abH:ax Tryz.prog S (Qc (EJ)):=cl (fun k x=>EK k x.1 x.2) (fun _=>rfl) fun k=>
 b7 pk [] trivial Tryz.func67 [] k (fun k=> [(0,⟨[0,1,5,6],[q0,q1,ZV,q1],fun x=>yp k x.1 x.2.1 x.2.2.1 x.2.2.2,false⟩),(2,⟨[0,1,7,8],[q0,q1,q0,q1],fun x=>v8 k x.1 x.2.1 x.2.2.1 x.2.2.2,false⟩)]) ⟨fun _=>rfl,fun _=>rfl,trivial⟩ (fun _=>by kernel_rfl) (fun _=>by kernel_rfl) (by kernel_rfl)
abbrev abM:=(List UInt8)→Option (Int×Bool)
abbrev Qg (f:abM):Entry S:=⟨66,[q0],[q1,q3],fun x=>f x⟩
def yq:Nat→(List UInt8)→Int→Int→Option (Int×Bool)
 | 0,_,_,_=>none
 | k+1,s,n,i=>if i<(s.length:Int) then
  if 0≤i then
  if i<(s.length:Int) then
  if ¬ (10:Int)=0 then
  if (aj ((aj (9223372036854775807 - (aj (FW (((s.getD i.toNat 0).toNat:Int) - 48))))).tdiv 10))<n then
  some (0,false) else
  yq k s (aj ((aj (10*n))+(aj (FW (((s.getD i.toNat 0).toNat:Int) - 48))))) (aj (i+1)) else none else none else none else
  some (n,true)
def Qf (k:Nat) (s:List UInt8):Option (Int×Bool):=yq k s 0 0
def pK  (s:List UInt8):Option (Int×Bool):=bw (fun k (x:List UInt8)=>Qf k x) s
theorem abL:ax Tryz.prog S (Qg (pK)):=cl (fun k x=>Qf k x) (fun _=>rfl) fun k=>
 b7 pk [] trivial Tryz.func66 [] k (fun k=> [(0,⟨[0,4,5],[q0,q1,q1],fun x=>yq k x.1 x.2.1 x.2.2,false⟩)]) ⟨fun _=>rfl,trivial⟩ (fun _=>by kernel_rfl) (fun _=>by kernel_rfl) (by kernel_rfl)
abbrev abG:=(List UInt8)→Int→Option (ai×Int)
abbrev Qb (f:abG):Entry S:=⟨22,[q0,q1],[q4,q1],fun x=>f x.1 x.2⟩
def v7:Nat→(List UInt8)→Int→Int→Int→Int→(List UInt8)→Int→Int→Int→Int→Int→(List UInt8)→Int→Option (ai×Int)
 | 0,_,_,_,_,_,_,_,_,_,_,_,_,_=>none
 | k+1,s,i,gf,ga,FX,FY,oy,j,FI,e_,FH,FJ,zo=>if j<(s.length:Int) then
  if 0≤j then
  if j<(s.length:Int) then
  (ym ((s.getD j.toNat 0).toNat:Int)).bind fun r4=>
  bif r4 then
  v7 k s i gf ga FX FY oy (aj (j+1)) FI e_ FH FJ zo else
  if 0≤j then
  if j<(s.length:Int) then
  (vZ ((s.getD j.toNat 0).toNat:Int)).bind fun r5=>
  bif r5 then
  v7 k s i gf ga FX FY oy (aj (j+1)) FI e_ FH FJ zo else
  if 24<(aj (j - i)) then
  some (ai.mk 0 0 0 [] 0,13) else
  if 0≤j then
  if j≤(s.length:Int) then
  if 0≤i then
  if i≤j then
  some (ai.mk 1 e_ j (cut s i j) zo,0) else none else none else none else none else none else none else none else none else
  if 24<(aj (j - i)) then
  some (ai.mk 0 0 0 [] 0,13) else
  if 0≤j then
  if j≤(s.length:Int) then
  if 0≤i then
  if i≤j then
  some (ai.mk 1 e_ j (cut s i j) zo,0) else none else none else none else none
def yo:Nat→(List UInt8)→Int→Int→Int→Int→(List UInt8)→Int→Int→Int→Int→Int→(List UInt8)→Int→Option (ai×Int)
 | 0,_,_,_,_,_,_,_,_,_,_,_,_,_=>none
 | k+1,s,i,gf,ga,FX,FY,oy,j,FI,e_,FH,FJ,zo=>if j<(s.length:Int) then
  if 0≤j then
  if j<(s.length:Int) then
  (vZ ((s.getD j.toNat 0).toNat:Int)).bind fun r6=>
  bif r6 then
  yo k s i gf ga FX FY oy (aj (j+1)) FI e_ FH FJ zo else
  if 1<(aj (j - i)) then
  if 0≤i then
  if i<(s.length:Int) then
  if ((s.getD i.toNat 0).toNat:Int)=48 then
  some (ai.mk 0 0 0 [] 0,11) else
  if 0≤j then
  if j≤(s.length:Int) then
  if 0≤i then
  if i≤j then
  (pK (cut s i j)).bind fun r7=>
  bif !r7.2 then
  some (ai.mk 0 0 0 [] 0,16) else
  if 0≤j then
  if j≤(s.length:Int) then
  if 0≤i then
  if i≤j then
  some (ai.mk 2 e_ j (cut s i j) r7.1,0) else none else none else none else none else none else none else none else none else none else none else
  if 0≤j then
  if j≤(s.length:Int) then
  if 0≤i then
  if i≤j then
  (pK (cut s i j)).bind fun r8=>
  bif !r8.2 then
  some (ai.mk 0 0 0 [] 0,16) else
  if 0≤j then
  if j≤(s.length:Int) then
  if 0≤i then
  if i≤j then
  some (ai.mk 2 e_ j (cut s i j) r8.1,0) else none else none else none else none else none else none else none else none else none else none else
  if 1<(aj (j - i)) then
  if 0≤i then
  if i<(s.length:Int) then
  if ((s.getD i.toNat 0).toNat:Int)=48 then
  some (ai.mk 0 0 0 [] 0,11) else
  if 0≤j then
  if j≤(s.length:Int) then
  if 0≤i then
  if i≤j then
  (pK (cut s i j)).bind fun r9=>
  bif !r9.2 then
  some (ai.mk 0 0 0 [] 0,16) else
  if 0≤j then
  if j≤(s.length:Int) then
  if 0≤i then
  if i≤j then
  some (ai.mk 2 e_ j (cut s i j) r9.1,0) else none else none else none else none else none else none else none else none else none else none else
  if 0≤j then
  if j≤(s.length:Int) then
  if 0≤i then
  if i≤j then
  (pK (cut s i j)).bind fun aJ=>
  bif !aJ.2 then
  some (ai.mk 0 0 0 [] 0,16) else
  if 0≤j then
  if j≤(s.length:Int) then
  if 0≤i then
  if i≤j then
  some (ai.mk 2 e_ j (cut s i j) aJ.1,0) else none else none else none else none else none else none else none else none
def JG (k:Nat) (s:List UInt8) (i:Int):Option (ai×Int):=if 0≤i then
 if i<(s.length:Int) then
 (ym ((s.getD i.toNat 0).toNat:Int)).bind fun r1=>
 bif r1 then
 v7 k s i 0 0 0 [] 0 i 0 i 0 [] 0 else
 if 0≤i then
 if i<(s.length:Int) then
 (vZ ((s.getD i.toNat 0).toNat:Int)).bind fun r2=>
 bif r2 then
 yo k s i 0 0 0 [] 0 i 0 i 0 [] 0 else
 (EJ s i).bind fun r3=>
 if r3=0 then
 some (ai.mk 0 0 0 [] 0,10) else
 if 0≤(aj (i+r3)) then
 if (aj (i+r3))≤(s.length:Int) then
 if 0≤i then
 if i≤(aj (i+r3)) then
 some (ai.mk 3 i (aj (i+r3)) (cut s i (aj (i+r3))) 0,0) else none else none else none else none else none else none else none else none
def EI  (s:List UInt8) (i:Int):Option (ai×Int):=bw (fun k (x:List UInt8×Int)=>JG k x.1 x.2) (s,i)
theorem abF:ax Tryz.prog S (Qb (EI)):=cl (fun k x=>JG k x.1 x.2) (fun _=>rfl) fun k=>
 b7 pk [Qa ym,P_ vZ,Qc EJ,Qg pK] ⟨abD,abB,abH,abL,trivial⟩ Tryz.func22 [] k (fun k=> [(0,⟨[0,1,4,6,7],[q0,q1,D3,q1,D3],fun x=>v7 k x.1 x.2.1 x.2.2.1.1 x.2.2.1.2.1 x.2.2.1.2.2.1 x.2.2.1.2.2.2.1 x.2.2.1.2.2.2.2 x.2.2.2.1 x.2.2.2.2.1 x.2.2.2.2.2.1 x.2.2.2.2.2.2.1 x.2.2.2.2.2.2.2.1 x.2.2.2.2.2.2.2.2,false⟩),(2,⟨[0,1,4,6,7],[q0,q1,D3,q1,D3],fun x=>yo k x.1 x.2.1 x.2.2.1.1 x.2.2.1.2.1 x.2.2.1.2.2.1 x.2.2.1.2.2.2.1 x.2.2.1.2.2.2.2 x.2.2.2.1 x.2.2.2.2.1 x.2.2.2.2.2.1 x.2.2.2.2.2.2.1 x.2.2.2.2.2.2.2.1 x.2.2.2.2.2.2.2.2,false⟩)]) ⟨fun _=>rfl,fun _=>rfl,trivial⟩ (fun _=>by kernel_rfl) (fun _=>by kernel_rfl) (by kernel_rfl)
abbrev abu:=(List UInt8)→Option (List ai×az)
abbrev P7 (f:abu):Entry S:=⟨11,[q0],[q5,q6],fun x=>f x⟩
def vY:Nat→(List UInt8)→Int→Int→(List ai)→Int→Option (List ai×az)
 | 0,_,_,_,_,_=>none
 | k+1,s,f_,fZ,out,i=>if i<(s.length:Int) then
  (EI s i).bind fun r2=>
  if r2.2≠0 then
  some ([],az.mk r2.2 i) else
  if (out.length+ [r2.1].length)*48≤140737488355328 then
  (BQ s r2.1.End).bind fun r3=>
  vY k s f_ fZ (out++ [r2.1]) r3 else none else
  if (out.length+ [ai.mk 4 (s.length:Int) (s.length:Int) [] 0].length)*48≤140737488355328 then
  some (out++ [ai.mk 4 (s.length:Int) (s.length:Int) [] 0],az.mk 0 0) else none
def JE (k:Nat) (s:List UInt8):Option (List ai×az):=if 16384<(s.length:Int) then
 some ([],az.mk 13 16384) else
 (BQ s 0).bind fun r1=>
 vY k s 0 0 [] r1
def EE  (s:List UInt8):Option (List ai×az):=bw (fun k (x:List UInt8)=>JE k x) s
theorem abt:ax Tryz.prog S (P7 (EE)):=cl (fun k x=>JE k x) (fun _=>rfl) fun k=>
 b7 pk [Qe BQ,Qb EI] ⟨abJ,abF,trivial⟩ Tryz.func11 [] k (fun k=> [(0,⟨[0,3,4,5],[q0,q7,q5,q1],fun x=>vY k x.1 x.2.1.1 x.2.1.2 x.2.2.1 x.2.2.2,false⟩)]) ⟨fun _=>rfl,trivial⟩ (fun _=>by kernel_rfl) (fun _=>by kernel_rfl) (by kernel_rfl)
abbrev abm:=aH→Option (Bool×aH)
abbrev qQ (f:abm):Entry S:=⟨31,[kQ],[q3],fun x=>f x⟩
def cP  (r_:aH):Option (Bool×aH):=some (decide (r_.bad.Code=0),r_)
theorem tu:ax Tryz.prog S (qQ (cP)):=
 aY pk [] trivial Tryz.func31 (by kernel_rfl) (fun _=>by kernel_rfl) (by kernel_rfl)
abbrev abw:=(List ai)→Int→(List UInt8)→Option Bool
abbrev oc (f:abw):Entry S:=⟨68,[ia,q1,q0],[q3],fun x=>f x.1 x.2.1 x.2.2⟩
def dj  (l:List ai) (ah:Int) (s:List UInt8):Option Bool:=if ah<(l.length:Int) then
 if 0≤ah then
 if ah<(l.length:Int) then
 if ((l.getD ah.toNat ai.z).Kind)=3 then
 if 0≤ah then
 if ah<(l.length:Int) then
 some (decide (((l.getD ah.toNat ai.z).Text)=s)) else none else none else
 if 0≤ah then
 if ah<(l.length:Int) then
 if ((l.getD ah.toNat ai.z).Kind)=1 then
 if 0≤ah then
 if ah<(l.length:Int) then
 some (decide (((l.getD ah.toNat ai.z).Text)=s)) else none else none else
 some false else none else none else none else none else
 some false
theorem pJ:ax Tryz.prog S (oc (dj)):=
 aY pk [] trivial Tryz.func68 (by kernel_rfl) (fun _=>by kernel_rfl) (by kernel_rfl)
abbrev abv:=(List ai)→Int→Option az
abbrev lS (f:abv):Entry S:=⟨32,[ia,q1],[q6],fun x=>f x.1 x.2⟩
def dG  (l:List ai) (ah:Int):Option az:=if 0≤ah then
 if ah<(l.length:Int) then
 if ((l.getD ah.toNat ai.z).Kind)=4 then
 if 0≤ah then
 if ah<(l.length:Int) then
 some (az.mk 12 ((l.getD ah.toNat ai.z).At)) else none else none else
 if 0≤ah then
 if ah<(l.length:Int) then
 some (az.mk 11 ((l.getD ah.toNat ai.z).At)) else none else none else none else none
theorem mT:ax Tryz.prog S (lS (dG)):=
 aY pk [] trivial Tryz.func32 (by kernel_rfl) (fun _=>by kernel_rfl) (by kernel_rfl)
abbrev abp:=aH→(List UInt8)→Option aH
abbrev yh (f:abp):Entry S:=⟨23,[kQ,q0],[],fun x=>f x.1 x.2⟩
def bO  (r_:aH) (s:List UInt8):Option aH:=(cP r_).bind fun r1=>
 bif r1.1 then
 (dj r1.2.l r1.2.ah s).bind fun r2=>
 bif !r2 then
 (dG r1.2.l r1.2.ah).bind fun r3=>
 (cP (aH.mk r1.2.l r1.2.ah r3)).bind fun r4=>
 bif r4.1 then
 some (aH.mk r4.2.l (aj (r4.2.ah+1)) r4.2.bad) else
 some r4.2 else
 (cP r1.2).bind fun r5=>
 bif r5.1 then
 some (aH.mk r5.2.l (aj (r5.2.ah+1)) r5.2.bad) else
 some r5.2 else
 (cP r1.2).bind fun r6=>
 bif r6.1 then
 some (aH.mk r6.2.l (aj (r6.2.ah+1)) r6.2.bad) else
 some r6.2
theorem BN:ax Tryz.prog S (yh (bO)):=
 aY pk [qQ cP,oc dj,lS dG] ⟨tu,pJ,mT,trivial⟩ Tryz.func23 (by kernel_rfl) (fun _=>by kernel_rfl) (by kernel_rfl)
abbrev abl:=aH→Option (Int×aH)
abbrev BM (f:abl):Entry S:=⟨24,[kQ],[q1],fun x=>f x⟩
def vW:Nat→(List ai)→Int→Int→Int→Option (Int×aH)
 | 0,_,_,_,_=>none
 | k+1,bJ,bF,bT,bV=>(cP (aH.mk bJ bF (az.mk bT bV))).bind fun r3=>
  bif !r3.1 then
  some (0,r3.2) else
  if 0≤(aj ((aj (r3.2.ah+1)) - 1)) then
  if (aj ((aj (r3.2.ah+1)) - 1))<(r3.2.l.length:Int) then
  some ((r3.2.l.getD (aj ((aj (r3.2.ah+1)) - 1)).toNat ai.z).N,aH.mk r3.2.l (aj (r3.2.ah+1)) r3.2.bad) else none else none
def tr (k:Nat) (r_:aH):Option (Int×aH):=(cP r_).bind fun r1=>
 bif r1.1 then
 if 0≤r1.2.ah then
 if r1.2.ah<(r1.2.l.length:Int) then
 if ((r1.2.l.getD r1.2.ah.toNat ai.z).Kind)≠2 then
 (dG r1.2.l r1.2.ah).bind fun r2=>
 vW k r1.2.l r1.2.ah r2.Code r2.At else
 vW k r1.2.l r1.2.ah r1.2.bad.Code r1.2.bad.At else none else none else
 vW k r1.2.l r1.2.ah r1.2.bad.Code r1.2.bad.At
def gu  (r_:aH):Option (Int×aH):=bw (fun k (x:aH)=>tr k x) r_
theorem EC:ax Tryz.prog S (BM (gu)):=cl (fun k x=>tr k x) (fun _=>rfl) fun k=>
 b7 pk [qQ cP,lS dG] ⟨tu,mT,trivial⟩ Tryz.func24 [1] k (fun k=> [(1,⟨[0],[cC],fun x=>vW k x.1 x.2.1 x.2.2.1 x.2.2.2,false⟩)]) ⟨fun _=>rfl,trivial⟩ (fun _=>by kernel_rfl) (fun _=>by kernel_rfl) (by kernel_rfl)
abbrev abg:=aH→(List UInt8)→Option (Bool×aH)
abbrev yf (f:abg):Entry S:=⟨25,[kQ,q0],[q3],fun x=>f x.1 x.2⟩
def cD  (r_:aH) (s:List UInt8):Option (Bool×aH):=(cP r_).bind fun r1=>
 bif r1.1 then
 (dj r1.2.l r1.2.ah s).bind fun r2=>
 some (r2,r1.2) else
 some (false,r1.2)
theorem BK:ax Tryz.prog S (yf (cD)):=
 aY pk [qQ cP,oc dj] ⟨tu,pJ,trivial⟩ Tryz.func25 (by kernel_rfl) (fun _=>by kernel_rfl) (by kernel_rfl)
abbrev abh:=aH→Int→Int→Option (Bool×aH)
abbrev JD (f:abh):Entry S:=⟨26,[kQ,q1,q1],[q3],fun x=>f x.1 x.2.1 x.2.2⟩
def pH  (r_:aH) (n:Int) (most:Int):Option (Bool×aH):=(cP r_).bind fun r1=>
 bif r1.1 then
 if n=most then
 if 0≤r1.2.ah then
 if r1.2.ah<(r1.2.l.length:Int) then
 (cP (aH.mk r1.2.l r1.2.ah (az.mk 15 ((r1.2.l.getD r1.2.ah.toNat ai.z).At)))).bind fun r2=>
 some (!r2.1,r2.2) else none else none else
 (cP r1.2).bind fun r3=>
 some (!r3.1,r3.2) else
 (cP r1.2).bind fun r4=>
 some (!r4.1,r4.2)
theorem P2:ax Tryz.prog S (JD (pH)):=
 aY pk [qQ cP] ⟨tu,trivial⟩ Tryz.func26 (by kernel_rfl) (fun _=>by kernel_rfl) (by kernel_rfl)
abbrev acG:=aB→Option (Bool×aB)
abbrev tG (f:acG):Entry S:=⟨112,[mM],[q3],fun x=>f x⟩
def dO  (r_:aB):Option (Bool×aB):=some (decide (r_.bad.Code=0),r_)
theorem wk:ax Tryz.prog S (tG (dO)):=
 aY pk [] trivial Tryz.func112 (by kernel_rfl) (fun _=>by kernel_rfl) (by kernel_rfl)
abbrev acN:=aB→(List UInt8)→Option aB
abbrev wq (f:acN):Entry S:=⟨107,[mM,q0],[],fun x=>f x.1 x.2⟩
def cu  (r_:aB) (s:List UInt8):Option aB:=(dO r_).bind fun r1=>
 bif r1.1 then
 (dj r1.2.l r1.2.ah s).bind fun r2=>
 bif !r2 then
 (dG r1.2.l r1.2.ah).bind fun r3=>
 (dO (aB.mk r1.2.l r1.2.ah r3)).bind fun r4=>
 bif r4.1 then
 some (aB.mk r4.2.l (aj (r4.2.ah+1)) r4.2.bad) else
 some r4.2 else
 (dO r1.2).bind fun r5=>
 bif r5.1 then
 some (aB.mk r5.2.l (aj (r5.2.ah+1)) r5.2.bad) else
 some r5.2 else
 (dO r1.2).bind fun r6=>
 bif r6.1 then
 some (aB.mk r6.2.l (aj (r6.2.ah+1)) r6.2.bad) else
 some r6.2
theorem yQ:ax Tryz.prog S (wq (cu)):=
 aY pk [tG dO,oc dj,lS dG] ⟨wk,pJ,mT,trivial⟩ Tryz.func107 (by kernel_rfl) (fun _=>by kernel_rfl) (by kernel_rfl)
abbrev abz:=(List UInt8)→Option Bool
abbrev P9 (f:abz):Entry S:=⟨143,[q0],[q3],fun x=>f x⟩
def yl:Nat→(List UInt8)→(List UInt8×List UInt8×List UInt8×List UInt8×List UInt8×List UInt8×List UInt8×List UInt8×List UInt8×List UInt8×List UInt8×List UInt8×List UInt8×List UInt8×List UInt8×List UInt8×List UInt8×List UInt8×List UInt8×List UInt8×List UInt8×List UInt8×List UInt8×List UInt8×List UInt8×List UInt8×List UInt8×List UInt8×List UInt8×List UInt8×List UInt8×List UInt8×List UInt8×List UInt8×List UInt8)→Int→Option Bool
 | 0,_,_,_=>none
 | k+1,s,words,i=>if i<35 then
  if 0≤i then
  if i<([words.1,words.2.1,words.2.2.1,words.2.2.2.1,words.2.2.2.2.1,words.2.2.2.2.2.1,words.2.2.2.2.2.2.1,words.2.2.2.2.2.2.2.1,words.2.2.2.2.2.2.2.2.1,words.2.2.2.2.2.2.2.2.2.1,words.2.2.2.2.2.2.2.2.2.2.1,words.2.2.2.2.2.2.2.2.2.2.2.1,words.2.2.2.2.2.2.2.2.2.2.2.2.1,words.2.2.2.2.2.2.2.2.2.2.2.2.2.1,words.2.2.2.2.2.2.2.2.2.2.2.2.2.2.1,words.2.2.2.2.2.2.2.2.2.2.2.2.2.2.2.1,words.2.2.2.2.2.2.2.2.2.2.2.2.2.2.2.2.1,words.2.2.2.2.2.2.2.2.2.2.2.2.2.2.2.2.2.1,words.2.2.2.2.2.2.2.2.2.2.2.2.2.2.2.2.2.2.1,words.2.2.2.2.2.2.2.2.2.2.2.2.2.2.2.2.2.2.2.1,words.2.2.2.2.2.2.2.2.2.2.2.2.2.2.2.2.2.2.2.2.1,words.2.2.2.2.2.2.2.2.2.2.2.2.2.2.2.2.2.2.2.2.2.1,words.2.2.2.2.2.2.2.2.2.2.2.2.2.2.2.2.2.2.2.2.2.2.1,words.2.2.2.2.2.2.2.2.2.2.2.2.2.2.2.2.2.2.2.2.2.2.2.1,words.2.2.2.2.2.2.2.2.2.2.2.2.2.2.2.2.2.2.2.2.2.2.2.2.1,words.2.2.2.2.2.2.2.2.2.2.2.2.2.2.2.2.2.2.2.2.2.2.2.2.2.1,words.2.2.2.2.2.2.2.2.2.2.2.2.2.2.2.2.2.2.2.2.2.2.2.2.2.2.1,words.2.2.2.2.2.2.2.2.2.2.2.2.2.2.2.2.2.2.2.2.2.2.2.2.2.2.2.1,words.2.2.2.2.2.2.2.2.2.2.2.2.2.2.2.2.2.2.2.2.2.2.2.2.2.2.2.2.1,words.2.2.2.2.2.2.2.2.2.2.2.2.2.2.2.2.2.2.2.2.2.2.2.2.2.2.2.2.2.1,words.2.2.2.2.2.2.2.2.2.2.2.2.2.2.2.2.2.2.2.2.2.2.2.2.2.2.2.2.2.2.1,words.2.2.2.2.2.2.2.2.2.2.2.2.2.2.2.2.2.2.2.2.2.2.2.2.2.2.2.2.2.2.2.1,words.2.2.2.2.2.2.2.2.2.2.2.2.2.2.2.2.2.2.2.2.2.2.2.2.2.2.2.2.2.2.2.2.1,words.2.2.2.2.2.2.2.2.2.2.2.2.2.2.2.2.2.2.2.2.2.2.2.2.2.2.2.2.2.2.2.2.2.1,words.2.2.2.2.2.2.2.2.2.2.2.2.2.2.2.2.2.2.2.2.2.2.2.2.2.2.2.2.2.2.2.2.2.2].length:Int) then
  if ([words.1,words.2.1,words.2.2.1,words.2.2.2.1,words.2.2.2.2.1,words.2.2.2.2.2.1,words.2.2.2.2.2.2.1,words.2.2.2.2.2.2.2.1,words.2.2.2.2.2.2.2.2.1,words.2.2.2.2.2.2.2.2.2.1,words.2.2.2.2.2.2.2.2.2.2.1,words.2.2.2.2.2.2.2.2.2.2.2.1,words.2.2.2.2.2.2.2.2.2.2.2.2.1,words.2.2.2.2.2.2.2.2.2.2.2.2.2.1,words.2.2.2.2.2.2.2.2.2.2.2.2.2.2.1,words.2.2.2.2.2.2.2.2.2.2.2.2.2.2.2.1,words.2.2.2.2.2.2.2.2.2.2.2.2.2.2.2.2.1,words.2.2.2.2.2.2.2.2.2.2.2.2.2.2.2.2.2.1,words.2.2.2.2.2.2.2.2.2.2.2.2.2.2.2.2.2.2.1,words.2.2.2.2.2.2.2.2.2.2.2.2.2.2.2.2.2.2.2.1,words.2.2.2.2.2.2.2.2.2.2.2.2.2.2.2.2.2.2.2.2.1,words.2.2.2.2.2.2.2.2.2.2.2.2.2.2.2.2.2.2.2.2.2.1,words.2.2.2.2.2.2.2.2.2.2.2.2.2.2.2.2.2.2.2.2.2.2.1,words.2.2.2.2.2.2.2.2.2.2.2.2.2.2.2.2.2.2.2.2.2.2.2.1,words.2.2.2.2.2.2.2.2.2.2.2.2.2.2.2.2.2.2.2.2.2.2.2.2.1,words.2.2.2.2.2.2.2.2.2.2.2.2.2.2.2.2.2.2.2.2.2.2.2.2.2.1,words.2.2.2.2.2.2.2.2.2.2.2.2.2.2.2.2.2.2.2.2.2.2.2.2.2.2.1,words.2.2.2.2.2.2.2.2.2.2.2.2.2.2.2.2.2.2.2.2.2.2.2.2.2.2.2.1,words.2.2.2.2.2.2.2.2.2.2.2.2.2.2.2.2.2.2.2.2.2.2.2.2.2.2.2.2.1,words.2.2.2.2.2.2.2.2.2.2.2.2.2.2.2.2.2.2.2.2.2.2.2.2.2.2.2.2.2.1,words.2.2.2.2.2.2.2.2.2.2.2.2.2.2.2.2.2.2.2.2.2.2.2.2.2.2.2.2.2.2.1,words.2.2.2.2.2.2.2.2.2.2.2.2.2.2.2.2.2.2.2.2.2.2.2.2.2.2.2.2.2.2.2.1,words.2.2.2.2.2.2.2.2.2.2.2.2.2.2.2.2.2.2.2.2.2.2.2.2.2.2.2.2.2.2.2.2.1,words.2.2.2.2.2.2.2.2.2.2.2.2.2.2.2.2.2.2.2.2.2.2.2.2.2.2.2.2.2.2.2.2.2.1,words.2.2.2.2.2.2.2.2.2.2.2.2.2.2.2.2.2.2.2.2.2.2.2.2.2.2.2.2.2.2.2.2.2.2].getD i.toNat [])=s then
  some true else
  yl k s words (aj (i+1)) else none else none else
  some false
def P8 (k:Nat) (s:List UInt8):Option Bool:=yl k s Lv 0
def EG  (s:List UInt8):Option Bool:=bw (fun k (x:List UInt8)=>P8 k x) s
theorem aby:ax Tryz.prog S (P9 (EG)):=cl (fun k x=>P8 k x) (fun _=>rfl) fun k=>
 b7 pk [] trivial Tryz.func143 [] k (fun k=> [(0,⟨[0,3,4],[q0,ZW,q1],fun x=>yl k x.1 x.2.1 x.2.2,false⟩)]) ⟨fun _=>rfl,trivial⟩ (fun _=>by kernel_rfl) (fun _=>by kernel_rfl) (by kernel_rfl)
abbrev abx:=(List ai)→Int→Option Bool
abbrev BP (f:abx):Entry S:=⟨113,[ia,q1],[q3],fun x=>f x.1 x.2⟩
def iG  (l:List ai) (ah:Int):Option Bool:=if ah<(l.length:Int) then
 if 0≤ah then
 if ah<(l.length:Int) then
 if ((l.getD ah.toNat ai.z).Kind)=1 then
 if 0≤ah then
 if ah<(l.length:Int) then
 (EG ((l.getD ah.toNat ai.z).Text)).bind fun r1=>
 some (!r1) else none else none else
 some false else none else none else
 some false
theorem EF:ax Tryz.prog S (BP (iG)):=
 aY pk [P9 EG] ⟨aby,trivial⟩ Tryz.func113 (by kernel_rfl) (fun _=>by kernel_rfl) (by kernel_rfl)
abbrev acC:=aB→Option (List UInt8×aB)
abbrev yG (f:acC):Entry S:=⟨108,[mM],[q0],fun x=>f x⟩
def wh:Nat→(List ai)→Int→Int→Int→Option (List UInt8×aB)
 | 0,_,_,_,_=>none
 | k+1,bJ,bF,bT,bV=>(dO (aB.mk bJ bF (az.mk bT bV))).bind fun r4=>
  bif !r4.1 then
  some ([],r4.2) else
  if 0≤(aj ((aj (r4.2.ah+1)) - 1)) then
  if (aj ((aj (r4.2.ah+1)) - 1))<(r4.2.l.length:Int) then
  some ((r4.2.l.getD (aj ((aj (r4.2.ah+1)) - 1)).toNat ai.z).Text,aB.mk r4.2.l (aj (r4.2.ah+1)) r4.2.bad) else none else none
def tE (k:Nat) (r_:aB):Option (List UInt8×aB):=(dO r_).bind fun r1=>
 bif r1.1 then
 (iG r1.2.l r1.2.ah).bind fun r2=>
 bif !r2 then
 (dG r1.2.l r1.2.ah).bind fun r3=>
 wh k r1.2.l r1.2.ah r3.Code r3.At else
 wh k r1.2.l r1.2.ah r1.2.bad.Code r1.2.bad.At else
 wh k r1.2.l r1.2.ah r1.2.bad.Code r1.2.bad.At
def fJ  (r_:aB):Option (List UInt8×aB):=bw (fun k (x:aB)=>tE k x) r_
theorem B4:ax Tryz.prog S (yG (fJ)):=cl (fun k x=>tE k x) (fun _=>rfl) fun k=>
 b7 pk [tG dO,BP iG,lS dG] ⟨wk,EF,mT,trivial⟩ Tryz.func108 [1] k (fun k=> [(1,⟨[0],[cC],fun x=>wh k x.1 x.2.1 x.2.2.1 x.2.2.2,false⟩)]) ⟨fun _=>rfl,trivial⟩ (fun _=>by kernel_rfl) (fun _=>by kernel_rfl) (by kernel_rfl)
abbrev acF:=aB→Option (Int×aB)
abbrev JR (f:acF):Entry S:=⟨109,[mM],[q1],fun x=>f x⟩
def wj:Nat→(List ai)→Int→Int→Int→Option (Int×aB)
 | 0,_,_,_,_=>none
 | k+1,bJ,bF,bT,bV=>(dO (aB.mk bJ bF (az.mk bT bV))).bind fun r3=>
  bif !r3.1 then
  some (0,r3.2) else
  if 0≤(aj ((aj (r3.2.ah+1)) - 1)) then
  if (aj ((aj (r3.2.ah+1)) - 1))<(r3.2.l.length:Int) then
  some ((r3.2.l.getD (aj ((aj (r3.2.ah+1)) - 1)).toNat ai.z).N,aB.mk r3.2.l (aj (r3.2.ah+1)) r3.2.bad) else none else none
def tF (k:Nat) (r_:aB):Option (Int×aB):=(dO r_).bind fun r1=>
 bif r1.1 then
 if 0≤r1.2.ah then
 if r1.2.ah<(r1.2.l.length:Int) then
 if ((r1.2.l.getD r1.2.ah.toNat ai.z).Kind)≠2 then
 (dG r1.2.l r1.2.ah).bind fun r2=>
 wj k r1.2.l r1.2.ah r2.Code r2.At else
 wj k r1.2.l r1.2.ah r1.2.bad.Code r1.2.bad.At else none else none else
 wj k r1.2.l r1.2.ah r1.2.bad.Code r1.2.bad.At
def kV  (r_:aB):Option (Int×aB):=bw (fun k (x:aB)=>tF k x) r_
theorem QH:ax Tryz.prog S (JR (kV)):=cl (fun k x=>tF k x) (fun _=>rfl) fun k=>
 b7 pk [tG dO,lS dG] ⟨wk,mT,trivial⟩ Tryz.func109 [1] k (fun k=> [(1,⟨[0],[cC],fun x=>wj k x.1 x.2.1 x.2.2.1 x.2.2.2,false⟩)]) ⟨fun _=>rfl,trivial⟩ (fun _=>by kernel_rfl) (fun _=>by kernel_rfl) (by kernel_rfl)
abbrev acB:=aB→(List UInt8)→Option (Bool×aB)
abbrev yF (f:acB):Entry S:=⟨140,[mM,q0],[q3],fun x=>f x.1 x.2⟩
def b_  (r_:aB) (s:List UInt8):Option (Bool×aB):=(dO r_).bind fun r1=>
 bif r1.1 then
 (dj r1.2.l r1.2.ah s).bind fun r2=>
 some (r2,r1.2) else
 some (false,r1.2)
theorem B3:ax Tryz.prog S (yF (b_)):=
 aY pk [tG dO,oc dj] ⟨wk,pJ,trivial⟩ Tryz.func140 (by kernel_rfl) (fun _=>by kernel_rfl) (by kernel_rfl)
abbrev acE:=aB→(List UInt8)→Option (List aX×aB)
abbrev QG (f:acE):Entry S:=⟨110,[mM,q0],[DX],fun x=>f x.1 x.2⟩
def kU:Nat→(List ai)→Int→Int→Int→(List UInt8)→(List aX)→Option (List aX×aB)
 | 0,_,_,_,_,_,_=>none
 | k+1,bJ,bF,bT,bV,word,out=>(b_ (aB.mk bJ bF (az.mk bT bV)) word).bind fun r1=>
  bif r1.1 then
  if 0≤(aj (r1.2.ah+1)) then
  if (aj (r1.2.ah+1))<(r1.2.l.length:Int) then
  (fJ (aB.mk r1.2.l (aj (r1.2.ah+1)) r1.2.bad)).bind fun r2=>
  if word=jx then
  (cu r2.2 pS).bind fun r3=>
  (b_ r3 gW).bind fun r4=>
  bif r4.1 then
  (kV (aB.mk r4.2.l (aj (r4.2.ah+1)) r4.2.bad)).bind fun r5=>
  bif r4.1 then
  (cu r5.2 bD).bind fun r6=>
  if (out.length+ [aX.mk r2.1 (aj (0 - r5.1)) ((r1.2.l.getD (aj (r1.2.ah+1)).toNat ai.z).At)].length)*32≤140737488355328 then
  kU k r6.l r6.ah r6.bad.Code r6.bad.At word (out++ [aX.mk r2.1 (aj (0 - r5.1)) ((r1.2.l.getD (aj (r1.2.ah+1)).toNat ai.z).At)]) else none else
  (cu r5.2 bD).bind fun r7=>
  if (out.length+ [aX.mk r2.1 r5.1 ((r1.2.l.getD (aj (r1.2.ah+1)).toNat ai.z).At)].length)*32≤140737488355328 then
  kU k r7.l r7.ah r7.bad.Code r7.bad.At word (out++ [aX.mk r2.1 r5.1 ((r1.2.l.getD (aj (r1.2.ah+1)).toNat ai.z).At)]) else none else
  (kV r4.2).bind fun r8=>
  bif r4.1 then
  (cu r8.2 bD).bind fun r9=>
  if (out.length+ [aX.mk r2.1 (aj (0 - r8.1)) ((r1.2.l.getD (aj (r1.2.ah+1)).toNat ai.z).At)].length)*32≤140737488355328 then
  kU k r9.l r9.ah r9.bad.Code r9.bad.At word (out++ [aX.mk r2.1 (aj (0 - r8.1)) ((r1.2.l.getD (aj (r1.2.ah+1)).toNat ai.z).At)]) else none else
  (cu r8.2 bD).bind fun aJ=>
  if (out.length+ [aX.mk r2.1 r8.1 ((r1.2.l.getD (aj (r1.2.ah+1)).toNat ai.z).At)].length)*32≤140737488355328 then
  kU k aJ.l aJ.ah aJ.bad.Code aJ.bad.At word (out++ [aX.mk r2.1 r8.1 ((r1.2.l.getD (aj (r1.2.ah+1)).toNat ai.z).At)]) else none else
  (cu r2.2 bD).bind fun bu=>
  if (out.length+ [aX.mk r2.1 0 ((r1.2.l.getD (aj (r1.2.ah+1)).toNat ai.z).At)].length)*32≤140737488355328 then
  kU k bu.l bu.ah bu.bad.Code bu.bad.At word (out++ [aX.mk r2.1 0 ((r1.2.l.getD (aj (r1.2.ah+1)).toNat ai.z).At)]) else none else none else none else
  some (out,r1.2)
def JQ (k:Nat) (r_:aB) (word:List UInt8):Option (List aX×aB):=kU k r_.l r_.ah r_.bad.Code r_.bad.At word []
def pN  (r_:aB) (word:List UInt8):Option (List aX×aB):=bw (fun k (x:aB×List UInt8)=>JQ k x.1 x.2) (r_,word)
theorem acD:ax Tryz.prog S (QG (pN)):=cl (fun k x=>JQ k x.1 x.2) (fun _=>rfl) fun k=>
 b7 pk [yF b_,yG fJ,wq cu,JR kV] ⟨B3,B4,yQ,QH,trivial⟩ Tryz.func110 [] k (fun k=> [(0,⟨[0,1,5],[cC,q0,DX],fun x=>kU k x.1.1 x.1.2.1 x.1.2.2.1 x.1.2.2.2 x.2.1 x.2.2,false⟩)]) ⟨fun _=>rfl,trivial⟩ (fun _=>by kernel_rfl) (fun _=>by kernel_rfl) (by kernel_rfl)
abbrev acA:=aB→Option (aG×aB)
abbrev QD (f:acA):Entry S:=⟨141,[mM],[D4],fun x=>f x⟩
def tD  (r_:aB):Option (aG×aB):=if 0≤r_.ah then
 if r_.ah<(r_.l.length:Int) then
 (b_ r_ fK).bind fun r1=>
 bif r1.1 then
 (fJ (aB.mk r1.2.l (aj (r1.2.ah+1)) r1.2.bad)).bind fun r2=>
 (cu r2.2 bD).bind fun r3=>
 some (aG.mk 4 r2.1 [] [] [] [] ((r_.l.getD r_.ah.toNat ai.z).At),r3) else
 (fJ (aB.mk r1.2.l (aj (r1.2.ah+1)) r1.2.bad)).bind fun r4=>
 (cu r4.2 bD).bind fun r5=>
 some (aG.mk 3 r4.1 [] [] [] [] ((r_.l.getD r_.ah.toNat ai.z).At),r5) else none else none
theorem acz:ax Tryz.prog S (QD (tD)):=
 aY pk [yF b_,yG fJ,wq cu] ⟨B3,B4,yQ,trivial⟩ Tryz.func141 (by kernel_rfl) (fun _=>by kernel_rfl) (by kernel_rfl)
abbrev abA:=(List ai)→Int→(List UInt8)→Option (Int×az)
abbrev EH (f:abA):Entry S:=⟨208,[ia,q1,q0],[q1,q6],fun x=>f x.1 x.2.1 x.2.2⟩
def kn  (l:List ai) (ah:Int) (s:List UInt8):Option (Int×az):=(dj l ah s).bind fun r1=>
 bif !r1 then
 (dG l ah).bind fun r2=>
 some (0,r2) else
 some (aj (ah+1),az.mk 0 0)
theorem JF:ax Tryz.prog S (EH (kn)):=
 aY pk [oc dj,lS dG] ⟨pJ,mT,trivial⟩ Tryz.func208 (by kernel_rfl) (fun _=>by kernel_rfl) (by kernel_rfl)
abbrev abY:=bf→(List UInt8)→Option (Bool×bf)
abbrev ES (f:abY):Entry S:=⟨221,[vA,q0],[q3],fun x=>f x.1 x.2⟩
def lU  (r_:bf) (s:List UInt8):Option (Bool×bf):=(dj r_.l r_.ah s).bind fun r1=>some (r1,r_)
theorem JK:ax Tryz.prog S (ES (lU)):=
 aY pk [oc dj] ⟨pJ,trivial⟩ Tryz.func221 (by kernel_rfl) (fun _=>by kernel_rfl) (by kernel_rfl)
abbrev ab5:=bf→Option (an×bf)
abbrev JM (f:ab5):Entry S:=⟨231,[vA],[lN],fun x=>f x⟩
def qU  (r_:bf):Option (an×bf):=if r_.bad.Code=0 then
 (dG r_.l r_.ah).bind fun r1=>
 some (an.mk 0 0 [] [] 0,bf.mk r_.l r_.ah r_.bG r1) else
 some (an.mk 0 0 [] [] 0,r_)
theorem Qn:ax Tryz.prog S (JM (qU)):=
 aY pk [lS dG] ⟨mT,trivial⟩ Tryz.func231 (by kernel_rfl) (fun _=>by kernel_rfl) (by kernel_rfl)
abbrev ab4:=bf→(List UInt8)→Option bf
abbrev Qm (f:ab4):Entry S:=⟨230,[vA,q0],[],fun x=>f x.1 x.2⟩
def jV  (r_:bf) (s:List UInt8):Option bf:=if r_.bad.Code≠0 then
 some r_ else
 (lU r_ s).bind fun r1=>
 bif !r1.1 then
 (qU r1.2).bind fun r2=>
 some r2.2 else
 some (bf.mk r1.2.l (aj (r1.2.ah+1)) r1.2.bG r1.2.bad)
theorem ab3:ax Tryz.prog S (Qm (jV)):=
 aY pk [ES lU,JM qU] ⟨JK,Qn,trivial⟩ Tryz.func230 (by kernel_rfl) (fun _=>by kernel_rfl) (by kernel_rfl)
abbrev abX:=bf→Option (Bool×bf)
abbrev JJ (f:abX):Entry S:=⟨223,[vA],[q3],fun x=>f x⟩
def jU  (r_:bf):Option (Bool×bf):=if r_.bG=12 then
 if 0≤r_.ah then
 if r_.ah<(r_.l.length:Int) then
 some (false,bf.mk r_.l r_.ah r_.bG (az.mk 14 ((r_.l.getD r_.ah.toNat ai.z).At))) else none else none else
 some (true,bf.mk r_.l (aj (r_.ah+1)) (aj (r_.bG+1)) r_.bad)
theorem Qk:ax Tryz.prog S (JJ (jU)):=
 aY pk [] trivial Tryz.func223 (by kernel_rfl) (fun _=>by kernel_rfl) (by kernel_rfl)
abbrev mU:=bf→Int→Option (an×bf)
abbrev qS (f:mU):Entry S:=⟨199,[vA,q1],[lN],fun x=>f x.1 x.2⟩
abbrev ab0:=bf→Option (an×bf)
abbrev Ql (f:ab0):Entry S:=⟨222,[vA],[lN],fun x=>f x⟩
def kT (cU:mU)  (r_:bf):Option (an×bf):=if 0≤r_.ah then
 if r_.ah<(r_.l.length:Int) then
 if ((r_.l.getD r_.ah.toNat ai.z).Kind)=2 then
 some (an.mk 1 ((r_.l.getD r_.ah.toNat ai.z).N) [] [] ((r_.l.getD r_.ah.toNat ai.z).At),bf.mk r_.l (aj (r_.ah+1)) r_.bG r_.bad) else
 (lU r_ tJ).bind fun r1=>
 bif r1.1 then
 some (an.mk 3 0 [] [] ((r_.l.getD r_.ah.toNat ai.z).At),bf.mk r1.2.l (aj (r1.2.ah+1)) r1.2.bG r1.2.bad) else
 (lU r1.2 lX).bind fun r2=>
 bif r2.1 then
 (jV (bf.mk r2.2.l (aj (r2.2.ah+1)) r2.2.bG r2.2.bad) gM).bind fun r3=>
 if r3.bad.Code≠0 then
 some (an.mk 0 0 [] [] 0,r3) else
 (iG r3.l r3.ah).bind fun r4=>
 bif !r4 then
 (qU r3).bind fun r5=>
 some (an.mk r5.1.Kind r5.1.N r5.1.Name r5.1.Kids r5.1.At,r5.2) else
 if 0≤r3.ah then
 if r3.ah<(r3.l.length:Int) then
 (jV (bf.mk r3.l (aj (r3.ah+1)) r3.bG r3.bad) iu).bind fun r6=>
 some (an.mk 4 0 ((r3.l.getD r3.ah.toNat ai.z).Text) [] ((r_.l.getD r_.ah.toNat ai.z).At),r6) else none else none else
 (lU r2.2 gM).bind fun r7=>
 bif r7.1 then
 (jU r7.2).bind fun r8=>
 bif !r8.1 then
 some (an.mk 0 0 [] [] 0,r8.2) else
 (cU r8.2 1).bind fun r9=>
 (jV r9.2 iu).bind fun aJ=>
 some (an.mk r9.1.Kind r9.1.N r9.1.Name r9.1.Kids r9.1.At,bf.mk aJ.l aJ.ah (aj (aJ.bG - 1)) aJ.bad) else
 (iG r7.2.l r7.2.ah).bind fun bu=>
 bif bu then
 some (an.mk 2 0 ((r_.l.getD r_.ah.toNat ai.z).Text) [] ((r_.l.getD r_.ah.toNat ai.z).At),bf.mk r7.2.l (aj (r7.2.ah+1)) r7.2.bG r7.2.bad) else
 (qU r7.2).bind fun bg=>
 some (an.mk bg.1.Kind bg.1.N bg.1.Name bg.1.Kids bg.1.At,bg.2) else none else none
theorem abZ (cU:mU) (sM:ax Tryz.prog S (qS cU)):ax Tryz.prog S (Ql (kT cU)):=
 aY pk [ES lU,Qm jV,BP iG,JM qU,JJ jU,qS cU] ⟨JK,ab3,EF,Qn,Qk,sM,trivial⟩ Tryz.func222 (by kernel_rfl) (fun _=>by kernel_rfl) (by kernel_rfl)
abbrev JL:=bf→Option (an×bf)
abbrev BV (f:JL):Entry S:=⟨209,[vA],[lN],fun x=>f x⟩
def ET (tQ:JL) (cU:mU) (k:Nat) (r_:bf):Option (an×bf):=(lU r_ gW).bind fun r1=>
 bif r1.1 then
 (lU r1.2 pQ).bind fun r2=>
 bif r2.1 then
 if (6:Int)=0 then
 (kT cU r2.2).bind fun r3=>
 some (an.mk r3.1.Kind r3.1.N r3.1.Name r3.1.Kids r3.1.At,r3.2) else
 if 0≤r2.2.ah then
 if r2.2.ah<(r2.2.l.length:Int) then
 (jU r2.2).bind fun r4=>
 bif !r4.1 then
 some (an.mk 0 0 [] [] 0,r4.2) else
 (tQ r4.2).bind fun r5=>
 some (an.mk 6 0 [] [an.mk r5.1.Kind r5.1.N r5.1.Name r5.1.Kids r5.1.At] ((r2.2.l.getD r2.2.ah.toNat ai.z).At),bf.mk r5.2.l r5.2.ah (aj (r5.2.bG - 1)) r5.2.bad) else none else none else
 if (5:Int)=0 then
 (kT cU r2.2).bind fun r6=>
 some (an.mk r6.1.Kind r6.1.N r6.1.Name r6.1.Kids r6.1.At,r6.2) else
 if 0≤r2.2.ah then
 if r2.2.ah<(r2.2.l.length:Int) then
 (jU r2.2).bind fun r7=>
 bif !r7.1 then
 some (an.mk 0 0 [] [] 0,r7.2) else
 (tQ r7.2).bind fun r8=>
 some (an.mk 5 0 [] [an.mk r8.1.Kind r8.1.N r8.1.Name r8.1.Kids r8.1.At] ((r2.2.l.getD r2.2.ah.toNat ai.z).At),bf.mk r8.2.l r8.2.ah (aj (r8.2.bG - 1)) r8.2.bad) else none else none else
 (lU r1.2 pQ).bind fun r9=>
 bif r9.1 then
 if (6:Int)=0 then
 (kT cU r9.2).bind fun aJ=>
 some (an.mk aJ.1.Kind aJ.1.N aJ.1.Name aJ.1.Kids aJ.1.At,aJ.2) else
 if 0≤r9.2.ah then
 if r9.2.ah<(r9.2.l.length:Int) then
 (jU r9.2).bind fun bu=>
 bif !bu.1 then
 some (an.mk 0 0 [] [] 0,bu.2) else
 (tQ bu.2).bind fun bg=>
 some (an.mk 6 0 [] [an.mk bg.1.Kind bg.1.N bg.1.Name bg.1.Kids bg.1.At] ((r9.2.l.getD r9.2.ah.toNat ai.z).At),bf.mk bg.2.l bg.2.ah (aj (bg.2.bG - 1)) bg.2.bad) else none else none else
 if (0:Int)=0 then
 (kT cU r9.2).bind fun bp=>
 some (an.mk bp.1.Kind bp.1.N bp.1.Name bp.1.Kids bp.1.At,bp.2) else
 if 0≤r9.2.ah then
 if r9.2.ah<(r9.2.l.length:Int) then
 (jU r9.2).bind fun bC=>
 bif !bC.1 then
 some (an.mk 0 0 [] [] 0,bC.2) else
 (tQ bC.2).bind fun dN=>
 some (an.mk 0 0 [] [an.mk dN.1.Kind dN.1.N dN.1.Name dN.1.Kids dN.1.At] ((r9.2.l.getD r9.2.ah.toNat ai.z).At),bf.mk dN.2.l dN.2.ah (aj (dN.2.bG - 1)) dN.2.bad) else none else none
def mV (cU:mU):Nat→bf→Option (an×bf)
 | 0,_=>none
 | k+1,x0=>ET (mV cU k) cU k x0
def yy (cU:mU)  (r_:bf):Option (an×bf):=bw (fun k (x:bf)=>mV cU k x) r_
theorem ab2 (tQ:JL) (cU:mU) (k:Nat) (W8:ax Tryz.prog S (BV tQ)) (sM:ax Tryz.prog S (qS cU)):ax Tryz.prog S (BV (ET tQ cU k)):=
 aY pk [ES lU,Ql (kT cU),JJ jU,BV tQ] ⟨JK,abZ cU sM,Qk,W8,trivial⟩ Tryz.func209 (by kernel_rfl) (fun _=>by kernel_rfl) (by kernel_rfl)
theorem ab1 (cU:mU) (sM:ax Tryz.prog S (qS cU)):ax Tryz.prog S (BV (yy cU)):=kZ (fun k x=>mV cU k x) (fun _=>rfl) Tryz.func209 (by kernel_rfl) (fun _=>rfl) fun k h=>ab2 (mV cU k) cU k h sM
abbrev abS:=Int→Int→Int→Option Int
abbrev Qi (f:abS):Entry S:=⟨224,[q1,q1,q1],[q1],fun x=>f x.1 x.2.1 x.2.2⟩
def jt  (level:Int) (own:Int) (kind:Int):Option Int:=if level=own then some kind else some 0
theorem abR:ax Tryz.prog S (Qi (jt)):=
 aY pk [] trivial Tryz.func224 (by kernel_rfl) (fun _=>by kernel_rfl) (by kernel_rfl)
abbrev abU:=Int→(List UInt8)→Option Int
abbrev Qj (f:abU):Entry S:=⟨210,[q1,q0],[q1],fun x=>f x.1 x.2⟩
def BT  (level:Int) (s:List UInt8):Option Int:=if s=iJ then
 (jt level 1 19).bind fun r1=>
 some r1 else
 if s=iH then
 (jt level 2 18).bind fun r2=>
 some r2 else
 if s=tL then
 (jt level 3 12).bind fun r3=>
 some r3 else
 if s=iM then
 (jt level 3 13).bind fun r4=>
 some r4 else
 if s=tK then
 (jt level 3 14).bind fun r5=>
 some r5 else
 if s=iL then
 (jt level 3 15).bind fun r6=>
 some r6 else
 if s=iK then
 (jt level 3 16).bind fun r7=>
 some r7 else
 if s=iI then
 (jt level 3 17).bind fun r8=>
 some r8 else
 if s=ey then
 (jt level 4 10).bind fun r9=>
 some r9 else
 if s=gW then
 (jt level 4 11).bind fun aJ=>
 some aJ else
 if s=tP then
 (jt level 5 7).bind fun bu=>
 some bu else
 if s=tO then
 (jt level 5 8).bind fun bg=>
 some bg else
 if s=tN then
 (jt level 5 9).bind fun bp=>
 some bp else
 some 0
theorem abT:ax Tryz.prog S (Qj (BT)):=
 aY pk [Qi jt] ⟨abR,trivial⟩ Tryz.func210 (by kernel_rfl) (fun _=>by kernel_rfl) (by kernel_rfl)
mutual
def qT (cU:mU):Nat→(List ai)→Int→Int→Int→Int→Int→Int→Int→(List UInt8)→(List an)→Int→Int→Int→(List UInt8)→(List an)→Int→Option (an×bf)
 | 0,_,_,_,_,_,_,_,_,_,_,_,_,_,_,_,_=>none
 | k+1,bJ,bF,lP,bT,bV,level,gf,oy,iO,jb,ga,lC,lD,lE,lB,lA=>if bT=0 then
  if bF<(bJ.length:Int) then
  if 0≤bF then
  if bF<(bJ.length:Int) then
  if ((bJ.getD bF.toNat ai.z).Kind)=3 then
  ER cU k bJ bF lP bT bV level gf oy iO jb ga lC lD lE lB lA else
  some (an.mk lC lD lE lB lA,bf.mk bJ bF lP (az.mk bT bV)) else none else none else
  some (an.mk lC lD lE lB lA,bf.mk bJ bF lP (az.mk bT bV)) else
  some (an.mk lC lD lE lB lA,bf.mk bJ bF lP (az.mk bT bV))
def ER (cU:mU):Nat→(List ai)→Int→Int→Int→Int→Int→Int→Int→(List UInt8)→(List an)→Int→Int→Int→(List UInt8)→(List an)→Int→Option (an×bf)
 | 0,_,_,_,_,_,_,_,_,_,_,_,_,_,_,_,_=>none
 | k+1,bJ,bF,lP,bT,bV,level,gf,oy,iO,jb,ga,lC,lD,lE,lB,lA=>if 0≤bF then
  if bF<(bJ.length:Int) then
  (BT level ((bJ.getD bF.toNat ai.z).Text)).bind fun r3=>
  if r3=0 then
  some (an.mk lC lD lE lB lA,bf.mk bJ bF lP (az.mk bT bV)) else
  if 0≤bF then
  if bF<(bJ.length:Int) then
  (cU (bf.mk bJ (aj (bF+1)) lP (az.mk bT bV)) (aj (level+1))).bind fun r4=>
  if level=3 then
  some (an.mk r3 0 [] [an.mk lC lD lE lB lA,an.mk r4.1.Kind r4.1.N r4.1.Name r4.1.Kids r4.1.At] ((bJ.getD bF.toNat ai.z).At),r4.2) else
  qT cU k r4.2.l r4.2.ah r4.2.bG r4.2.bad.Code r4.2.bad.At level gf oy iO jb ga r3 0 [] [an.mk lC lD lE lB lA,an.mk r4.1.Kind r4.1.N r4.1.Name r4.1.Kids r4.1.At] ((bJ.getD bF.toNat ai.z).At) else none else none else none else none
end
def tw (cU:mU) (k:Nat) (r_:bf) (level:Int):Option (an×bf):=if level=6 then
 (yy cU r_).bind fun r1=>
 some (an.mk r1.1.Kind r1.1.N r1.1.Name r1.1.Kids r1.1.At,r1.2) else
 (cU r_ (aj (level+1))).bind fun r2=>
 qT cU k r2.2.l r2.2.ah r2.2.bG r2.2.bad.Code r2.2.bad.At level 0 0 [] [] 0 r2.1.Kind r2.1.N r2.1.Name r2.1.Kids r2.1.At
def gS:Nat→bf→Int→Option (an×bf)
 | 0,_,_=>none
 | k+1,x0,x1=>tw (gS k) k x0 x1
def BU  (r_:bf) (level:Int):Option (an×bf):=bw (fun k (x:bf×Int)=>gS k x.1 x.2) (r_,level)
theorem abW (cU:mU) (k:Nat) (sM:ax Tryz.prog S (qS cU)):ax Tryz.prog S (qS (tw cU k)):=
 b7 pk [BV (yy cU),qS cU,Qj BT] ⟨ab1 cU sM,sM,abT,trivial⟩ Tryz.func199 [6] k (fun k=> [(0,⟨[0,1,4,5],[Bl,q1,Je,Bm],fun x=>qT cU k x.1.1 x.1.2.1 x.1.2.2.1 x.1.2.2.2.1 x.1.2.2.2.2 x.2.1 x.2.2.1.1 x.2.2.1.2.1 x.2.2.1.2.2.1 x.2.2.1.2.2.2.1 x.2.2.1.2.2.2.2 x.2.2.2.1 x.2.2.2.2.1 x.2.2.2.2.2.1 x.2.2.2.2.2.2.1 x.2.2.2.2.2.2.2,false⟩),(1,⟨[0,1,4,5],[Bl,q1,Je,Bm],fun x=>ER cU k x.1.1 x.1.2.1 x.1.2.2.1 x.1.2.2.2.1 x.1.2.2.2.2 x.2.1 x.2.2.1.1 x.2.2.1.2.1 x.2.2.1.2.2.1 x.2.2.1.2.2.2.1 x.2.2.1.2.2.2.2 x.2.2.2.1 x.2.2.2.2.1 x.2.2.2.2.2.1 x.2.2.2.2.2.2.1 x.2.2.2.2.2.2.2,false⟩)]) ⟨fun _=>rfl,fun _=>rfl,trivial⟩ (fun _=>by kernel_rfl) (fun _=>by kernel_rfl) (by kernel_rfl)
theorem abV:ax Tryz.prog S (qS (BU)):=kZ (fun k x=>gS k x.1 x.2) (fun _=>rfl) Tryz.func199 (by kernel_rfl) (fun _=>rfl) fun k h=>abW (gS k) k h
abbrev abO:=(List ai)→Int→Option (an×Int×az)
abbrev EM (f:abO):Entry S:=⟨191,[ia,q1],[lN,q1,q6],fun x=>f x.1 x.2⟩
def jT  (l:List ai) (ah:Int):Option (an×Int×az):=(BU (bf.mk l ah 0 (az.mk 0 0)) 1).bind fun r1=>
 if r1.2.bad.Code≠0 then
 some (an.mk 0 0 [] [] 0,0,r1.2.bad) else
 some (an.mk r1.1.Kind r1.1.N r1.1.Name r1.1.Kids r1.1.At,r1.2.ah,az.mk 0 0)
theorem JI:ax Tryz.prog S (EM (jT)):=
 aY pk [qS BU] ⟨abV,trivial⟩ Tryz.func191 (by kernel_rfl) (fun _=>by kernel_rfl) (by kernel_rfl)
abbrev acd:=(List ai)→Int→Option (List an×Int×az)
abbrev EW (f:acd):Entry S:=⟨204,[ia,q1],[kP,q1,q6],fun x=>f x.1 x.2⟩
def lV  (l:List ai) (ah:Int):Option (List an×Int×az):=(kn l ah gM).bind fun r1=>
 if r1.2.Code≠0 then
 some ([],0,r1.2) else
 (jT l r1.1).bind fun r2=>
 if r2.2.2.Code≠0 then
 some ([],0,r2.2.2) else
 (kn l r2.2.1 iu).bind fun r3=>
 some ([an.mk r2.1.Kind r2.1.N r2.1.Name r2.1.Kids r2.1.At],r3.1,r3.2)
theorem JN:ax Tryz.prog S (EW (lV)):=
 aY pk [EH kn,EM jT] ⟨JF,JI,trivial⟩ Tryz.func204 (by kernel_rfl) (fun _=>by kernel_rfl) (by kernel_rfl)
abbrev aci:=(List ai)→Int→Option (List UInt8×Int×az)
abbrev JO (f:aci):Entry S:=⟨205,[ia,q1],[q0,q1,q6],fun x=>f x.1 x.2⟩
def ig  (l:List ai) (ah:Int):Option (List UInt8×Int×az):=(iG l ah).bind fun r1=>
 bif !r1 then
 (dG l ah).bind fun r2=>
 some ([],0,r2) else
 if 0≤ah then
 if ah<(l.length:Int) then
 some ((l.getD ah.toNat ai.z).Text,aj (ah+1),az.mk 0 0) else none else none
theorem Qt:ax Tryz.prog S (JO (ig)):=
 aY pk [BP iG,lS dG] ⟨EF,mT,trivial⟩ Tryz.func205 (by kernel_rfl) (fun _=>by kernel_rfl) (by kernel_rfl)
abbrev ach:=(List ai)→Int→Option (List an×Int×az)
abbrev Qs (f:ach):Entry S:=⟨206,[ia,q1],[kP,q1,q6],fun x=>f x.1 x.2⟩
def qV  (l:List ai) (ah:Int):Option (List an×Int×az):=(dj l ah gM).bind fun r1=>
 bif !r1 then
 some ([],ah,az.mk 0 0) else
 (lV l ah).bind fun r2=>
 some (r2.1,r2.2.1,r2.2.2)
theorem acg:ax Tryz.prog S (Qs (qV)):=
 aY pk [oc dj,EW lV] ⟨pJ,JN,trivial⟩ Tryz.func206 (by kernel_rfl) (fun _=>by kernel_rfl) (by kernel_rfl)
abbrev acn:=(List ai)→Int→Option (ak×Int×az)
abbrev Qv (f:acn):Entry S:=⟨207,[ia,q1],[qI,q1,q6],fun x=>f x.1 x.2⟩
def qW  (l:List ai) (ah:Int):Option (ak×Int×az):=if 0≤ah then
 if ah<(l.length:Int) then
 (ig l ah).bind fun r1=>
 if r1.2.2.Code≠0 then
 some (ak.mk 1 [] [] [] 0 [] [] ((l.getD ah.toNat ai.z).At),0,r1.2.2) else
 (kn l r1.2.1 pS).bind fun r2=>
 if r2.2.Code≠0 then
 some (ak.mk 1 r1.1 [] [] 0 [] [] ((l.getD ah.toNat ai.z).At),0,r2.2) else
 (jT l r2.1).bind fun r3=>
 some (ak.mk 1 r1.1 [] [an.mk r3.1.Kind r3.1.N r3.1.Name r3.1.Kids r3.1.At] 0 [] [] ((l.getD ah.toNat ai.z).At),r3.2.1,r3.2.2) else none else none
theorem acm:ax Tryz.prog S (Qv (qW)):=
 aY pk [JO ig,EH kn,EM jT] ⟨Qt,JF,JI,trivial⟩ Tryz.func207 (by kernel_rfl) (fun _=>by kernel_rfl) (by kernel_rfl)
abbrev acp:=(List ai)→Int→Option (ak×Int×az)
abbrev Qw (f:acp):Entry S:=⟨198,[ia,q1],[qI,q1,q6],fun x=>f x.1 x.2⟩
def lW:Nat→(List ai)→Int→Int→(List UInt8)→(List UInt8)→(List an)→Int→(List ak)→(List ak)→Int→Int→Int→Int→(List UInt8)→(List UInt8)→(List an)→Int→(List ak)→(List ak)→Int→Int→Int→Option (ak×Int×az)
 | 0,_,_,_,_,_,_,_,_,_,_,_,_,_,_,_,_,_,_,_,_,_,_=>none
 | k+1,l,ah,gf,iO,agl,agn,oy,agm,agk,ga,agp,ago,Gm,zP,TP,TU,Gn,TT,TO,zO,LC,UG=>if LC≠0 then
  some (ak.mk 0 [] [] [] 0 [] [] 0,0,az.mk LC UG) else
  (kn l ah bD).bind fun dN=>
  some (ak.mk Gm zP TP TU Gn TT TO zO,dN.1,dN.2)
def EX (k:Nat) (l:List ai) (ah:Int):Option (ak×Int×az):=if 0≤ah then
 if ah<(l.length:Int) then
 (dj l ah nc).bind fun r1=>
 bif r1 then
 (ig l (aj (ah+1))).bind fun r2=>
 if r2.2.2.Code=0 then
 (qV l r2.2.1).bind fun r3=>
 lW k l r3.2.1 0 [] [] [] 0 [] [] 0 0 0 2 [] r2.1 r3.1 0 [] [] ((l.getD ah.toNat ai.z).At) r3.2.2.Code r3.2.2.At else
 lW k l r2.2.1 0 [] [] [] 0 [] [] 0 0 0 2 [] r2.1 [] 0 [] [] ((l.getD ah.toNat ai.z).At) r2.2.2.Code r2.2.2.At else
 (dj l ah ng).bind fun r4=>
 bif r4 then
 (ig l (aj (ah+1))).bind fun r5=>
 if r5.2.2.Code=0 then
 (ig l r5.2.1).bind fun r6=>
 if r6.2.2.Code=0 then
 (qV l r6.2.1).bind fun r7=>
 lW k l r7.2.1 0 [] [] [] 0 [] [] 0 0 0 3 r5.1 r6.1 r7.1 0 [] [] ((l.getD ah.toNat ai.z).At) r7.2.2.Code r7.2.2.At else
 lW k l r6.2.1 0 [] [] [] 0 [] [] 0 0 0 3 r5.1 r6.1 [] 0 [] [] ((l.getD ah.toNat ai.z).At) r6.2.2.Code r6.2.2.At else
 if r5.2.2.Code=0 then
 (qV l r5.2.1).bind fun r8=>
 lW k l r8.2.1 0 [] [] [] 0 [] [] 0 0 0 3 r5.1 [] r8.1 0 [] [] ((l.getD ah.toNat ai.z).At) r8.2.2.Code r8.2.2.At else
 lW k l r5.2.1 0 [] [] [] 0 [] [] 0 0 0 3 r5.1 [] [] 0 [] [] ((l.getD ah.toNat ai.z).At) r5.2.2.Code r5.2.2.At else
 (dj l ah m_).bind fun r9=>
 bif r9 then
 (ig l (aj (ah+1))).bind fun aJ=>
 if aJ.2.2.Code=0 then
 (lV l aJ.2.1).bind fun bu=>
 lW k l bu.2.1 0 [] [] [] 0 [] [] 0 0 0 4 aJ.1 [] bu.1 0 [] [] ((l.getD ah.toNat ai.z).At) bu.2.2.Code bu.2.2.At else
 lW k l aJ.2.1 0 [] [] [] 0 [] [] 0 0 0 4 aJ.1 [] [] 0 [] [] ((l.getD ah.toNat ai.z).At) aJ.2.2.Code aJ.2.2.At else
 (dj l ah om).bind fun bg=>
 bif bg then
 (ig l (aj (ah+1))).bind fun bp=>
 lW k l bp.2.1 0 [] [] [] 0 [] [] 0 0 0 5 bp.1 [] [] 0 [] [] ((l.getD ah.toNat ai.z).At) bp.2.2.Code bp.2.2.At else
 (qW l ah).bind fun bC=>
 lW k l bC.2.1 0 [] [] [] 0 [] [] 0 0 0 bC.1.Kind bC.1.Name bC.1.Event bC.1.X bC.1.N bC.1.gh bC.1.fG bC.1.At bC.2.2.Code bC.2.2.At else none else none
def qX  (l:List ai) (ah:Int):Option (ak×Int×az):=bw (fun k (x:List ai×Int)=>EX k x.1 x.2) (l,ah)
theorem aco:ax Tryz.prog S (Qw (qX)):=cl (fun k x=>EX k x.1 x.2) (fun _=>rfl) fun k=>
 b7 pk [oc dj,JO ig,Qs qV,EW lV,Qv qW,EH kn] ⟨pJ,Qt,acg,JN,acm,JF,trivial⟩ Tryz.func198 [3] k (fun k=> [(1,⟨[0,1,4,6,7,8],[ia,q1,ZX,q7,ZY,q7],fun x=>lW k x.1 x.2.1 x.2.2.1.1 x.2.2.1.2.1 x.2.2.1.2.2.1 x.2.2.1.2.2.2.1 x.2.2.1.2.2.2.2.1 x.2.2.1.2.2.2.2.2.1 x.2.2.1.2.2.2.2.2.2.1 x.2.2.1.2.2.2.2.2.2.2 x.2.2.2.1.1 x.2.2.2.1.2 x.2.2.2.2.1.1 x.2.2.2.2.1.2.1 x.2.2.2.2.1.2.2.1 x.2.2.2.2.1.2.2.2.1 x.2.2.2.2.1.2.2.2.2.1 x.2.2.2.2.1.2.2.2.2.2.1 x.2.2.2.2.1.2.2.2.2.2.2.1 x.2.2.2.2.1.2.2.2.2.2.2.2 x.2.2.2.2.2.1 x.2.2.2.2.2.2,false⟩)]) ⟨fun _=>rfl,trivial⟩ (fun _=>by kernel_rfl) (fun _=>by kernel_rfl) (by kernel_rfl)
abbrev tC:=(List ai)→Int→Int→Option (List ak×Int×az)
abbrev tB (f:tC):Entry S:=⟨190,[ia,q1,q1],[sY,q1,q6],fun x=>f x.1 x.2.1 x.2.2⟩
abbrev acf:=(List ai)→Int→Int→Option (ak×Int×az)
abbrev Qr (f:acf):Entry S:=⟨196,[ia,q1,q1],[qI,q1,q6],fun x=>f x.1 x.2.1 x.2.2⟩
def BW (eZ:tC)  (l:List ai) (ah:Int) (deep:Int):Option (ak×Int×az):=if 0≤ah then
 if ah<(l.length:Int) then
 (lV l (aj (ah+1))).bind fun r1=>
 if r1.2.2.Code≠0 then
 some (ak.mk 6 [] [] [] 0 [] [] ((l.getD ah.toNat ai.z).At),0,r1.2.2) else
 (eZ l r1.2.1 deep).bind fun r2=>
 if r2.2.2.Code=0 then
 (dj l r2.2.1 ry).bind fun r3=>
 bif r3 then
 (eZ l (aj (r2.2.1+1)) deep).bind fun r4=>
 some (ak.mk 6 [] [] r1.1 0 r2.1 r4.1 ((l.getD ah.toNat ai.z).At),r4.2.1,r4.2.2) else
 some (ak.mk 6 [] [] r1.1 0 r2.1 [] ((l.getD ah.toNat ai.z).At),r2.2.1,r2.2.2) else
 some (ak.mk 6 [] [] r1.1 0 r2.1 [] ((l.getD ah.toNat ai.z).At),r2.2.1,r2.2.2) else none else none
theorem ace (eZ:tC) (xo:ax Tryz.prog S (tB eZ)):ax Tryz.prog S (Qr (BW eZ)):=
 aY pk [EW lV,tB eZ,oc dj] ⟨JN,xo,pJ,trivial⟩ Tryz.func196 (by kernel_rfl) (fun _=>by kernel_rfl) (by kernel_rfl)
abbrev ack:=(List ai)→Int→Int→Option (ak×Int×az)
abbrev Qu (f:ack):Entry S:=⟨197,[ia,q1,q1],[qI,q1,q6],fun x=>f x.1 x.2.1 x.2.2⟩
def BY (eZ:tC)  (l:List ai) (ah:Int) (deep:Int):Option (ak×Int×az):=if 0≤ah then
 if ah<(l.length:Int) then
 if 0≤(aj (ah+1)) then
 if (aj (ah+1))<(l.length:Int) then
 if ((l.getD (aj (ah+1)).toNat ai.z).Kind)≠2 then
 (dG l (aj (ah+1))).bind fun r1=>
 some (ak.mk 7 [] [] [] 0 [] [] ((l.getD ah.toNat ai.z).At),0,r1) else
 if 0≤(aj (ah+1)) then
 if (aj (ah+1))<(l.length:Int) then
 (eZ l (aj ((aj (ah+1))+1)) deep).bind fun r2=>
 some (ak.mk 7 [] [] [] ((l.getD (aj (ah+1)).toNat ai.z).N) r2.1 [] ((l.getD ah.toNat ai.z).At),r2.2.1,r2.2.2) else none else none else none else none else none else none
theorem acj (eZ:tC) (xo:ax Tryz.prog S (tB eZ)):ax Tryz.prog S (Qu (BY eZ)):=
 aY pk [lS dG,tB eZ] ⟨mT,xo,trivial⟩ Tryz.func197 (by kernel_rfl) (fun _=>by kernel_rfl) (by kernel_rfl)
def mW (eZ:tC):Nat→(List ai)→Int→Int→Int→Int→(List ak)→Option (List ak×Int×az)
 | 0,_,_,_,_,_,_=>none
 | k+1,l,ah,deep,KM,KL,out=>(dj l ah fh).bind fun r3=>
  bif !r3 then
  (dj l ah kX).bind fun r4=>
  bif r4 then
  (BW eZ l ah (aj (deep+1))).bind fun r5=>
  if r5.2.2.Code≠0 then
  some ([],0,r5.2.2) else
  if (out.length+ [ak.mk r5.1.Kind r5.1.Name r5.1.Event r5.1.X r5.1.N r5.1.gh r5.1.fG r5.1.At].length)*128≤140737488355328 then
  mW eZ k l r5.2.1 deep KM KL (out++ [ak.mk r5.1.Kind r5.1.Name r5.1.Event r5.1.X r5.1.N r5.1.gh r5.1.fG r5.1.At]) else none else
  (dj l ah kq).bind fun r6=>
  bif r6 then
  (BY eZ l ah (aj (deep+1))).bind fun r7=>
  if r7.2.2.Code≠0 then
  some ([],0,r7.2.2) else
  if (out.length+ [ak.mk r7.1.Kind r7.1.Name r7.1.Event r7.1.X r7.1.N r7.1.gh r7.1.fG r7.1.At].length)*128≤140737488355328 then
  mW eZ k l r7.2.1 deep KM KL (out++ [ak.mk r7.1.Kind r7.1.Name r7.1.Event r7.1.X r7.1.N r7.1.gh r7.1.fG r7.1.At]) else none else
  (qX l ah).bind fun r8=>
  if r8.2.2.Code≠0 then
  some ([],0,r8.2.2) else
  if (out.length+ [ak.mk r8.1.Kind r8.1.Name r8.1.Event r8.1.X r8.1.N r8.1.gh r8.1.fG r8.1.At].length)*128≤140737488355328 then
  mW eZ k l r8.2.1 deep KM KL (out++ [ak.mk r8.1.Kind r8.1.Name r8.1.Event r8.1.X r8.1.N r8.1.gh r8.1.fG r8.1.At]) else none else
  some (out,aj (ah+1),az.mk 0 0)
def pM (eZ:tC) (k:Nat) (l:List ai) (ah:Int) (deep:Int):Option (List ak×Int×az):=(dj l ah ew).bind fun r1=>
 bif !r1 then
 (dG l ah).bind fun r2=>
 some ([],0,r2) else
 if deep=4 then
 if 0≤ah then
 if ah<(l.length:Int) then
 some ([],0,az.mk 14 ((l.getD ah.toNat ai.z).At)) else none else none else
 mW eZ k l (aj (ah+1)) deep 0 0 []
def gT:Nat→(List ai)→Int→Int→Option (List ak×Int×az)
 | 0,_,_,_=>none
 | k+1,x0,x1,x2=>pM (gT k) k x0 x1 x2
def yB  (l:List ai) (ah:Int) (deep:Int):Option (List ak×Int×az):=bw (fun k (x:List ai×Int×Int)=>gT k x.1 x.2.1 x.2.2) (l,ah,deep)
theorem ab_ (eZ:tC) (k:Nat) (xo:ax Tryz.prog S (tB eZ)):ax Tryz.prog S (tB (pM eZ k)):=
 b7 pk [oc dj,lS dG,Qr (BW eZ),Qu (BY eZ),Qw qX] ⟨pJ,mT,ace eZ xo,acj eZ xo,aco,trivial⟩ Tryz.func190 [] k (fun k=> [(0,⟨[0,1,2,8,9],[ia,q1,q1,q7,sY],fun x=>mW eZ k x.1 x.2.1 x.2.2.1 x.2.2.2.1.1 x.2.2.2.1.2 x.2.2.2.2,false⟩)]) ⟨fun _=>rfl,trivial⟩ (fun _=>by kernel_rfl) (fun _=>by kernel_rfl) (by kernel_rfl)
theorem ab9:ax Tryz.prog S (tB (yB)):=kZ (fun k x=>gT k x.1 x.2.1 x.2.2) (fun _=>rfl) Tryz.func190 (by kernel_rfl) (fun _=>rfl) fun k h=>ab_ (gT k) k h
abbrev ab7:=(List ai)→Int→Option (List ak×Int×az)
abbrev Qo (f:ab7):Entry S:=⟨177,[ia,q1],[sY,q1,q6],fun x=>f x.1 x.2⟩
def pL  (l:List ai) (ah:Int):Option (List ak×Int×az):=(yB l ah 0).bind fun r1=>some (r1.1,r1.2.1,r1.2.2)
theorem ab6:ax Tryz.prog S (Qo (pL)):=
 aY pk [tB yB] ⟨ab9,trivial⟩ Tryz.func177 (by kernel_rfl) (fun _=>by kernel_rfl) (by kernel_rfl)
abbrev acv:=aB→Option (List ak×aB)
abbrev JP (f:acv):Entry S:=⟨162,[mM],[sY],fun x=>f x⟩
def jW  (r_:aB):Option (List ak×aB):=(dO r_).bind fun r1=>
 bif !r1.1 then
 some ([],r1.2) else
 (pL r1.2.l r1.2.ah).bind fun r2=>
 (dO (aB.mk r1.2.l r1.2.ah r2.2.2)).bind fun r3=>
 bif r3.1 then
 some (r2.1,aB.mk r3.2.l r2.2.1 r3.2.bad) else
 some (r2.1,r3.2)
theorem Qz:ax Tryz.prog S (JP (jW)):=
 aY pk [tG dO,Qo pL] ⟨wk,ab6,trivial⟩ Tryz.func162 (by kernel_rfl) (fun _=>by kernel_rfl) (by kernel_rfl)
abbrev acy:=aB→Option (List an×aB)
abbrev QB (f:acy):Entry S:=⟨178,[mM],[kP],fun x=>f x⟩
def yE  (r_:aB):Option (List an×aB):=(cu r_ gV).bind fun r1=>
 (dO r1).bind fun r2=>
 bif !r2.1 then
 some ([],r2.2) else
 (jT r2.2.l r2.2.ah).bind fun r3=>
 (dO (aB.mk r2.2.l r2.2.ah r3.2.2)).bind fun r4=>
 bif r4.1 then
 (cu (aB.mk r4.2.l r3.2.1 r4.2.bad) fY).bind fun r5=>
 some ([an.mk r3.1.Kind r3.1.N r3.1.Name r3.1.Kids r3.1.At],r5) else
 (cu r4.2 fY).bind fun r6=>
 some ([an.mk r3.1.Kind r3.1.N r3.1.Name r3.1.Kids r3.1.At],r6)
theorem acw:ax Tryz.prog S (QB (yE)):=
 aY pk [wq cu,tG dO,EM jT] ⟨yQ,wk,JI,trivial⟩ Tryz.func178 (by kernel_rfl) (fun _=>by kernel_rfl) (by kernel_rfl)
abbrev acM:=aB→Option (aW×aB)
abbrev QJ (f:acM):Entry S:=⟨163,[mM],[DY],fun x=>f x⟩
def yP:Nat→(List ai)→Int→Int→Int→(List UInt8)→(List an)→(List UInt8)→(List ak)→Int→(List UInt8)→(List an)→(List UInt8)→(List ak)→Int→Option (aW×aB)
 | 0,_,_,_,_,_,_,_,_,_,_,_,_,_,_=>none
 | k+1,bJ,bF,bT,bV,mg,mh,mj,me,dz,jy,kA,kB,kz,e_=>(b_ (aB.mk bJ bF (az.mk bT bV)) bD).bind fun r8=>
  bif r8.1 then
  some (aW.mk jy kA kB kz e_,aB.mk r8.2.l (aj (r8.2.ah+1)) r8.2.bad) else
  (jW r8.2).bind fun r9=>
  some (aW.mk jy kA kB r9.1 e_,r9.2)
def yO:Nat→(List ai)→Int→Int→Int→(List UInt8)→(List an)→(List UInt8)→(List ak)→Int→(List UInt8)→(List an)→(List UInt8)→(List ak)→Int→Option (aW×aB)
 | 0,_,_,_,_,_,_,_,_,_,_,_,_,_,_=>none
 | k+1,bJ,bF,bT,bV,mg,mh,mj,me,dz,jy,kA,kB,kz,e_=>(b_ (aB.mk bJ bF (az.mk bT bV)) eN).bind fun r6=>
  bif r6.1 then
  (fJ (aB.mk r6.2.l (aj (r6.2.ah+1)) r6.2.bad)).bind fun r7=>
  yP k r7.2.l r7.2.ah r7.2.bad.Code r7.2.bad.At mg mh mj me dz jy kA r7.1 kz e_ else
  yP k r6.2.l r6.2.ah r6.2.bad.Code r6.2.bad.At mg mh mj me dz jy kA kB kz e_
def wo:Nat→(List ai)→Int→Int→Int→(List UInt8)→(List an)→(List UInt8)→(List ak)→Int→(List UInt8)→(List an)→(List UInt8)→(List ak)→Int→Option (aW×aB)
 | 0,_,_,_,_,_,_,_,_,_,_,_,_,_,_=>none
 | k+1,bJ,bF,bT,bV,mg,mh,mj,me,dz,jy,kA,kB,kz,e_=>(b_ (aB.mk bJ bF (az.mk bT bV)) gV).bind fun r4=>
  bif r4.1 then
  (yE r4.2).bind fun r5=>
  yO k r5.2.l r5.2.ah r5.2.bad.Code r5.2.bad.At mg mh mj me dz jy r5.1 kB kz e_ else
  yO k r4.2.l r4.2.ah r4.2.bad.Code r4.2.bad.At mg mh mj me dz jy kA kB kz e_
def B9 (k:Nat) (r_:aB):Option (aW×aB):=if 0≤r_.ah then
 if r_.ah<(r_.l.length:Int) then
 (b_ r_ iZ).bind fun r1=>
 bif r1.1 then
 wo k r1.2.l (aj (r1.2.ah+1)) r1.2.bad.Code r1.2.bad.At [] [] [] [] 0 [] [] [] [] ((r_.l.getD r_.ah.toNat ai.z).At) else
 (cu r1.2 fX).bind fun r2=>
 (fJ r2).bind fun r3=>
 wo k r3.2.l r3.2.ah r3.2.bad.Code r3.2.bad.At [] [] [] [] 0 r3.1 [] [] [] ((r_.l.getD r_.ah.toNat ai.z).At) else none else none
def yL  (r_:aB):Option (aW×aB):=bw (fun k (x:aB)=>B9 k x) r_
theorem acL:ax Tryz.prog S (QJ (yL)):=cl (fun k x=>B9 k x) (fun _=>rfl) fun k=>
 b7 pk [yF b_,wq cu,yG fJ,QB yE,JP jW] ⟨B3,yQ,B4,acw,Qz,trivial⟩ Tryz.func163 [2,5,7] k (fun k=> [(1,⟨[0,2,3],[cC,o9,o9],fun x=>wo k x.1.1 x.1.2.1 x.1.2.2.1 x.1.2.2.2 x.2.1.1 x.2.1.2.1 x.2.1.2.2.1 x.2.1.2.2.2.1 x.2.1.2.2.2.2 x.2.2.1 x.2.2.2.1 x.2.2.2.2.1 x.2.2.2.2.2.1 x.2.2.2.2.2.2,false⟩),(3,⟨[0,2,3],[cC,o9,Pd],fun x=>yO k x.1.1 x.1.2.1 x.1.2.2.1 x.1.2.2.2 x.2.1.1 x.2.1.2.1 x.2.1.2.2.1 x.2.1.2.2.2.1 x.2.1.2.2.2.2 x.2.2.1 x.2.2.2.1 x.2.2.2.2.1 x.2.2.2.2.2.1 x.2.2.2.2.2.2,false⟩),(5,⟨[0,2,3],[cC,o9,Pd],fun x=>yP k x.1.1 x.1.2.1 x.1.2.2.1 x.1.2.2.2 x.2.1.1 x.2.1.2.1 x.2.1.2.2.1 x.2.1.2.2.2.1 x.2.1.2.2.2.2 x.2.2.1 x.2.2.2.1 x.2.2.2.2.1 x.2.2.2.2.2.1 x.2.2.2.2.2.2,false⟩)]) ⟨fun _=>rfl,fun _=>rfl,fun _=>rfl,trivial⟩ (fun _=>by kernel_rfl) (fun _=>by kernel_rfl) (by kernel_rfl)
abbrev iY:=aB→Int→Option (List aG×aB)
abbrev yK (f:iY):Entry S:=⟨111,[mM,q1],[xP],fun x=>f x.1 x.2⟩
abbrev acI:=aB→Int→Option (aG×aB)
abbrev QI (f:acI):Entry S:=⟨142,[mM,q1],[D4],fun x=>f x.1 x.2⟩
mutual
def wm (cj:iY):Nat→(List ai)→Int→Int→Int→Int→Int→(List UInt8)→(List ak)→(List ak)→(List aW)→(List aG)→Int→Int→(List UInt8)→(List ak)→(List ak)→(List aW)→(List aG)→Int→Option (aG×aB)
 | 0,_,_,_,_,_,_,_,_,_,_,_,_,_,_,_,_,_,_,_=>none
 | k+1,bJ,bF,bT,bV,deep,gf,iO,nu,nv,nw,jb,ga,fW,gK,gv,gH,fE,gJ,fV=>(b_ (aB.mk bJ bF (az.mk bT bV)) fX).bind fun r8=>
  bif r8.1 then
  B7 cj k r8.2.l r8.2.ah r8.2.bad.Code r8.2.bad.At deep gf iO nu nv nw jb ga fW gK gv gH fE gJ fV else
  (b_ r8.2 iZ).bind fun r9=>
  bif r9.1 then
  B7 cj k r9.2.l r9.2.ah r9.2.bad.Code r9.2.bad.At deep gf iO nu nv nw jb ga fW gK gv gH fE gJ fV else
  (cj r9.2 (aj (deep+1))).bind fun aJ=>
  (cu aJ.2 fh).bind fun bu=>
  some (aG.mk fW gK gv gH fE aJ.1 fV,bu)
def B7 (cj:iY):Nat→(List ai)→Int→Int→Int→Int→Int→(List UInt8)→(List ak)→(List ak)→(List aW)→(List aG)→Int→Int→(List UInt8)→(List ak)→(List ak)→(List aW)→(List aG)→Int→Option (aG×aB)
 | 0,_,_,_,_,_,_,_,_,_,_,_,_,_,_,_,_,_,_,_=>none
 | k+1,bJ,bF,bT,bV,deep,gf,iO,nu,nv,nw,jb,ga,fW,gK,gv,gH,fE,gJ,fV=>(yL (aB.mk bJ bF (az.mk bT bV))).bind fun bg=>
  if (fE.length+ [bg.1].length)*88≤140737488355328 then
  wm cj k bg.2.l bg.2.ah bg.2.bad.Code bg.2.bad.At deep gf iO nu nv nw jb ga fW gK gv gH (fE++ [bg.1]) gJ fV else none
end
def JS (cj:iY):Nat→(List ai)→Int→Int→Int→Int→Int→(List UInt8)→(List ak)→(List ak)→(List aW)→(List aG)→Int→Int→(List UInt8)→(List ak)→(List ak)→(List aW)→(List aG)→Int→Option (aG×aB)
 | 0,_,_,_,_,_,_,_,_,_,_,_,_,_,_,_,_,_,_,_=>none
 | k+1,bJ,bF,bT,bV,deep,gf,iO,nu,nv,nw,jb,ga,fW,gK,gv,gH,fE,gJ,fV=>wm cj k bJ bF bT bV deep gf iO nu nv nw jb ga fW gK gv gH fE gJ fV
def B6 (cj:iY):Nat→(List ai)→Int→Int→Int→Int→Int→(List UInt8)→(List ak)→(List ak)→(List aW)→(List aG)→Int→Int→(List UInt8)→(List ak)→(List ak)→(List aW)→(List aG)→Int→Option (aG×aB)
 | 0,_,_,_,_,_,_,_,_,_,_,_,_,_,_,_,_,_,_,_=>none
 | k+1,bJ,bF,bT,bV,deep,gf,iO,nu,nv,nw,jb,ga,fW,gK,gv,gH,fE,gJ,fV=>(b_ (aB.mk bJ bF (az.mk bT bV)) pT).bind fun r6=>
  bif r6.1 then
  (jW (aB.mk r6.2.l (aj (r6.2.ah+1)) r6.2.bad)).bind fun r7=>
  JS cj k r7.2.l r7.2.ah r7.2.bad.Code r7.2.bad.At deep gf iO nu nv nw jb ga fW gK gv r7.1 fE gJ fV else
  JS cj k r6.2.l r6.2.ah r6.2.bad.Code r6.2.bad.At deep gf iO nu nv nw jb ga fW gK gv gH fE gJ fV
def B5 (cj:iY):Nat→(List ai)→Int→Int→Int→Int→Int→(List UInt8)→(List ak)→(List ak)→(List aW)→(List aG)→Int→Int→(List UInt8)→(List ak)→(List ak)→(List aW)→(List aG)→Int→Option (aG×aB)
 | 0,_,_,_,_,_,_,_,_,_,_,_,_,_,_,_,_,_,_,_=>none
 | k+1,bJ,bF,bT,bV,deep,gf,iO,nu,nv,nw,jb,ga,fW,gK,gv,gH,fE,gJ,fV=>(fJ (aB.mk bJ (aj (bF+1)) (az.mk bT bV))).bind fun r2=>
  (cu r2.2 ew).bind fun r3=>
  (b_ r3 pR).bind fun r4=>
  bif r4.1 then
  (jW (aB.mk r4.2.l (aj (r4.2.ah+1)) r4.2.bad)).bind fun r5=>
  B6 cj k r5.2.l r5.2.ah r5.2.bad.Code r5.2.bad.At deep gf iO nu nv nw jb ga fW r2.1 r5.1 gH fE gJ fV else
  B6 cj k r4.2.l r4.2.ah r4.2.bad.Code r4.2.bad.At deep gf iO nu nv nw jb ga fW r2.1 gv gH fE gJ fV
def yI (cj:iY) (k:Nat) (r_:aB) (deep:Int):Option (aG×aB):=if 0≤r_.ah then
 if r_.ah<(r_.l.length:Int) then
 (b_ r_ ir).bind fun r1=>
 bif r1.1 then
 B5 cj k r1.2.l r1.2.ah r1.2.bad.Code r1.2.bad.At deep 0 [] [] [] [] [] 0 2 [] [] [] [] [] ((r_.l.getD r_.ah.toNat ai.z).At) else
 B5 cj k r1.2.l r1.2.ah r1.2.bad.Code r1.2.bad.At deep 0 [] [] [] [] [] 0 1 [] [] [] [] [] ((r_.l.getD r_.ah.toNat ai.z).At) else none else none
def yH (cj:iY)  (r_:aB) (deep:Int):Option (aG×aB):=bw (fun k (x:aB×Int)=>yI cj k x.1 x.2) (r_,deep)
theorem acH (cj:iY) (HM:ax Tryz.prog S (yK cj)):ax Tryz.prog S (QI (yH cj)):=cl (fun k x=>yI cj k x.1 x.2) (fun _=>rfl) fun k=>
 b7 pk [yF b_,yG fJ,wq cu,JP jW,yK cj,QJ yL] ⟨B3,B4,yQ,Qz,HM,acL,trivial⟩ Tryz.func142 [2,7,10,14] k (fun k=> [(1,⟨[0,1,4,5],[cC,q1,xR,xR],fun x=>B5 cj k x.1.1 x.1.2.1 x.1.2.2.1 x.1.2.2.2 x.2.1 x.2.2.1.1 x.2.2.1.2.1 x.2.2.1.2.2.1 x.2.2.1.2.2.2.1 x.2.2.1.2.2.2.2.1 x.2.2.1.2.2.2.2.2.1 x.2.2.1.2.2.2.2.2.2 x.2.2.2.1 x.2.2.2.2.1 x.2.2.2.2.2.1 x.2.2.2.2.2.2.1 x.2.2.2.2.2.2.2.1 x.2.2.2.2.2.2.2.2.1 x.2.2.2.2.2.2.2.2.2,false⟩),(3,⟨[0,1,4,5],[cC,q1,xR,ZZ],fun x=>B6 cj k x.1.1 x.1.2.1 x.1.2.2.1 x.1.2.2.2 x.2.1 x.2.2.1.1 x.2.2.1.2.1 x.2.2.1.2.2.1 x.2.2.1.2.2.2.1 x.2.2.1.2.2.2.2.1 x.2.2.1.2.2.2.2.2.1 x.2.2.1.2.2.2.2.2.2 x.2.2.2.1 x.2.2.2.2.1 x.2.2.2.2.2.1 x.2.2.2.2.2.2.1 x.2.2.2.2.2.2.2.1 x.2.2.2.2.2.2.2.2.1 x.2.2.2.2.2.2.2.2.2,false⟩),(5,⟨[0,1,4,5],[cC,q1,xR,Jf],fun x=>JS cj k x.1.1 x.1.2.1 x.1.2.2.1 x.1.2.2.2 x.2.1 x.2.2.1.1 x.2.2.1.2.1 x.2.2.1.2.2.1 x.2.2.1.2.2.2.1 x.2.2.1.2.2.2.2.1 x.2.2.1.2.2.2.2.2.1 x.2.2.1.2.2.2.2.2.2 x.2.2.2.1 x.2.2.2.2.1 x.2.2.2.2.2.1 x.2.2.2.2.2.2.1 x.2.2.2.2.2.2.2.1 x.2.2.2.2.2.2.2.2.1 x.2.2.2.2.2.2.2.2.2,false⟩),(0,⟨[0,1,4,5],[cC,q1,xR,Jf],fun x=>wm cj k x.1.1 x.1.2.1 x.1.2.2.1 x.1.2.2.2 x.2.1 x.2.2.1.1 x.2.2.1.2.1 x.2.2.1.2.2.1 x.2.2.1.2.2.2.1 x.2.2.1.2.2.2.2.1 x.2.2.1.2.2.2.2.2.1 x.2.2.1.2.2.2.2.2.2 x.2.2.2.1 x.2.2.2.2.1 x.2.2.2.2.2.1 x.2.2.2.2.2.2.1 x.2.2.2.2.2.2.2.1 x.2.2.2.2.2.2.2.2.1 x.2.2.2.2.2.2.2.2.2,false⟩),(7,⟨[0,1,4,5],[cC,q1,xR,Jf],fun x=>B7 cj k x.1.1 x.1.2.1 x.1.2.2.1 x.1.2.2.2 x.2.1 x.2.2.1.1 x.2.2.1.2.1 x.2.2.1.2.2.1 x.2.2.1.2.2.2.1 x.2.2.1.2.2.2.2.1 x.2.2.1.2.2.2.2.2.1 x.2.2.1.2.2.2.2.2.2 x.2.2.2.1 x.2.2.2.2.1 x.2.2.2.2.2.1 x.2.2.2.2.2.2.1 x.2.2.2.2.2.2.2.1 x.2.2.2.2.2.2.2.2.1 x.2.2.2.2.2.2.2.2.2,false⟩)]) ⟨fun _=>rfl,fun _=>rfl,fun _=>rfl,fun _=>rfl,fun _=>rfl,trivial⟩ (fun _=>by kernel_rfl) (fun _=>by kernel_rfl) (by kernel_rfl)
mutual
def pO (cj:iY):Nat→(List ai)→Int→Int→Int→Int→(List aG)→Option (List aG×aB)
 | 0,_,_,_,_,_,_=>none
 | k+1,bJ,bF,bT,bV,deep,out=>(b_ (aB.mk bJ bF (az.mk bT bV)) iw).bind fun r1=>
  bif r1.1 then
  qY cj k r1.2.l r1.2.ah r1.2.bad.Code r1.2.bad.At deep out else
  (b_ r1.2 ir).bind fun r2=>
  bif r2.1 then
  qY cj k r2.2.l r2.2.ah r2.2.bad.Code r2.2.bad.At deep out else
  (b_ r2.2 gL).bind fun r3=>
  bif r3.1 then
  qY cj k r3.2.l r3.2.ah r3.2.bad.Code r3.2.bad.At deep out else
  (b_ r3.2 fK).bind fun r4=>
  bif r4.1 then
  qY cj k r4.2.l r4.2.ah r4.2.bad.Code r4.2.bad.At deep out else
  some (out,r4.2)
def qY (cj:iY):Nat→(List ai)→Int→Int→Int→Int→(List aG)→Option (List aG×aB)
 | 0,_,_,_,_,_,_=>none
 | k+1,bJ,bF,bT,bV,deep,out=>if 12<deep then
  if 0≤bF then
  if bF<(bJ.length:Int) then
  some ([],aB.mk bJ bF (az.mk 14 ((bJ.getD bF.toNat ai.z).At))) else none else none else
  (b_ (aB.mk bJ bF (az.mk bT bV)) gL).bind fun r5=>
  bif r5.1 then
  B8 cj k r5.2.l r5.2.ah r5.2.bad.Code r5.2.bad.At deep out true else
  (b_ r5.2 fK).bind fun r6=>
  B8 cj k r6.2.l r6.2.ah r6.2.bad.Code r6.2.bad.At deep out r6.1
def B8 (cj:iY):Nat→(List ai)→Int→Int→Int→Int→(List aG)→Bool→Option (List aG×aB)
 | 0,_,_,_,_,_,_,_=>none
 | k+1,bJ,bF,bT,bV,deep,out,x42=>bif x42 then
  (tD (aB.mk bJ bF (az.mk bT bV))).bind fun r7=>
  if (out.length+ [r7.1].length)*128≤140737488355328 then
  pO cj k r7.2.l r7.2.ah r7.2.bad.Code r7.2.bad.At deep (out++ [r7.1]) else none else
  (yH cj (aB.mk bJ bF (az.mk bT bV)) deep).bind fun r8=>
  if (out.length+ [r8.1].length)*128≤140737488355328 then
  pO cj k r8.2.l r8.2.ah r8.2.bad.Code r8.2.bad.At deep (out++ [r8.1]) else none
end
def EY (cj:iY) (k:Nat) (r_:aB) (deep:Int):Option (List aG×aB):=pO cj k r_.l r_.ah r_.bad.Code r_.bad.At deep []
def eu:Nat→aB→Int→Option (List aG×aB)
 | 0,_,_=>none
 | k+1,x0,x1=>EY (eu k) k x0 x1
def yJ  (r_:aB) (deep:Int):Option (List aG×aB):=bw (fun k (x:aB×Int)=>eu k x.1 x.2) (r_,deep)
theorem acK (cj:iY) (k:Nat) (HM:ax Tryz.prog S (yK cj)):ax Tryz.prog S (yK (EY cj k)):=
 b7 pk [yF b_,QD tD,QI (yH cj)] ⟨B3,acz,acH cj HM,trivial⟩ Tryz.func111 [3,9] k (fun k=> [(0,⟨[0,1,5],[cC,q1,xP],fun x=>pO cj k x.1.1 x.1.2.1 x.1.2.2.1 x.1.2.2.2 x.2.1 x.2.2,false⟩),(1,⟨[0,1,5],[cC,q1,xP],fun x=>qY cj k x.1.1 x.1.2.1 x.1.2.2.1 x.1.2.2.2 x.2.1 x.2.2,false⟩),(3,⟨[0,1,5,42],[cC,q1,xP,q3],fun x=>B8 cj k x.1.1 x.1.2.1 x.1.2.2.1 x.1.2.2.2 x.2.1 x.2.2.1 x.2.2.2,false⟩)]) ⟨fun _=>rfl,fun _=>rfl,fun _=>rfl,trivial⟩ (fun _=>by kernel_rfl) (fun _=>by kernel_rfl) (by kernel_rfl)
theorem acJ:ax Tryz.prog S (yK (yJ)):=kZ (fun k x=>eu k x.1 x.2) (fun _=>rfl) Tryz.func111 (by kernel_rfl) (fun _=>rfl) fun k h=>acK (eu k) k h
abbrev acr:=(List ai)→Int→Option (aZ×Int×az)
abbrev Qx (f:acr):Entry S:=⟨69,[ia,q1],[sZ,q1,q6],fun x=>f x.1 x.2⟩
def wg  (l:List ai) (ah:Int):Option (aZ×Int×az):=if 0≤ah then
 if ah<(l.length:Int) then
 (cu (aB.mk l ah (az.mk 0 0)) iq).bind fun r1=>
 (fJ r1).bind fun r2=>
 (cu r2.2 rG).bind fun r3=>
 (kV r3).bind fun r4=>
 (cu r4.2 rB).bind fun r5=>
 (kV r5).bind fun r6=>
 (cu r6.2 ew).bind fun r7=>
 (pN r7 jx).bind fun r8=>
 (pN r8.2 rD).bind fun r9=>
 (pN r9.2 rH).bind fun aJ=>
 (yJ aJ.2 1).bind fun bu=>
 (cu bu.2 fh).bind fun bg=>
 (dO bg).bind fun bp=>
 bif !bp.1 then
 some (aZ.mk [] 0 0 [] [] [] [] 0,0,bp.2.bad) else
 some (aZ.mk r2.1 r4.1 r6.1 r8.1 r9.1 aJ.1 bu.1 ((l.getD ah.toNat ai.z).At),bp.2.ah,az.mk 0 0) else none else none
theorem acq:ax Tryz.prog S (Qx (wg)):=
 aY pk [wq cu,yG fJ,JR kV,QG pN,yK yJ,tG dO] ⟨yQ,B4,QH,acD,acJ,wk,trivial⟩ Tryz.func69 (by kernel_rfl) (fun _=>by kernel_rfl) (by kernel_rfl)
abbrev abc:=aH→Option (aZ×aH)
abbrev P0 (f:abc):Entry S:=⟨27,[kQ],[sZ],fun x=>f x⟩
def tj  (r_:aH):Option (aZ×aH):=(wg r_.l r_.ah).bind fun r1=>
 (cP (aH.mk r_.l r_.ah r1.2.2)).bind fun r2=>
 bif r2.1 then
 some (r1.1,aH.mk r2.2.l r1.2.1 r2.2.bad) else
 some (r1.1,r2.2)
theorem abb:ax Tryz.prog S (P0 (tj)):=
 aY pk [Qx wg,qQ cP] ⟨acq,tu,trivial⟩ Tryz.func27 (by kernel_rfl) (fun _=>by kernel_rfl) (by kernel_rfl)
abbrev abd:=aH→Option (Int×aH)
abbrev BJ (f:abd):Entry S:=⟨70,[kQ],[q1],fun x=>f x⟩
def oa  (r_:aH):Option (Int×aH):=if 0≤r_.ah then
 if r_.ah<(r_.l.length:Int) then
 some ((r_.l.getD r_.ah.toNat ai.z).At,r_) else none else none
theorem EB:ax Tryz.prog S (BJ (oa)):=
 aY pk [] trivial Tryz.func70 (by kernel_rfl) (fun _=>by kernel_rfl) (by kernel_rfl)
abbrev abi:=aH→Option (List UInt8×aH)
abbrev vU (f:abi):Entry S:=⟨71,[kQ],[q0],fun x=>f x⟩
def vT:Nat→(List ai)→Int→Int→Int→Option (List UInt8×aH)
 | 0,_,_,_,_=>none
 | k+1,bJ,bF,bT,bV=>(cP (aH.mk bJ bF (az.mk bT bV))).bind fun r4=>
  bif !r4.1 then
  some ([],r4.2) else
  if 0≤(aj ((aj (r4.2.ah+1)) - 1)) then
  if (aj ((aj (r4.2.ah+1)) - 1))<(r4.2.l.length:Int) then
  some ((r4.2.l.getD (aj ((aj (r4.2.ah+1)) - 1)).toNat ai.z).Text,aH.mk r4.2.l (aj (r4.2.ah+1)) r4.2.bad) else none else none
def tn (k:Nat) (r_:aH):Option (List UInt8×aH):=(cP r_).bind fun r1=>
 bif r1.1 then
 (iG r1.2.l r1.2.ah).bind fun r2=>
 bif !r2 then
 (dG r1.2.l r1.2.ah).bind fun r3=>
 vT k r1.2.l r1.2.ah r3.Code r3.At else
 vT k r1.2.l r1.2.ah r1.2.bad.Code r1.2.bad.At else
 vT k r1.2.l r1.2.ah r1.2.bad.Code r1.2.bad.At
def cT  (r_:aH):Option (List UInt8×aH):=bw (fun k (x:aH)=>tn k x) r_
theorem yg:ax Tryz.prog S (vU (cT)):=cl (fun k x=>tn k x) (fun _=>rfl) fun k=>
 b7 pk [qQ cP,BP iG,lS dG] ⟨tu,EF,mT,trivial⟩ Tryz.func71 [1] k (fun k=> [(1,⟨[0],[cC],fun x=>vT k x.1 x.2.1 x.2.2.1 x.2.2.2,false⟩)]) ⟨fun _=>rfl,trivial⟩ (fun _=>by kernel_rfl) (fun _=>by kernel_rfl) (by kernel_rfl)
abbrev abf:=aH→Option (bl×aH)
abbrev P1 (f:abf):Entry S:=⟨28,[kQ],[DZ],fun x=>f x⟩
def vR  (r_:aH):Option (bl×aH):=(oa r_).bind fun r1=>
 (cT (aH.mk r1.2.l (aj (r1.2.ah+1)) r1.2.bad)).bind fun r2=>
 (bO r2.2 ko).bind fun r3=>
 (cT r3).bind fun r4=>
 (bO r4.2 rF).bind fun r5=>
 (gu r5).bind fun r6=>
 (bO r6.2 rz).bind fun r7=>
 (gu r7).bind fun r8=>
 (bO r8.2 kY).bind fun r9=>
 (gu r9).bind fun aJ=>
 (bO aJ.2 bD).bind fun bu=>
 some (bl.mk r2.1 r4.1 r6.1 r8.1 aJ.1 r1.1,bu)
theorem abe:ax Tryz.prog S (P1 (vR)):=
 aY pk [BJ oa,vU cT,yh bO,BM gu] ⟨EB,yg,BN,EC,trivial⟩ Tryz.func28 (by kernel_rfl) (fun _=>by kernel_rfl) (by kernel_rfl)
abbrev aba:=aH→Option (bk×aH)
abbrev PZ (f:aba):Entry S:=⟨29,[kQ],[D0],fun x=>f x⟩
def vQ  (r_:aH):Option (bk×aH):=(oa r_).bind fun r1=>
 (cT (aH.mk r1.2.l (aj (r1.2.ah+1)) r1.2.bad)).bind fun r2=>
 (bO r2.2 ko).bind fun r3=>
 (cT r3).bind fun r4=>
 (bO r4.2 ru).bind fun r5=>
 (cT r5).bind fun r6=>
 (bO r6.2 eN).bind fun r7=>
 (cT r7).bind fun r8=>
 (bO r8.2 rm).bind fun r9=>
 (gu r9).bind fun aJ=>
 (bO aJ.2 kY).bind fun bu=>
 (gu bu).bind fun bg=>
 (bO bg.2 bD).bind fun bp=>
 some (bk.mk r2.1 r4.1 r6.1 r8.1 aJ.1 bg.1 r1.1,bp)
theorem aa_:ax Tryz.prog S (PZ (vQ)):=
 aY pk [BJ oa,vU cT,yh bO,BM gu] ⟨EB,yg,BN,EC,trivial⟩ Tryz.func29 (by kernel_rfl) (fun _=>by kernel_rfl) (by kernel_rfl)
abbrev abk:=aH→Option (List (List UInt8)×aH)
abbrev P3 (f:abk):Entry S:=⟨72,[kQ],[Bo],fun x=>f x⟩
def vV:Nat→(List ai)→Int→Int→Int→(List (List UInt8))→Option (List (List UInt8)×aH)
 | 0,_,_,_,_,_=>none
 | k+1,bJ,bF,bT,bV,out=>(cD (aH.mk bJ bF (az.mk bT bV)) ec).bind fun r2=>
  bif r2.1 then
  (cT (aH.mk r2.2.l (aj (r2.2.ah+1)) r2.2.bad)).bind fun r3=>
  if (out.length+ [r3.1].length)*16≤140737488355328 then
  vV k r3.2.l r3.2.ah r3.2.bad.Code r3.2.bad.At (out++ [r3.1]) else none else
  some (out,r2.2)
def BL (k:Nat) (r_:aH):Option (List (List UInt8)×aH):=(cT r_).bind fun r1=>
 vV k r1.2.l r1.2.ah r1.2.bad.Code r1.2.bad.At [r1.1]
def tq  (r_:aH):Option (List (List UInt8)×aH):=bw (fun k (x:aH)=>BL k x) r_
theorem abj:ax Tryz.prog S (P3 (tq)):=cl (fun k x=>BL k x) (fun _=>rfl) fun k=>
 b7 pk [vU cT,yf cD] ⟨yg,BK,trivial⟩ Tryz.func72 [] k (fun k=> [(0,⟨[0,3],[cC,Bo],fun x=>vV k x.1.1 x.1.2.1 x.1.2.2.1 x.1.2.2.2 x.2,false⟩)]) ⟨fun _=>rfl,trivial⟩ (fun _=>by kernel_rfl) (fun _=>by kernel_rfl) (by kernel_rfl)
abbrev abo:=aH→Option (List (List UInt8)×aH)
abbrev P4 (f:abo):Entry S:=⟨114,[kQ],[qJ],fun x=>f x⟩
def vX:Nat→(List ai)→Int→Int→Int→(List (List UInt8))→Option (List (List UInt8)×aH)
 | 0,_,_,_,_,_=>none
 | k+1,bJ,bF,bT,bV,out=>(cD (aH.mk bJ bF (az.mk bT bV)) ey).bind fun r3=>
  bif r3.1 then
  (cT (aH.mk r3.2.l (aj (r3.2.ah+1)) r3.2.bad)).bind fun r4=>
  if (out.length+ [r4.1].length)*16≤140737488355328 then
  vX k r4.2.l r4.2.ah r4.2.bad.Code r4.2.bad.At (out++ [r4.1]) else none else
  some (out,r3.2)
def qR (k:Nat) (r_:aH):Option (List (List UInt8)×aH):=(cD r_ tM).bind fun r1=>
 bif r1.1 then
 some ([],aH.mk r1.2.l (aj (r1.2.ah+1)) r1.2.bad) else
 (cT r1.2).bind fun r2=>
 vX k r2.2.l r2.2.ah r2.2.bad.Code r2.2.bad.At [r2.1]
def pI  (r_:aH):Option (List (List UInt8)×aH):=bw (fun k (x:aH)=>qR k x) r_
theorem abn:ax Tryz.prog S (P4 (pI)):=cl (fun k x=>qR k x) (fun _=>rfl) fun k=>
 b7 pk [yf cD,vU cT] ⟨BK,yg,trivial⟩ Tryz.func114 [] k (fun k=> [(0,⟨[0,3],[cC,Bo],fun x=>vX k x.1.1 x.1.2.1 x.1.2.2.1 x.1.2.2.2 x.2,false⟩)]) ⟨fun _=>rfl,trivial⟩ (fun _=>by kernel_rfl) (fun _=>by kernel_rfl) (by kernel_rfl)
abbrev aa7:=aH→Option (bL×aH)
abbrev PX (f:aa7):Entry S:=⟨73,[kQ],[D1],fun x=>f x⟩
mutual
def vL:Nat→(List ai)→Int→Int→Int→Int→(List (List (List UInt8)))→(List (List (List UInt8)))→Int→Int→(List (List (List UInt8)))→(List (List (List UInt8)))→Int→Option (bL×aH)
 | 0,_,_,_,_,_,_,_,_,_,_,_,_=>none
 | k+1,bJ,bF,bT,bV,jD,jE,jC,dz,rW,qd,oz,mm=>(cD (aH.mk bJ bF (az.mk bT bV)) gV).bind fun r8=>
  bif r8.1 then
  vO k r8.2.l (aj (r8.2.ah+1)) r8.2.bad.Code r8.2.bad.At jD jE jC dz rW qd oz mm [] else
  (bO r8.2 fh).bind fun r9=>
  some (bL.mk rW qd oz mm,r9)
def vO:Nat→(List ai)→Int→Int→Int→Int→(List (List (List UInt8)))→(List (List (List UInt8)))→Int→Int→(List (List (List UInt8)))→(List (List (List UInt8)))→Int→(List (List UInt8))→Option (bL×aH)
 | 0,_,_,_,_,_,_,_,_,_,_,_,_,_=>none
 | k+1,bJ,bF,bT,bV,jD,jE,jC,dz,rW,qd,oz,mm,row=>(cP (aH.mk bJ bF (az.mk bT bV))).bind fun aJ=>
  bif aJ.1 then
  (cD aJ.2 fY).bind fun bu=>
  bif !bu.1 then
  (cT bu.2).bind fun bg=>
  if (row.length+ [bg.1].length)*16≤140737488355328 then
  vO k bg.2.l bg.2.ah bg.2.bad.Code bg.2.bad.At jD jE jC dz rW qd oz mm (row++ [bg.1]) else none else
  (bO bu.2 fY).bind fun bp=>
  if (oz.length+ [row].length)*24≤140737488355328 then
  vL k bp.l bp.ah bp.bad.Code bp.bad.At jD jE jC dz rW qd (oz++ [row]) mm else none else
  (bO aJ.2 fY).bind fun bC=>
  if (oz.length+ [row].length)*24≤140737488355328 then
  vL k bC.l bC.ah bC.bad.Code bC.bad.At jD jE jC dz rW qd (oz++ [row]) mm else none
end
def ye:Nat→(List ai)→Int→Int→Int→Int→(List (List (List UInt8)))→(List (List (List UInt8)))→Int→Int→(List (List (List UInt8)))→(List (List (List UInt8)))→Int→Option (bL×aH)
 | 0,_,_,_,_,_,_,_,_,_,_,_,_=>none
 | k+1,bJ,bF,bT,bV,jD,jE,jC,dz,rW,qd,oz,mm=>(cD (aH.mk bJ bF (az.mk bT bV)) ec).bind fun r5=>
  bif r5.1 then
  (pI (aH.mk r5.2.l (aj (r5.2.ah+1)) r5.2.bad)).bind fun r6=>
  if (qd.length+ [r6.1].length)*24≤140737488355328 then
  ye k r6.2.l r6.2.ah r6.2.bad.Code r6.2.bad.At jD jE jC dz rW (qd++ [r6.1]) oz mm else none else
  (bO r5.2 bD).bind fun r7=>
  vL k r7.l r7.ah r7.bad.Code r7.bad.At jD jE jC dz rW qd oz mm
def yd (k:Nat) (r_:aH):Option (bL×aH):=(oa r_).bind fun r1=>
 (gu (aH.mk r1.2.l (aj (r1.2.ah+1)) r1.2.bad)).bind fun r2=>
 (bO r2.2 ew).bind fun r3=>
 (pI r3).bind fun r4=>
 if [r4.1].length*24≤140737488355328 then
 ye k r4.2.l r4.2.ah r4.2.bad.Code r4.2.bad.At 0 [] [] 0 r2.1 [r4.1] [] r1.1 else none
def BG  (r_:aH):Option (bL×aH):=bw (fun k (x:aH)=>yd k x) r_
theorem aa6:ax Tryz.prog S (PX (BG)):=cl (fun k x=>yd k x) (fun _=>rfl) fun k=>
 b7 pk [BJ oa,BM gu,yh bO,P4 pI,yf cD,qQ cP,vU cT] ⟨EB,EC,BN,abn,BK,tu,yg,trivial⟩ Tryz.func73 [] k (fun k=> [(0,⟨[0,2,3],[cC,mL,mL],fun x=>ye k x.1.1 x.1.2.1 x.1.2.2.1 x.1.2.2.2 x.2.1.1 x.2.1.2.1 x.2.1.2.2.1 x.2.1.2.2.2 x.2.2.1 x.2.2.2.1 x.2.2.2.2.1 x.2.2.2.2.2,false⟩),(2,⟨[0,2,3],[cC,mL,mL],fun x=>vL k x.1.1 x.1.2.1 x.1.2.2.1 x.1.2.2.2 x.2.1.1 x.2.1.2.1 x.2.1.2.2.1 x.2.1.2.2.2 x.2.2.1 x.2.2.2.1 x.2.2.2.2.1 x.2.2.2.2.2,false⟩),(4,⟨[0,2,3,4],[cC,mL,mL,Pc],fun x=>vO k x.1.1 x.1.2.1 x.1.2.2.1 x.1.2.2.2 x.2.1.1 x.2.1.2.1 x.2.1.2.2.1 x.2.1.2.2.2 x.2.2.1.1 x.2.2.1.2.1 x.2.2.1.2.2.1 x.2.2.1.2.2.2 x.2.2.2,false⟩)]) ⟨fun _=>rfl,fun _=>rfl,fun _=>rfl,trivial⟩ (fun _=>by kernel_rfl) (fun _=>by kernel_rfl) (by kernel_rfl)
abbrev aa9:=aH→Option (a_×aH)
abbrev PY (f:aa9):Entry S:=⟨30,[kQ],[xQ],fun x=>f x⟩
def vP:Nat→(List ai)→Int→Int→Int→(List UInt8)→(List UInt8)→(List UInt8)→(List UInt8)→(List (List UInt8))→(List (List UInt8))→(List bL)→Int→(List UInt8)→(List UInt8)→(List UInt8)→(List UInt8)→(List (List UInt8))→(List (List UInt8))→(List bL)→Int→Option (a_×aH)
 | 0,_,_,_,_,_,_,_,_,_,_,_,_,_,_,_,_,_,_,_,_=>none
 | k+1,bJ,bF,bT,bV,zy,KI,KJ,KK,dR,dQ,KH,dz,KQ,KO,KR,KS,KP,KN,Cz,mm=>(cD (aH.mk bJ bF (az.mk bT bV)) ju).bind fun r16=>
  bif r16.1 then
  (pH r16.2 (Cz.length:Int) 64).bind fun gE=>
  bif !gE.1 then
  (BG gE.2).bind fun dF=>
  if (Cz.length+ [dF.1].length)*64≤140737488355328 then
  vP k dF.2.l dF.2.ah dF.2.bad.Code dF.2.bad.At zy KI KJ KK dR dQ KH dz KQ KO KR KS KP KN (Cz++ [dF.1]) mm else none else
  (bO gE.2 fh).bind fun mN=>
  some (a_.mk KQ KO KR KS KP KN Cz mm,mN) else
  (bO r16.2 fh).bind fun fT=>
  some (a_.mk KQ KO KR KS KP KN Cz mm,fT)
def BI (k:Nat) (r_:aH):Option (a_×aH):=(oa r_).bind fun r1=>
 (cT (aH.mk r1.2.l (aj (r1.2.ah+1)) r1.2.bad)).bind fun r2=>
 (bO r2.2 ko).bind fun r3=>
 (cT r3).bind fun r4=>
 (bO r4.2 ru).bind fun r5=>
 (cT r5).bind fun r6=>
 (bO r6.2 eN).bind fun r7=>
 (cT r7).bind fun r8=>
 (bO r8.2 ew).bind fun r9=>
 (bO r9 rC).bind fun aJ=>
 (tq aJ).bind fun bu=>
 (bO bu.2 bD).bind fun bg=>
 (cD bg rq).bind fun bp=>
 bif bp.1 then
 (tq (aH.mk bp.2.l (aj (bp.2.ah+1)) bp.2.bad)).bind fun bC=>
 (bO bC.2 bD).bind fun dN=>
 vP k dN.l dN.ah dN.bad.Code dN.bad.At [] [] [] [] [] [] [] 0 r2.1 r4.1 r6.1 r8.1 bu.1 bC.1 [] r1.1 else
 vP k bp.2.l bp.2.ah bp.2.bad.Code bp.2.bad.At [] [] [] [] [] [] [] 0 r2.1 r4.1 r6.1 r8.1 bu.1 [] [] r1.1
def BH  (r_:aH):Option (a_×aH):=bw (fun k (x:aH)=>BI k x) r_
theorem aa8:ax Tryz.prog S (PY (BH)):=cl (fun k x=>BI k x) (fun _=>rfl) fun k=>
 b7 pk [BJ oa,vU cT,yh bO,P3 tq,yf cD,JD pH,PX BG] ⟨EB,yg,BN,abj,BK,P2,aa6,trivial⟩ Tryz.func30 [] k (fun k=> [(0,⟨[0,2,3],[cC,D2,D2],fun x=>vP k x.1.1 x.1.2.1 x.1.2.2.1 x.1.2.2.2 x.2.1.1 x.2.1.2.1 x.2.1.2.2.1 x.2.1.2.2.2.1 x.2.1.2.2.2.2.1 x.2.1.2.2.2.2.2.1 x.2.1.2.2.2.2.2.2.1 x.2.1.2.2.2.2.2.2.2 x.2.2.1 x.2.2.2.1 x.2.2.2.2.1 x.2.2.2.2.2.1 x.2.2.2.2.2.2.1 x.2.2.2.2.2.2.2.1 x.2.2.2.2.2.2.2.2.1 x.2.2.2.2.2.2.2.2.2,false⟩)]) ⟨fun _=>rfl,trivial⟩ (fun _=>by kernel_rfl) (fun _=>by kernel_rfl) (by kernel_rfl)
abbrev aa0:=(List UInt8)→Option (bP×az)
abbrev PT (f:aa0):Entry S:=⟨12,[q0],[vz,q6],fun x=>f x⟩
def n_:Nat→Int→(List aZ)→(List bl)→(List bk)→(List a_)→Int→Int→(List ai)→Int→Int→Int→Int→(List aZ)→(List bl)→(List bk)→(List a_)→Option (bP×az)
 | 0,_,_,_,_,_,_,_,_,_,_,_,_,_,_,_,_=>none
 | k+1,eD,eF,dR,dQ,eE,f_,fZ,bJ,bF,bT,bV,d_,dw,dx,dr,dn=>(cP (aH.mk bJ bF (az.mk bT bV))).bind fun xS=>
  bif !xS.1 then
  some (bP.mk 0 [] [] [] [],xS.2.bad) else
  some (bP.mk d_ dw dx dr dn,az.mk 0 0)
def pG:Nat→Int→(List aZ)→(List bl)→(List bk)→(List a_)→Int→Int→(List ai)→Int→Int→Int→Int→(List aZ)→(List bl)→(List bk)→(List a_)→Option (bP×az)
 | 0,_,_,_,_,_,_,_,_,_,_,_,_,_,_,_,_=>none
 | k+1,eD,eF,dR,dQ,eE,f_,fZ,bJ,bF,bT,bV,d_,dw,dx,dr,dn=>(cD (aH.mk bJ bF (az.mk bT bV)) ij).bind fun dN=>
  bif dN.1 then
  (pH dN.2 (dn.length:Int) 4).bind fun r16=>
  bif !r16.1 then
  (BH r16.2).bind fun gE=>
  if (dn.length+ [gE.1].length)*144≤140737488355328 then
  pG k eD eF dR dQ eE f_ fZ gE.2.l gE.2.ah gE.2.bad.Code gE.2.bad.At d_ dw dx dr (dn++ [gE.1]) else none else
  (cP r16.2).bind fun dF=>
  bif dF.1 then
  if 0≤dF.2.ah then
  if dF.2.ah<(dF.2.l.length:Int) then
  if ((dF.2.l.getD dF.2.ah.toNat ai.z).Kind)≠4 then
  (dG dF.2.l dF.2.ah).bind fun mN=>
  n_ k eD eF dR dQ eE f_ fZ dF.2.l dF.2.ah mN.Code mN.At d_ dw dx dr dn else
  n_ k eD eF dR dQ eE f_ fZ dF.2.l dF.2.ah dF.2.bad.Code dF.2.bad.At d_ dw dx dr dn else none else none else
  n_ k eD eF dR dQ eE f_ fZ dF.2.l dF.2.ah dF.2.bad.Code dF.2.bad.At d_ dw dx dr dn else
  (cP dN.2).bind fun fT=>
  bif fT.1 then
  if 0≤fT.2.ah then
  if fT.2.ah<(fT.2.l.length:Int) then
  if ((fT.2.l.getD fT.2.ah.toNat ai.z).Kind)≠4 then
  (dG fT.2.l fT.2.ah).bind fun s9=>
  n_ k eD eF dR dQ eE f_ fZ fT.2.l fT.2.ah s9.Code s9.At d_ dw dx dr dn else
  n_ k eD eF dR dQ eE f_ fZ fT.2.l fT.2.ah fT.2.bad.Code fT.2.bad.At d_ dw dx dr dn else none else none else
  n_ k eD eF dR dQ eE f_ fZ fT.2.l fT.2.ah fT.2.bad.Code fT.2.bad.At d_ dw dx dr dn
def vJ:Nat→Int→(List aZ)→(List bl)→(List bk)→(List a_)→Int→Int→(List ai)→Int→Int→Int→Int→(List aZ)→(List bl)→(List bk)→(List a_)→Option (bP×az)
 | 0,_,_,_,_,_,_,_,_,_,_,_,_,_,_,_,_=>none
 | k+1,eD,eF,dR,dQ,eE,f_,fZ,bJ,bF,bT,bV,d_,dw,dx,dr,dn=>(cD (aH.mk bJ bF (az.mk bT bV)) jv).bind fun bg=>
  bif bg.1 then
  (pH bg.2 (dr.length:Int) 24).bind fun bp=>
  bif !bp.1 then
  (vQ bp.2).bind fun bC=>
  if (dr.length+ [bC.1].length)*88≤140737488355328 then
  vJ k eD eF dR dQ eE f_ fZ bC.2.l bC.2.ah bC.2.bad.Code bC.2.bad.At d_ dw dx (dr++ [bC.1]) dn else none else
  pG k eD eF dR dQ eE f_ fZ bp.2.l bp.2.ah bp.2.bad.Code bp.2.bad.At d_ dw dx dr dn else
  pG k eD eF dR dQ eE f_ fZ bg.2.l bg.2.ah bg.2.bad.Code bg.2.bad.At d_ dw dx dr dn
def vI:Nat→Int→(List aZ)→(List bl)→(List bk)→(List a_)→Int→Int→(List ai)→Int→Int→Int→Int→(List aZ)→(List bl)→(List bk)→(List a_)→Option (bP×az)
 | 0,_,_,_,_,_,_,_,_,_,_,_,_,_,_,_,_=>none
 | k+1,eD,eF,dR,dQ,eE,f_,fZ,bJ,bF,bT,bV,d_,dw,dx,dr,dn=>(cD (aH.mk bJ bF (az.mk bT bV)) jw).bind fun r9=>
  bif r9.1 then
  (pH r9.2 (dx.length:Int) 12).bind fun aJ=>
  bif !aJ.1 then
  (vR aJ.2).bind fun bu=>
  if (dx.length+ [bu.1].length)*64≤140737488355328 then
  vI k eD eF dR dQ eE f_ fZ bu.2.l bu.2.ah bu.2.bad.Code bu.2.bad.At d_ dw (dx++ [bu.1]) dr dn else none else
  vJ k eD eF dR dQ eE f_ fZ aJ.2.l aJ.2.ah aJ.2.bad.Code aJ.2.bad.At d_ dw dx dr dn else
  vJ k eD eF dR dQ eE f_ fZ r9.2.l r9.2.ah r9.2.bad.Code r9.2.bad.At d_ dw dx dr dn
def x5:Nat→Int→(List aZ)→(List bl)→(List bk)→(List a_)→Int→Int→(List ai)→Int→Int→Int→Int→(List aZ)→(List bl)→(List bk)→(List a_)→Option (bP×az)
 | 0,_,_,_,_,_,_,_,_,_,_,_,_,_,_,_,_=>none
 | k+1,eD,eF,dR,dQ,eE,f_,fZ,bJ,bF,bT,bV,d_,dw,dx,dr,dn=>(cD (aH.mk bJ bF (az.mk bT bV)) iq).bind fun r6=>
  bif r6.1 then
  (pH r6.2 (dw.length:Int) 8).bind fun r7=>
  bif !r7.1 then
  (tj r7.2).bind fun r8=>
  if (dw.length+ [r8.1].length)*136≤140737488355328 then
  x5 k eD eF dR dQ eE f_ fZ r8.2.l r8.2.ah r8.2.bad.Code r8.2.bad.At d_ (dw++ [r8.1]) dx dr dn else none else
  vI k eD eF dR dQ eE f_ fZ r7.2.l r7.2.ah r7.2.bad.Code r7.2.bad.At d_ dw dx dr dn else
  vI k eD eF dR dQ eE f_ fZ r6.2.l r6.2.ah r6.2.bad.Code r6.2.bad.At d_ dw dx dr dn
def x4 (k:Nat) (text:List UInt8):Option (bP×az):=(EE text).bind fun r1=>
 if r1.2.Code≠0 then
 some (bP.mk 0 [] [] [] [],r1.2) else
 (bO (aH.mk r1.1 0 (az.mk 0 0)) ou).bind fun r2=>
 (bO r2 oh).bind fun r3=>
 (gu r3).bind fun r4=>
 (bO r4.2 bD).bind fun r5=>
 x5 k 0 [] [] [] [] 0 0 r5.l r5.ah r5.bad.Code r5.bad.At r4.1 [] [] [] []
def BE  (text:List UInt8):Option (bP×az):=bw (fun k (x:List UInt8)=>x4 k x) text
theorem aaZ:ax Tryz.prog S (PT (BE)):=cl (fun k x=>x4 k x) (fun _=>rfl) fun k=>
 b7 pk [P7 EE,yh bO,BM gu,yf cD,JD pH,P0 tj,P1 vR,PZ vQ,PY BH,qQ cP,lS dG] ⟨abt,BN,EC,BK,P2,abb,abe,aa_,aa8,tu,mT,trivial⟩ Tryz.func12 [23] k (fun k=> [(0,⟨[2,3,6,7],[iW,q7,cC,iW],fun x=>x5 k x.1.1 x.1.2.1 x.1.2.2.1 x.1.2.2.2.1 x.1.2.2.2.2 x.2.1.1 x.2.1.2 x.2.2.1.1 x.2.2.1.2.1 x.2.2.1.2.2.1 x.2.2.1.2.2.2 x.2.2.2.1 x.2.2.2.2.1 x.2.2.2.2.2.1 x.2.2.2.2.2.2.1 x.2.2.2.2.2.2.2,false⟩),(2,⟨[2,3,6,7],[iW,q7,cC,iW],fun x=>vI k x.1.1 x.1.2.1 x.1.2.2.1 x.1.2.2.2.1 x.1.2.2.2.2 x.2.1.1 x.2.1.2 x.2.2.1.1 x.2.2.1.2.1 x.2.2.1.2.2.1 x.2.2.1.2.2.2 x.2.2.2.1 x.2.2.2.2.1 x.2.2.2.2.2.1 x.2.2.2.2.2.2.1 x.2.2.2.2.2.2.2,false⟩),(4,⟨[2,3,6,7],[iW,q7,cC,iW],fun x=>vJ k x.1.1 x.1.2.1 x.1.2.2.1 x.1.2.2.2.1 x.1.2.2.2.2 x.2.1.1 x.2.1.2 x.2.2.1.1 x.2.2.1.2.1 x.2.2.1.2.2.1 x.2.2.1.2.2.2 x.2.2.2.1 x.2.2.2.2.1 x.2.2.2.2.2.1 x.2.2.2.2.2.2.1 x.2.2.2.2.2.2.2,false⟩),(6,⟨[2,3,6,7],[iW,q7,cC,iW],fun x=>pG k x.1.1 x.1.2.1 x.1.2.2.1 x.1.2.2.2.1 x.1.2.2.2.2 x.2.1.1 x.2.1.2 x.2.2.1.1 x.2.2.1.2.1 x.2.2.1.2.2.1 x.2.2.1.2.2.2 x.2.2.2.1 x.2.2.2.2.1 x.2.2.2.2.2.1 x.2.2.2.2.2.2.1 x.2.2.2.2.2.2.2,false⟩),(1,⟨[2,3,6,7],[iW,q7,cC,iW],fun x=>n_ k x.1.1 x.1.2.1 x.1.2.2.1 x.1.2.2.2.1 x.1.2.2.2.2 x.2.1.1 x.2.1.2 x.2.2.1.1 x.2.2.1.2.1 x.2.2.1.2.2.1 x.2.2.1.2.2.2 x.2.2.2.1 x.2.2.2.2.1 x.2.2.2.2.2.1 x.2.2.2.2.2.2.1 x.2.2.2.2.2.2.2,false⟩)]) ⟨fun _=>rfl,fun _=>rfl,fun _=>rfl,fun _=>rfl,fun _=>rfl,trivial⟩ (fun _=>by kernel_rfl) (fun _=>by kernel_rfl) (by kernel_rfl)
abbrev Vj:=aX→aX→Option Bool
abbrev Vh (f:Vj):Entry S:=⟨116,[Jd,Jd],[q3],fun x=>f x.1 x.2⟩
def Aa  (x:aX) (y:aX):Option Bool:=if x.Name=y.Name then some (decide (x.N=y.N)) else some false
theorem Vi:ax Tryz.prog S (Vh (Aa)):=
 aY pk [] trivial Tryz.func116 (by kernel_rfl) (fun _=>by kernel_rfl) (by kernel_rfl)
abbrev adV:=(List aX)→(List aX)→((aX×aX)→Option Bool)→Option Bool
abbrev RJ (f:adV):Entry S:=⟨115,[o_,o_,Pe],[q3],fun x=>f x.1 x.2.1 x.2.2⟩
def zc:Nat→(List aX)→((aX×aX)→Option Bool)→(List aX)→Int→Int→Option Bool
 | 0,_,_,_,_,_=>none
 | k+1,s2,eq,bX,ez,aO=>if aO<ez then
  if 0≤aO then
  if aO<(bX.length:Int) then
  if 0≤aO then
  if aO<(s2.length:Int) then
  (eq (bX.getD aO.toNat aX.z,s2.getD aO.toNat aX.z)).bind fun r1=>
  bif !r1 then
  some false else
  zc k s2 eq bX ez (aj (aO+1)) else none else none else none else none else
  some true
def Fy (k:Nat) (s1:List aX) (s2:List aX) (eq:(aX×aX)→Option Bool):Option Bool:=if (s1.length:Int)≠(s2.length:Int) then
 some false else
 zc k s2 eq s1 (s1.length:Int) 0
def Fx  (s1:List aX) (s2:List aX) (eq:(aX×aX)→Option Bool):Option Bool:=bw (fun k (x:List aX×List aX×((aX×aX)→Option Bool))=>Fy k x.1 x.2.1 x.2.2) (s1,s2,eq)
theorem adU:ax Tryz.prog S (RJ (Fx)):=cl (fun k x=>Fy k x.1 x.2.1 x.2.2) (fun _=>rfl) fun k=>
 b7 pk [] trivial Tryz.func115 [] k (fun k=> [(0,⟨[1,2,15,16,17],[o_,Pe,o_,q1,q1],fun x=>zc k x.1 x.2.1 x.2.2.1 x.2.2.2.1 x.2.2.2.2,false⟩)]) ⟨fun _=>rfl,trivial⟩ (fun _=>by kernel_rfl) (fun _=>by kernel_rfl) (by kernel_rfl)
abbrev Vl:=(List aX)→(List aX)→Option Bool
abbrev L4 (f:Vl):Entry S:=⟨74,[o_,o_],[q3],fun x=>f x.1 x.2⟩
def uI  (a:List aX) (b:List aX):Option Bool:=(Fx a b (fun y=>Aa y.1 y.2)).bind fun r1=>
 some r1
theorem Vk:ax Tryz.prog S (L4 (uI)):=
 nP pk ⟨[RJ Fx],[⟨116,[.st 2, .st 2],[],[.bool],fun x c=>Aa x.1 x.2⟩],false,false,none,[]⟩ ⟨adU,trivial⟩ (all_nil) (all_cons (eG.of (a:= [.st 2, .st 2]) (c:= []) (r:= [.bool]) Vi (fun _ _ z h=>⟨z,h,rfl⟩)) all_nil) Tryz.func74 [] 0 (fun k=> []) trivial (fun _=>by kernel_rfl) (fun _=>by kernel_rfl) (by kernel_rfl)
abbrev adR:=(List an)→(List an)→((an×an)→Option Bool)→Option Bool
abbrev Fs (f:adR):Entry S:=⟨146,[kP,kP,Pf],[q3],fun x=>f x.1 x.2.1 x.2.2⟩
def za:Nat→(List an)→((an×an)→Option Bool)→(List an)→Int→Int→Option Bool
 | 0,_,_,_,_,_=>none
 | k+1,s2,eq,bX,ez,aO=>if aO<ez then
  if 0≤aO then
  if aO<(bX.length:Int) then
  if 0≤aO then
  if aO<(s2.length:Int) then
  (eq (an.mk ((bX.getD aO.toNat an.z).Kind) ((bX.getD aO.toNat an.z).N) ((bX.getD aO.toNat an.z).Name) ((bX.getD aO.toNat an.z).Kids) ((bX.getD aO.toNat an.z).At),an.mk ((s2.getD aO.toNat an.z).Kind) ((s2.getD aO.toNat an.z).N) ((s2.getD aO.toNat an.z).Name) ((s2.getD aO.toNat an.z).Kids) ((s2.getD aO.toNat an.z).At))).bind fun r1=>
  bif !r1 then
  some false else
  za k s2 eq bX ez (aj (aO+1)) else none else none else none else none else
  some true
def Fq (k:Nat) (s1:List an) (s2:List an) (eq:(an×an)→Option Bool):Option Bool:=if (s1.length:Int)≠(s2.length:Int) then
 some false else
 za k s2 eq s1 (s1.length:Int) 0
def tS  (s1:List an) (s2:List an) (eq:(an×an)→Option Bool):Option Bool:=bw (fun k (x:List an×List an×((an×an)→Option Bool))=>Fq k x.1 x.2.1 x.2.2) (s1,s2,eq)
theorem Kg:ax Tryz.prog S (Fs (tS)):=cl (fun k x=>Fq k x.1 x.2.1 x.2.2) (fun _=>rfl) fun k=>
 b7 pk [] trivial Tryz.func146 [] k (fun k=> [(0,⟨[1,2,15,16,17],[kP,Pf,kP,q1,q1],fun x=>za k x.1 x.2.1 x.2.2.1 x.2.2.2.1 x.2.2.2.2,false⟩)]) ⟨fun _=>rfl,trivial⟩ (fun _=>by kernel_rfl) (fun _=>by kernel_rfl) (by kernel_rfl)
abbrev Hq:=an→an→Option Bool
abbrev Hp (f:Hq):Entry S:=⟨147,[lN,lN],[q3],fun x=>f x.1 x.2⟩
def Dc (Cc:Hq) (k:Nat) (a:an) (b:an):Option Bool:=if a.Kind=b.Kind then
 if a.N=b.N then
 if a.Name=b.Name then
 (tS a.Kids b.Kids (fun y=>Cc y.1 y.2)).bind fun r1=>
 some r1 else
 some false else
 some false else
 some false
def xg:Nat→an→an→Option Bool
 | 0,_,_=>none
 | k+1,x0,x1=>Dc (xg k) k x0 x1
def sJ  (a:an) (b:an):Option Bool:=bw (fun k (x:an×an)=>xg k x.1 x.2) (a,b)
theorem Wn (Cc:Hq) (k:Nat) (W5:ax Tryz.prog S (Hp Cc)):ax Tryz.prog S (Hp (Dc Cc k)):=
 nP pk ⟨[Fs tS],[⟨147,[.st 5, .st 5],[],[.bool],fun x c=>Cc x.1 x.2⟩],false,false,none,[]⟩ ⟨Kg,trivial⟩ (all_nil) (all_cons (eG.of (a:= [.st 5, .st 5]) (c:= []) (r:= [.bool]) W5 (fun _ _ z h=>⟨z,h,rfl⟩)) all_nil) Tryz.func147 [] k (fun k=> []) trivial (fun _=>by kernel_rfl) (fun _=>by kernel_rfl) (by kernel_rfl)
theorem MV:ax Tryz.prog S (Hp (sJ)):=kZ (fun k x=>xg k x.1 x.2) (fun _=>rfl) Tryz.func147 (by kernel_rfl) (fun _=>rfl) fun k h=>Wn (xg k) k h
abbrev zR:=(List ak)→(List ak)→Option Bool
abbrev uz (f:zR):Entry S:=⟨119,[pg,pg],[q3],fun x=>f x.1 x.2⟩
abbrev TZ:=ak→ak→Option Bool
abbrev TX (f:TZ):Entry S:=⟨145,[qI,qI],[q3],fun x=>f x.1 x.2⟩
def zQ (lY:zR)  (x:ak) (y:ak):Option Bool:=if x.Kind=y.Kind then
 if x.Name=y.Name then
 if x.Event=y.Event then
 if x.N=y.N then
 (tS x.X y.X (fun y=>sJ y.1 y.2)).bind fun r1=>
 bif r1 then
 (lY x.gh y.gh).bind fun r2=>
 bif r2 then
 (lY x.fG y.fG).bind fun r3=>
 some r3 else
 some false else
 some false else
 some false else
 some false else
 some false else
 some false
theorem TY (lY:zR) (HJ:ax Tryz.prog S (uz lY)):ax Tryz.prog S (TX (zQ lY)):=
 nP pk ⟨[Fs tS,uz lY],[⟨147,[.st 5, .st 5],[],[.bool],fun x c=>sJ x.1 x.2⟩],false,false,none,[]⟩ ⟨Kg,HJ,trivial⟩ (all_nil) (all_cons (eG.of (a:= [.st 5, .st 5]) (c:= []) (r:= [.bool]) MV (fun _ _ z h=>⟨z,h,rfl⟩)) all_nil) Tryz.func145 [] 0 (fun k=> []) trivial (fun _=>by kernel_rfl) (fun _=>by kernel_rfl) (by kernel_rfl)
abbrev adI:=(List ak)→(List ak)→((ak×ak)→Option Bool)→Option Bool
abbrev RD (f:adI):Entry S:=⟨144,[pg,pg,Pg],[q3],fun x=>f x.1 x.2.1 x.2.2⟩
def y6:Nat→(List ak)→((ak×ak)→Option Bool)→(List ak)→Int→Int→Option Bool
 | 0,_,_,_,_,_=>none
 | k+1,s2,eq,bX,ez,aO=>if aO<ez then
  if 0≤aO then
  if aO<(bX.length:Int) then
  if 0≤aO then
  if aO<(s2.length:Int) then
  (eq (ak.mk ((bX.getD aO.toNat ak.z).Kind) ((bX.getD aO.toNat ak.z).Name) ((bX.getD aO.toNat ak.z).Event) ((bX.getD aO.toNat ak.z).X) ((bX.getD aO.toNat ak.z).N) ((bX.getD aO.toNat ak.z).gh) ((bX.getD aO.toNat ak.z).fG) ((bX.getD aO.toNat ak.z).At),ak.mk ((s2.getD aO.toNat ak.z).Kind) ((s2.getD aO.toNat ak.z).Name) ((s2.getD aO.toNat ak.z).Event) ((s2.getD aO.toNat ak.z).X) ((s2.getD aO.toNat ak.z).N) ((s2.getD aO.toNat ak.z).gh) ((s2.getD aO.toNat ak.z).fG) ((s2.getD aO.toNat ak.z).At))).bind fun r1=>
  bif !r1 then
  some false else
  y6 k s2 eq bX ez (aj (aO+1)) else none else none else none else none else
  some true
def Ff (k:Nat) (s1:List ak) (s2:List ak) (eq:(ak×ak)→Option Bool):Option Bool:=if (s1.length:Int)≠(s2.length:Int) then
 some false else
 y6 k s2 eq s1 (s1.length:Int) 0
def Fc  (s1:List ak) (s2:List ak) (eq:(ak×ak)→Option Bool):Option Bool:=bw (fun k (x:List ak×List ak×((ak×ak)→Option Bool))=>Ff k x.1 x.2.1 x.2.2) (s1,s2,eq)
theorem adH:ax Tryz.prog S (RD (Fc)):=cl (fun k x=>Ff k x.1 x.2.1 x.2.2) (fun _=>rfl) fun k=>
 b7 pk [] trivial Tryz.func144 [] k (fun k=> [(0,⟨[1,2,15,16,17],[pg,Pg,pg,q1,q1],fun x=>y6 k x.1 x.2.1 x.2.2.1 x.2.2.2.1 x.2.2.2.2,false⟩)]) ⟨fun _=>rfl,trivial⟩ (fun _=>by kernel_rfl) (fun _=>by kernel_rfl) (by kernel_rfl)
def CO (lY:zR) (k:Nat) (a:List ak) (b:List ak):Option Bool:=(Fc a b (fun y=>zQ lY y.1 y.2)).bind fun r1=>
 some r1
def uy:Nat→(List ak)→(List ak)→Option Bool
 | 0,_,_=>none
 | k+1,x0,x1=>CO (uy k) k x0 x1
def ux  (a:List ak) (b:List ak):Option Bool:=bw (fun k (x:List ak×List ak)=>uy k x.1 x.2) (a,b)
theorem T3 (lY:zR) (k:Nat) (HJ:ax Tryz.prog S (uz lY)):ax Tryz.prog S (uz (CO lY k)):=
 nP pk ⟨[RD Fc],[⟨145,[.st 4, .st 4],[],[.bool],fun x c=>zQ lY x.1 x.2⟩],false,false,none,[]⟩ ⟨adH,trivial⟩ (all_nil) (all_cons (eG.of (a:= [.st 4, .st 4]) (c:= []) (r:= [.bool]) (TY lY HJ) (fun _ _ z h=>⟨z,h,rfl⟩)) all_nil) Tryz.func119 [] k (fun k=> []) trivial (fun _=>by kernel_rfl) (fun _=>by kernel_rfl) (by kernel_rfl)
theorem Li:ax Tryz.prog S (uz (ux)):=kZ (fun k x=>uy k x.1 x.2) (fun _=>rfl) Tryz.func119 (by kernel_rfl) (fun _=>rfl) fun k h=>T3 (uy k) k h
abbrev Vg:=aW→aW→Option Bool
abbrev Vd (f:Vg):Entry S:=⟨121,[DY,DY],[q3],fun x=>f x.1 x.2⟩
def z_  (x:aW) (y:aW):Option Bool:=if x.Event=y.Event then
 if x.Target=y.Target then
 (tS x.Guard y.Guard (fun y=>sJ y.1 y.2)).bind fun r1=>
 bif r1 then
 (ux x.uh y.uh).bind fun r2=>
 some r2 else
 some false else
 some false else
 some false
theorem Ve:ax Tryz.prog S (Vd (z_)):=
 nP pk ⟨[Fs tS,uz ux],[⟨147,[.st 5, .st 5],[],[.bool],fun x c=>sJ x.1 x.2⟩],false,false,none,[]⟩ ⟨Kg,Li,trivial⟩ (all_nil) (all_cons (eG.of (a:= [.st 5, .st 5]) (c:= []) (r:= [.bool]) MV (fun _ _ z h=>⟨z,h,rfl⟩)) all_nil) Tryz.func121 [] 0 (fun k=> []) trivial (fun _=>by kernel_rfl) (fun _=>by kernel_rfl) (by kernel_rfl)
abbrev adZ:=(List aW)→(List aW)→((aW×aW)→Option Bool)→Option Bool
abbrev RM (f:adZ):Entry S:=⟨120,[s6,s6,Ph],[q3],fun x=>f x.1 x.2.1 x.2.2⟩
def zf:Nat→(List aW)→((aW×aW)→Option Bool)→(List aW)→Int→Int→Option Bool
 | 0,_,_,_,_,_=>none
 | k+1,s2,eq,bX,ez,aO=>if aO<ez then
  if 0≤aO then
  if aO<(bX.length:Int) then
  if 0≤aO then
  if aO<(s2.length:Int) then
  (eq (bX.getD aO.toNat aW.z,s2.getD aO.toNat aW.z)).bind fun r1=>
  bif !r1 then
  some false else
  zf k s2 eq bX ez (aj (aO+1)) else none else none else none else none else
  some true
def FC (k:Nat) (s1:List aW) (s2:List aW) (eq:(aW×aW)→Option Bool):Option Bool:=if (s1.length:Int)≠(s2.length:Int) then
 some false else
 zf k s2 eq s1 (s1.length:Int) 0
def FB  (s1:List aW) (s2:List aW) (eq:(aW×aW)→Option Bool):Option Bool:=bw (fun k (x:List aW×List aW×((aW×aW)→Option Bool))=>FC k x.1 x.2.1 x.2.2) (s1,s2,eq)
theorem adY:ax Tryz.prog S (RM (FB)):=cl (fun k x=>FC k x.1 x.2.1 x.2.2) (fun _=>rfl) fun k=>
 b7 pk [] trivial Tryz.func120 [] k (fun k=> [(0,⟨[1,2,15,16,17],[s6,Ph,s6,q1,q1],fun x=>zf k x.1 x.2.1 x.2.2.1 x.2.2.2.1 x.2.2.2.2,false⟩)]) ⟨fun _=>rfl,trivial⟩ (fun _=>by kernel_rfl) (fun _=>by kernel_rfl) (by kernel_rfl)
abbrev Af:=(List aG)→(List aG)→Option Bool
abbrev w9 (f:Af):Entry S:=⟨75,[pn,pn],[q3],fun x=>f x.1 x.2⟩
abbrev VG:=aG→aG→Option Bool
abbrev VE (f:VG):Entry S:=⟨118,[D4,D4],[q3],fun x=>f x.1 x.2⟩
def Ae (nh:Af)  (x:aG) (y:aG):Option Bool:=if x.Kind=y.Kind then
 if x.Name=y.Name then
 (ux x.Entry y.Entry).bind fun r1=>
 bif r1 then
 (ux x.Exit y.Exit).bind fun r2=>
 bif r2 then
 (FB x.Trans y.Trans (fun y=>z_ y.1 y.2)).bind fun r3=>
 bif r3 then
 (nh x.Kids y.Kids).bind fun r4=>
 some r4 else
 some false else
 some false else
 some false else
 some false else
 some false
theorem VF (nh:Af) (HL:ax Tryz.prog S (w9 nh)):ax Tryz.prog S (VE (Ae nh)):=
 nP pk ⟨[uz ux,RM FB,w9 nh],[⟨121,[.st 6, .st 6],[],[.bool],fun x c=>z_ x.1 x.2⟩],false,false,none,[]⟩ ⟨Li,adY,HL,trivial⟩ (all_nil) (all_cons (eG.of (a:= [.st 6, .st 6]) (c:= []) (r:= [.bool]) Ve (fun _ _ z h=>⟨z,h,rfl⟩)) all_nil) Tryz.func118 [] 0 (fun k=> []) trivial (fun _=>by kernel_rfl) (fun _=>by kernel_rfl) (by kernel_rfl)
abbrev adX:=(List aG)→(List aG)→((aG×aG)→Option Bool)→Option Bool
abbrev RL (f:adX):Entry S:=⟨117,[pn,pn,Pj],[q3],fun x=>f x.1 x.2.1 x.2.2⟩
def zd:Nat→(List aG)→((aG×aG)→Option Bool)→(List aG)→Int→Int→Option Bool
 | 0,_,_,_,_,_=>none
 | k+1,s2,eq,bX,ez,aO=>if aO<ez then
  if 0≤aO then
  if aO<(bX.length:Int) then
  if 0≤aO then
  if aO<(s2.length:Int) then
  (eq (aG.mk ((bX.getD aO.toNat aG.z).Kind) ((bX.getD aO.toNat aG.z).Name) ((bX.getD aO.toNat aG.z).Entry) ((bX.getD aO.toNat aG.z).Exit) ((bX.getD aO.toNat aG.z).Trans) ((bX.getD aO.toNat aG.z).Kids) ((bX.getD aO.toNat aG.z).At),aG.mk ((s2.getD aO.toNat aG.z).Kind) ((s2.getD aO.toNat aG.z).Name) ((s2.getD aO.toNat aG.z).Entry) ((s2.getD aO.toNat aG.z).Exit) ((s2.getD aO.toNat aG.z).Trans) ((s2.getD aO.toNat aG.z).Kids) ((s2.getD aO.toNat aG.z).At))).bind fun r1=>
  bif !r1 then
  some false else
  zd k s2 eq bX ez (aj (aO+1)) else none else none else none else none else
  some true
def FA (k:Nat) (s1:List aG) (s2:List aG) (eq:(aG×aG)→Option Bool):Option Bool:=if (s1.length:Int)≠(s2.length:Int) then
 some false else
 zd k s2 eq s1 (s1.length:Int) 0
def Fz  (s1:List aG) (s2:List aG) (eq:(aG×aG)→Option Bool):Option Bool:=bw (fun k (x:List aG×List aG×((aG×aG)→Option Bool))=>FA k x.1 x.2.1 x.2.2) (s1,s2,eq)
theorem adW:ax Tryz.prog S (RL (Fz)):=cl (fun k x=>FA k x.1 x.2.1 x.2.2) (fun _=>rfl) fun k=>
 b7 pk [] trivial Tryz.func117 [] k (fun k=> [(0,⟨[1,2,15,16,17],[pn,Pj,pn,q1,q1],fun x=>zd k x.1 x.2.1 x.2.2.1 x.2.2.2.1 x.2.2.2.2,false⟩)]) ⟨fun _=>rfl,trivial⟩ (fun _=>by kernel_rfl) (fun _=>by kernel_rfl) (by kernel_rfl)
def C3 (nh:Af) (k:Nat) (a:List aG) (b:List aG):Option Bool:=(Fz a b (fun y=>Ae nh y.1 y.2)).bind fun r1=>
 some r1
def uN:Nat→(List aG)→(List aG)→Option Bool
 | 0,_,_=>none
 | k+1,x0,x1=>C3 (uN k) k x0 x1
def C2  (a:List aG) (b:List aG):Option Bool:=bw (fun k (x:List aG×List aG)=>uN k x.1 x.2) (a,b)
theorem VI (nh:Af) (k:Nat) (HL:ax Tryz.prog S (w9 nh)):ax Tryz.prog S (w9 (C3 nh k)):=
 nP pk ⟨[RL Fz],[⟨118,[.st 3, .st 3],[],[.bool],fun x c=>Ae nh x.1 x.2⟩],false,false,none,[]⟩ ⟨adW,trivial⟩ (all_nil) (all_cons (eG.of (a:= [.st 3, .st 3]) (c:= []) (r:= [.bool]) (VF nh HL) (fun _ _ z h=>⟨z,h,rfl⟩)) all_nil) Tryz.func75 [] k (fun k=> []) trivial (fun _=>by kernel_rfl) (fun _=>by kernel_rfl) (by kernel_rfl)
theorem VH:ax Tryz.prog S (w9 (C2)):=kZ (fun k x=>uN k x.1 x.2) (fun _=>rfl) Tryz.func75 (by kernel_rfl) (fun _=>rfl) fun k h=>VI (uN k) k h
abbrev Vc:=aZ→aZ→Option Bool
abbrev Va (f:Vc):Entry S:=⟨34,[sZ,sZ],[q3],fun x=>f x.1 x.2⟩
def z8  (a:aZ) (b:aZ):Option Bool:=if a.Name=b.Name then
 if a.Steps=b.Steps then
 if a.Fuel=b.Fuel then
 (uI a.Vars b.Vars).bind fun r1=>
 bif r1 then
 (uI a.wM b.wM).bind fun r2=>
 bif r2 then
 (uI a.wP b.wP).bind fun r3=>
 bif r3 then
 (C2 a.oH b.oH).bind fun r4=>
 some r4 else
 some false else
 some false else
 some false else
 some false else
 some false else
 some false
theorem Vb:ax Tryz.prog S (Va (z8)):=
 aY pk [L4 uI,w9 C2] ⟨Vk,VH,trivial⟩ Tryz.func34 (by kernel_rfl) (fun _=>by kernel_rfl) (by kernel_rfl)
abbrev adQ:=(List aZ)→(List aZ)→((aZ×aZ)→Option Bool)→Option Bool
abbrev RH (f:adQ):Entry S:=⟨33,[D5,D5,Pk],[q3],fun x=>f x.1 x.2.1 x.2.2⟩
def y_:Nat→(List aZ)→((aZ×aZ)→Option Bool)→(List aZ)→Int→Int→Option Bool
 | 0,_,_,_,_,_=>none
 | k+1,s2,eq,bX,ez,aO=>if aO<ez then
  if 0≤aO then
  if aO<(bX.length:Int) then
  if 0≤aO then
  if aO<(s2.length:Int) then
  (eq (bX.getD aO.toNat aZ.z,s2.getD aO.toNat aZ.z)).bind fun r1=>
  bif !r1 then
  some false else
  y_ k s2 eq bX ez (aj (aO+1)) else none else none else none else none else
  some true
def Fp (k:Nat) (s1:List aZ) (s2:List aZ) (eq:(aZ×aZ)→Option Bool):Option Bool:=if (s1.length:Int)≠(s2.length:Int) then
 some false else
 y_ k s2 eq s1 (s1.length:Int) 0
def Fo  (s1:List aZ) (s2:List aZ) (eq:(aZ×aZ)→Option Bool):Option Bool:=bw (fun k (x:List aZ×List aZ×((aZ×aZ)→Option Bool))=>Fp k x.1 x.2.1 x.2.2) (s1,s2,eq)
theorem adP:ax Tryz.prog S (RH (Fo)):=cl (fun k x=>Fp k x.1 x.2.1 x.2.2) (fun _=>rfl) fun k=>
 b7 pk [] trivial Tryz.func33 [] k (fun k=> [(0,⟨[1,2,15,16,17],[D5,Pk,D5,q1,q1],fun x=>y_ k x.1 x.2.1 x.2.2.1 x.2.2.2.1 x.2.2.2.2,false⟩)]) ⟨fun _=>rfl,trivial⟩ (fun _=>by kernel_rfl) (fun _=>by kernel_rfl) (by kernel_rfl)
abbrev aet:=bl→bl→Option Bool
abbrev aer (f:aet):Entry S:=⟨36,[DZ,DZ],[q3],fun x=>f x.1 x.2⟩
def Cm  (x:bl) (y:bl):Option Bool:=some (decide (x.Name=y.Name∧x.zB=y.zB∧x.zI=y.zI∧x.Ext=y.Ext∧x.Prio=y.Prio∧y.At=y.At))
theorem aes:ax Tryz.prog S (aer (Cm)):=
 aY pk [] trivial Tryz.func36 (by kernel_rfl) (fun _=>by kernel_rfl) (by kernel_rfl)
abbrev adT:=(List bl)→(List bl)→((bl×bl)→Option Bool)→Option Bool
abbrev RI (f:adT):Entry S:=⟨35,[D6,D6,Pm],[q3],fun x=>f x.1 x.2.1 x.2.2⟩
def zb:Nat→(List bl)→((bl×bl)→Option Bool)→(List bl)→Int→Int→Option Bool
 | 0,_,_,_,_,_=>none
 | k+1,s2,eq,bX,ez,aO=>if aO<ez then
  if 0≤aO then
  if aO<(bX.length:Int) then
  if 0≤aO then
  if aO<(s2.length:Int) then
  (eq (bX.getD aO.toNat bl.z,s2.getD aO.toNat bl.z)).bind fun r1=>
  bif !r1 then
  some false else
  zb k s2 eq bX ez (aj (aO+1)) else none else none else none else none else
  some true
def Fv (k:Nat) (s1:List bl) (s2:List bl) (eq:(bl×bl)→Option Bool):Option Bool:=if (s1.length:Int)≠(s2.length:Int) then
 some false else
 zb k s2 eq s1 (s1.length:Int) 0
def Ft  (s1:List bl) (s2:List bl) (eq:(bl×bl)→Option Bool):Option Bool:=bw (fun k (x:List bl×List bl×((bl×bl)→Option Bool))=>Fv k x.1 x.2.1 x.2.2) (s1,s2,eq)
theorem adS:ax Tryz.prog S (RI (Ft)):=cl (fun k x=>Fv k x.1 x.2.1 x.2.2) (fun _=>rfl) fun k=>
 b7 pk [] trivial Tryz.func35 [] k (fun k=> [(0,⟨[1,2,15,16,17],[D6,Pm,D6,q1,q1],fun x=>zb k x.1 x.2.1 x.2.2.1 x.2.2.2.1 x.2.2.2.2,false⟩)]) ⟨fun _=>rfl,trivial⟩ (fun _=>by kernel_rfl) (fun _=>by kernel_rfl) (by kernel_rfl)
abbrev aeq:=bk→bk→Option Bool
abbrev aeo (f:aeq):Entry S:=⟨38,[D0,D0],[q3],fun x=>f x.1 x.2⟩
def Cl  (x:bk) (y:bk):Option Bool:=some (decide (x.Name=y.Name∧x.cx=y.cx∧x.Port=y.Port∧x.To=y.To∧x.Cap=y.Cap∧x.Prio=y.Prio∧y.At=y.At))
theorem aep:ax Tryz.prog S (aeo (Cl)):=
 aY pk [] trivial Tryz.func38 (by kernel_rfl) (fun _=>by kernel_rfl) (by kernel_rfl)
abbrev adO:=(List bk)→(List bk)→((bk×bk)→Option Bool)→Option Bool
abbrev RG (f:adO):Entry S:=⟨37,[D7,D7,Pn],[q3],fun x=>f x.1 x.2.1 x.2.2⟩
def y9:Nat→(List bk)→((bk×bk)→Option Bool)→(List bk)→Int→Int→Option Bool
 | 0,_,_,_,_,_=>none
 | k+1,s2,eq,bX,ez,aO=>if aO<ez then
  if 0≤aO then
  if aO<(bX.length:Int) then
  if 0≤aO then
  if aO<(s2.length:Int) then
  (eq (bX.getD aO.toNat bk.z,s2.getD aO.toNat bk.z)).bind fun r1=>
  bif !r1 then
  some false else
  y9 k s2 eq bX ez (aj (aO+1)) else none else none else none else none else
  some true
def Fm (k:Nat) (s1:List bk) (s2:List bk) (eq:(bk×bk)→Option Bool):Option Bool:=if (s1.length:Int)≠(s2.length:Int) then
 some false else
 y9 k s2 eq s1 (s1.length:Int) 0
def Fk  (s1:List bk) (s2:List bk) (eq:(bk×bk)→Option Bool):Option Bool:=bw (fun k (x:List bk×List bk×((bk×bk)→Option Bool))=>Fm k x.1 x.2.1 x.2.2) (s1,s2,eq)
theorem adN:ax Tryz.prog S (RG (Fk)):=cl (fun k x=>Fm k x.1 x.2.1 x.2.2) (fun _=>rfl) fun k=>
 b7 pk [] trivial Tryz.func37 [] k (fun k=> [(0,⟨[1,2,15,16,17],[D7,Pn,D7,q1,q1],fun x=>y9 k x.1 x.2.1 x.2.2.1 x.2.2.2.1 x.2.2.2.2,false⟩)]) ⟨fun _=>rfl,trivial⟩ (fun _=>by kernel_rfl) (fun _=>by kernel_rfl) (by kernel_rfl)
abbrev ad3:=(List (List UInt8))→(List (List UInt8))→Option Bool
abbrev RO (f:ad3):Entry S:=⟨76,[qJ,qJ],[q3],fun x=>f x.1 x.2⟩
def zh:Nat→(List (List UInt8))→(List (List UInt8))→Int→Int→Option Bool
 | 0,_,_,_,_=>none
 | k+1,s1,s2,SU,ud=>if ud<SU then
  if 0≤ud then
  if ud<(s1.length:Int) then
  if 0≤ud then
  if ud<(s2.length:Int) then
  if (s1.getD ud.toNat [])≠(s2.getD ud.toNat []) then
  some false else
  zh k s1 s2 SU (aj (ud+1)) else none else none else none else none else
  some true
def FE (k:Nat) (s1:List (List UInt8)) (s2:List (List UInt8)):Option Bool:=if (s1.length:Int)≠(s2.length:Int) then
 some false else
 zh k s1 s2 (s1.length:Int) 0
def pV  (s1:List (List UInt8)) (s2:List (List UInt8)):Option Bool:=bw (fun k (x:List (List UInt8)×List (List UInt8))=>FE k x.1 x.2) (s1,s2)
theorem RP:ax Tryz.prog S (RO (pV)):=cl (fun k x=>FE k x.1 x.2) (fun _=>rfl) fun k=>
 b7 pk [] trivial Tryz.func76 [] k (fun k=> [(0,⟨[0,1,12,13],[qJ,qJ,q1,q1],fun x=>zh k x.1 x.2.1 x.2.2.1 x.2.2.2,false⟩)]) ⟨fun _=>rfl,trivial⟩ (fun _=>by kernel_rfl) (fun _=>by kernel_rfl) (by kernel_rfl)
abbrev ad1:=(List (List (List UInt8)))→(List (List (List UInt8)))→((List (List UInt8)×List (List UInt8))→Option Bool)→Option Bool
abbrev RN (f:ad1):Entry S:=⟨122,[s7,s7,Po],[q3],fun x=>f x.1 x.2.1 x.2.2⟩
def zg:Nat→(List (List (List UInt8)))→((List (List UInt8)×List (List UInt8))→Option Bool)→(List (List (List UInt8)))→Int→Int→Option Bool
 | 0,_,_,_,_,_=>none
 | k+1,s2,eq,bX,ez,aO=>if aO<ez then
  if 0≤aO then
  if aO<(bX.length:Int) then
  if 0≤aO then
  if aO<(s2.length:Int) then
  (eq (bX.getD aO.toNat [],s2.getD aO.toNat [])).bind fun r1=>
  bif !r1 then
  some false else
  zg k s2 eq bX ez (aj (aO+1)) else none else none else none else none else
  some true
def FD (k:Nat) (s1:List (List (List UInt8))) (s2:List (List (List UInt8))) (eq:(List (List UInt8)×List (List UInt8))→Option Bool):Option Bool:=if (s1.length:Int)≠(s2.length:Int) then
 some false else
 zg k s2 eq s1 (s1.length:Int) 0
def Cf  (s1:List (List (List UInt8))) (s2:List (List (List UInt8))) (eq:(List (List UInt8)×List (List UInt8))→Option Bool):Option Bool:=bw (fun k (x:List (List (List UInt8))×List (List (List UInt8))×((List (List UInt8)×List (List UInt8))→Option Bool))=>FD k x.1 x.2.1 x.2.2) (s1,s2,eq)
theorem ad0:ax Tryz.prog S (RN (Cf)):=cl (fun k x=>FD k x.1 x.2.1 x.2.2) (fun _=>rfl) fun k=>
 b7 pk [] trivial Tryz.func122 [] k (fun k=> [(0,⟨[1,2,15,16,17],[s7,Po,s7,q1,q1],fun x=>zg k x.1 x.2.1 x.2.2.1 x.2.2.2.1 x.2.2.2.2,false⟩)]) ⟨fun _=>rfl,trivial⟩ (fun _=>by kernel_rfl) (fun _=>by kernel_rfl) (by kernel_rfl)
abbrev aek:=bL→bL→Option Bool
abbrev aei (f:aek):Entry S:=⟨78,[D1,D1],[q3],fun x=>f x.1 x.2⟩
def Cj  (x:bL) (y:bL):Option Bool:=if x.zJ=y.zJ then
 (Cf x.Sets y.Sets (fun y=>pV y.1 y.2)).bind fun r1=>
 bif r1 then
 (Cf x.um y.um (fun y=>pV y.1 y.2)).bind fun r2=>
 some r2 else
 some false else
 some false
theorem aej:ax Tryz.prog S (aei (Cj)):=
 nP pk ⟨[RN Cf],[⟨76,[.sl .str, .sl .str],[],[.bool],fun x c=>pV x.1 x.2⟩],false,false,none,[]⟩ ⟨ad0,trivial⟩ (all_nil) (all_cons (eG.of (a:= [.sl .str, .sl .str]) (c:= []) (r:= [.bool]) RP (fun _ _ z h=>⟨z,h,rfl⟩)) all_nil) Tryz.func78 [] 0 (fun k=> []) trivial (fun _=>by kernel_rfl) (fun _=>by kernel_rfl) (by kernel_rfl)
abbrev adK:=(List bL)→(List bL)→((bL×bL)→Option Bool)→Option Bool
abbrev RE (f:adK):Entry S:=⟨77,[D8,D8,Pp],[q3],fun x=>f x.1 x.2.1 x.2.2⟩
def y7:Nat→(List bL)→((bL×bL)→Option Bool)→(List bL)→Int→Int→Option Bool
 | 0,_,_,_,_,_=>none
 | k+1,s2,eq,bX,ez,aO=>if aO<ez then
  if 0≤aO then
  if aO<(bX.length:Int) then
  if 0≤aO then
  if aO<(s2.length:Int) then
  (eq (bX.getD aO.toNat bL.z,s2.getD aO.toNat bL.z)).bind fun r1=>
  bif !r1 then
  some false else
  y7 k s2 eq bX ez (aj (aO+1)) else none else none else none else none else
  some true
def Fh (k:Nat) (s1:List bL) (s2:List bL) (eq:(bL×bL)→Option Bool):Option Bool:=if (s1.length:Int)≠(s2.length:Int) then
 some false else
 y7 k s2 eq s1 (s1.length:Int) 0
def Fg  (s1:List bL) (s2:List bL) (eq:(bL×bL)→Option Bool):Option Bool:=bw (fun k (x:List bL×List bL×((bL×bL)→Option Bool))=>Fh k x.1 x.2.1 x.2.2) (s1,s2,eq)
theorem adJ:ax Tryz.prog S (RE (Fg)):=cl (fun k x=>Fh k x.1 x.2.1 x.2.2) (fun _=>rfl) fun k=>
 b7 pk [] trivial Tryz.func77 [] k (fun k=> [(0,⟨[1,2,15,16,17],[D8,Pp,D8,q1,q1],fun x=>y7 k x.1 x.2.1 x.2.2.1 x.2.2.2.1 x.2.2.2.2,false⟩)]) ⟨fun _=>rfl,trivial⟩ (fun _=>by kernel_rfl) (fun _=>by kernel_rfl) (by kernel_rfl)
abbrev aen:=a_→a_→Option Bool
abbrev ael (f:aen):Entry S:=⟨40,[xQ,xQ],[q3],fun x=>f x.1 x.2⟩
def Ck  (x:a_) (y:a_):Option Bool:=if x.Name=y.Name then
 if x.qg=y.qg then
 if x.qh=y.qh then
 if x.qi=y.qi then
 (pV x.Insts y.Insts).bind fun r1=>
 bif r1 then
 (pV x.eg y.eg).bind fun r2=>
 bif r2 then
 (Fg x.Cells y.Cells (fun y=>Cj y.1 y.2)).bind fun r3=>
 some r3 else
 some false else
 some false else
 some false else
 some false else
 some false else
 some false
theorem aem:ax Tryz.prog S (ael (Ck)):=
 nP pk ⟨[RO pV,RE Fg],[⟨78,[.st 10, .st 10],[],[.bool],fun x c=>Cj x.1 x.2⟩],false,false,none,[]⟩ ⟨RP,adJ,trivial⟩ (all_nil) (all_cons (eG.of (a:= [.st 10, .st 10]) (c:= []) (r:= [.bool]) aej (fun _ _ z h=>⟨z,h,rfl⟩)) all_nil) Tryz.func40 [] 0 (fun k=> []) trivial (fun _=>by kernel_rfl) (fun _=>by kernel_rfl) (by kernel_rfl)
abbrev adM:=(List a_)→(List a_)→((a_×a_)→Option Bool)→Option Bool
abbrev RF (f:adM):Entry S:=⟨39,[D9,D9,Pq],[q3],fun x=>f x.1 x.2.1 x.2.2⟩
def y8:Nat→(List a_)→((a_×a_)→Option Bool)→(List a_)→Int→Int→Option Bool
 | 0,_,_,_,_,_=>none
 | k+1,s2,eq,bX,ez,aO=>if aO<ez then
  if 0≤aO then
  if aO<(bX.length:Int) then
  if 0≤aO then
  if aO<(s2.length:Int) then
  (eq (bX.getD aO.toNat a_.z,s2.getD aO.toNat a_.z)).bind fun r1=>
  bif !r1 then
  some false else
  y8 k s2 eq bX ez (aj (aO+1)) else none else none else none else none else
  some true
def Fj (k:Nat) (s1:List a_) (s2:List a_) (eq:(a_×a_)→Option Bool):Option Bool:=if (s1.length:Int)≠(s2.length:Int) then
 some false else
 y8 k s2 eq s1 (s1.length:Int) 0
def Fi  (s1:List a_) (s2:List a_) (eq:(a_×a_)→Option Bool):Option Bool:=bw (fun k (x:List a_×List a_×((a_×a_)→Option Bool))=>Fj k x.1 x.2.1 x.2.2) (s1,s2,eq)
theorem adL:ax Tryz.prog S (RF (Fi)):=cl (fun k x=>Fj k x.1 x.2.1 x.2.2) (fun _=>rfl) fun k=>
 b7 pk [] trivial Tryz.func39 [] k (fun k=> [(0,⟨[1,2,15,16,17],[D9,Pq,D9,q1,q1],fun x=>y8 k x.1 x.2.1 x.2.2.1 x.2.2.2.1 x.2.2.2.2,false⟩)]) ⟨fun _=>rfl,trivial⟩ (fun _=>by kernel_rfl) (fun _=>by kernel_rfl) (by kernel_rfl)
abbrev aeh:=bP→bP→Option Bool
abbrev RY (f:aeh):Entry S:=⟨13,[vz,vz],[q3],fun x=>f x.1 x.2⟩
def zi  (a:bP) (b:bP):Option Bool:=if a.jF=b.jF then
 (Fo a.gy b.gy (fun y=>z8 y.1 y.2)).bind fun r1=>
 bif r1 then
 (Ft a.Insts b.Insts (fun y=>Cm y.1 y.2)).bind fun r2=>
 bif r2 then
 (Fk a.eg b.eg (fun y=>Cl y.1 y.2)).bind fun r3=>
 bif r3 then
 (Fi a.fM b.fM (fun y=>Ck y.1 y.2)).bind fun r4=>
 some r4 else
 some false else
 some false else
 some false else
 some false
theorem aeg:ax Tryz.prog S (RY (zi)):=
 nP pk ⟨[RH Fo,RI Ft,RG Fk,RF Fi],[⟨34,[.st 1, .st 1],[],[.bool],fun x c=>z8 x.1 x.2⟩,⟨36,[.st 7, .st 7],[],[.bool],fun x c=>Cm x.1 x.2⟩,⟨38,[.st 8, .st 8],[],[.bool],fun x c=>Cl x.1 x.2⟩,⟨40,[.st 9, .st 9],[],[.bool],fun x c=>Ck x.1 x.2⟩],false,false,none,[]⟩ ⟨adP,adS,adN,adL,trivial⟩ (all_nil) (all_cons (eG.of (a:= [.st 1, .st 1]) (c:= []) (r:= [.bool]) Vb (fun _ _ z h=>⟨z,h,rfl⟩)) (all_cons (eG.of (a:= [.st 7, .st 7]) (c:= []) (r:= [.bool]) aes (fun _ _ z h=>⟨z,h,rfl⟩)) (all_cons (eG.of (a:= [.st 8, .st 8]) (c:= []) (r:= [.bool]) aep (fun _ _ z h=>⟨z,h,rfl⟩)) (all_cons (eG.of (a:= [.st 9, .st 9]) (c:= []) (r:= [.bool]) aem (fun _ _ z h=>⟨z,h,rfl⟩)) all_nil)))) Tryz.func13 [] 0 (fun k=> []) trivial (fun _=>by kernel_rfl) (fun _=>by kernel_rfl) (by kernel_rfl)
abbrev acP:=(List aX)→(List aX)→Option Bool
abbrev QK (f:acP):Entry S:=⟨79,[o_,o_],[q3],fun x=>f x.1 x.2⟩
def yS:Nat→(List aX)→(List aX)→Int→Option Bool
 | 0,_,_,_=>none
 | k+1,a,b,i=>if i<(a.length:Int) then
  if 0≤i then
  if i<(a.length:Int) then
  if 0≤i then
  if i<(b.length:Int) then
  if ((a.getD i.toNat aX.z).Name)≠((b.getD i.toNat aX.z).Name) then
  some false else
  if 0≤i then
  if i<(a.length:Int) then
  if 0≤i then
  if i<(b.length:Int) then
  if ((a.getD i.toNat aX.z).N)≠((b.getD i.toNat aX.z).N) then
  some false else
  yS k a b (aj (i+1)) else none else none else none else none else none else none else none else none else
  some true
def EZ (k:Nat) (a:List aX) (b:List aX):Option Bool:=if (a.length:Int)≠(b.length:Int) then some false else yS k a b 0
def yR  (a:List aX) (b:List aX):Option Bool:=bw (fun k (x:List aX×List aX)=>EZ k x.1 x.2) (a,b)
theorem acO:ax Tryz.prog S (QK (yR)):=cl (fun k x=>EZ k x.1 x.2) (fun _=>rfl) fun k=>
 b7 pk [] trivial Tryz.func79 [] k (fun k=> [(0,⟨[0,1,5],[o_,o_,q1],fun x=>yS k x.1 x.2.1 x.2.2,false⟩)]) ⟨fun _=>rfl,trivial⟩ (fun _=>by kernel_rfl) (fun _=>by kernel_rfl) (by kernel_rfl)
abbrev EP:=an→an→Option Bool
abbrev BR (f:EP):Entry S:=⟨164,[lN,lN],[q3],fun x=>f x.1 x.2⟩
def yx (rI:EP):Nat→Int→Int→(List UInt8)→(List an)→Int→Int→Int→(List UInt8)→(List an)→Int→Int→Option Bool
 | 0,_,_,_,_,_,_,_,_,_,_,_=>none
 | k+1,Gm,Gn,zP,CN,zO,UC,UD,GI,GH,GG,i=>if i<(CN.length:Int) then
  if 0≤i then
  if i<(CN.length:Int) then
  if 0≤i then
  if i<(GH.length:Int) then
  (rI (CN.getD i.toNat an.z) (GH.getD i.toNat an.z)).bind fun r1=>
  bif !r1 then
  some false else
  yx rI k Gm Gn zP CN zO UC UD GI GH GG (aj (i+1)) else none else none else none else none else
  some true
def EO (rI:EP) (k:Nat) (a:an) (b:an):Option Bool:=if a.Kind≠b.Kind then
 some false else
 if a.N≠b.N then
 some false else
 if a.Name≠b.Name then
 some false else
 if (a.Kids.length:Int)≠(b.Kids.length:Int) then
 some false else
 yx rI k a.Kind a.N a.Name a.Kids a.At b.Kind b.N b.Name b.Kids b.At 0
def v_:Nat→an→an→Option Bool
 | 0,_,_=>none
 | k+1,x0,x1=>EO (v_ k) k x0 x1
def EN  (a:an) (b:an):Option Bool:=bw (fun k (x:an×an)=>v_ k x.1 x.2) (a,b)
theorem abQ (rI:EP) (k:Nat) (W7:ax Tryz.prog S (BR rI)):ax Tryz.prog S (BR (EO rI k)):=
 b7 pk [BR rI] ⟨W7,trivial⟩ Tryz.func164 [] k (fun k=> [(0,⟨[2,3,5],[Bm,Bm,q1],fun x=>yx rI k x.1.1 x.1.2.1 x.1.2.2.1 x.1.2.2.2.1 x.1.2.2.2.2 x.2.1.1 x.2.1.2.1 x.2.1.2.2.1 x.2.1.2.2.2.1 x.2.1.2.2.2.2 x.2.2,false⟩)]) ⟨fun _=>rfl,trivial⟩ (fun _=>by kernel_rfl) (fun _=>by kernel_rfl) (by kernel_rfl)
theorem abP:ax Tryz.prog S (BR (EN)):=kZ (fun k x=>v_ k x.1 x.2) (fun _=>rfl) Tryz.func164 (by kernel_rfl) (fun _=>rfl) fun k h=>abQ (v_ k) k h
abbrev abN:=(List an)→(List an)→Option Bool
abbrev JH (f:abN):Entry S:=⟨148,[kP,kP],[q3],fun x=>f x.1 x.2⟩
def yw:Nat→(List an)→(List an)→Int→Option Bool
 | 0,_,_,_=>none
 | k+1,a,b,i=>if i<(a.length:Int) then
  if 0≤i then
  if i<(a.length:Int) then
  if 0≤i then
  if i<(b.length:Int) then
  (EN (a.getD i.toNat an.z) (b.getD i.toNat an.z)).bind fun r1=>
  bif !r1 then
  some false else
  yw k a b (aj (i+1)) else none else none else none else none else
  some true
def EL (k:Nat) (a:List an) (b:List an):Option Bool:=if (a.length:Int)≠(b.length:Int) then some false else yw k a b 0
def yu  (a:List an) (b:List an):Option Bool:=bw (fun k (x:List an×List an)=>EL k x.1 x.2) (a,b)
theorem Qh:ax Tryz.prog S (JH (yu)):=cl (fun k x=>EL k x.1 x.2) (fun _=>rfl) fun k=>
 b7 pk [BR EN] ⟨abP,trivial⟩ Tryz.func148 [] k (fun k=> [(0,⟨[0,1,5],[kP,kP,q1],fun x=>yw k x.1 x.2.1 x.2.2,false⟩)]) ⟨fun _=>rfl,trivial⟩ (fun _=>by kernel_rfl) (fun _=>by kernel_rfl) (by kernel_rfl)
abbrev EV:=(List ak)→(List ak)→Option Bool
abbrev yz (f:EV):Entry S:=⟨123,[pg,pg],[q3],fun x=>f x.1 x.2⟩
def yA (pU:EV):Nat→(List ak)→(List ak)→Int→Option Bool
 | 0,_,_,_=>none
 | k+1,a,b,i=>if i<(a.length:Int) then
  if 0≤i then
  if i<(a.length:Int) then
  if 0≤i then
  if i<(b.length:Int) then
  if ((a.getD i.toNat ak.z).Kind)≠((b.getD i.toNat ak.z).Kind) then
  some false else
  if ((a.getD i.toNat ak.z).Name)≠((b.getD i.toNat ak.z).Name) then
  some false else
  if ((a.getD i.toNat ak.z).Event)≠((b.getD i.toNat ak.z).Event) then
  some false else
  if ((a.getD i.toNat ak.z).N)≠((b.getD i.toNat ak.z).N) then
  some false else
  (yu ((a.getD i.toNat ak.z).X) ((b.getD i.toNat ak.z).X)).bind fun r1=>
  bif !r1 then
  some false else
  (pU ((a.getD i.toNat ak.z).gh) ((b.getD i.toNat ak.z).gh)).bind fun r2=>
  bif !r2 then
  some false else
  (pU ((a.getD i.toNat ak.z).fG) ((b.getD i.toNat ak.z).fG)).bind fun r3=>
  bif !r3 then
  some false else
  yA pU k a b (aj (i+1)) else none else none else none else none else
  some true
def EU (pU:EV) (k:Nat) (a:List ak) (b:List ak):Option Bool:=if (a.length:Int)≠(b.length:Int) then
 some false else
 yA pU k a b 0
def we:Nat→(List ak)→(List ak)→Option Bool
 | 0,_,_=>none
 | k+1,x0,x1=>EU (we k) k x0 x1
def tA  (a:List ak) (b:List ak):Option Bool:=bw (fun k (x:List ak×List ak)=>we k x.1 x.2) (a,b)
theorem ab8 (pU:EV) (k:Nat) (W9:ax Tryz.prog S (yz pU)):ax Tryz.prog S (yz (EU pU k)):=
 b7 pk [JH yu,yz pU] ⟨Qh,W9,trivial⟩ Tryz.func123 [] k (fun k=> [(0,⟨[0,1,5],[pg,pg,q1],fun x=>yA pU k x.1 x.2.1 x.2.2,false⟩)]) ⟨fun _=>rfl,trivial⟩ (fun _=>by kernel_rfl) (fun _=>by kernel_rfl) (by kernel_rfl)
theorem Qq:ax Tryz.prog S (yz (tA)):=kZ (fun k x=>we k x.1 x.2) (fun _=>rfl) Tryz.func123 (by kernel_rfl) (fun _=>rfl) fun k h=>ab8 (we k) k h
abbrev acT:=(List aW)→(List aW)→Option Bool
abbrev QO (f:acT):Entry S:=⟨124,[s6,s6],[q3],fun x=>f x.1 x.2⟩
def yU:Nat→(List aW)→(List aW)→Int→Option Bool
 | 0,_,_,_=>none
 | k+1,a,b,i=>if i<(a.length:Int) then
  if 0≤i then
  if i<(a.length:Int) then
  if 0≤i then
  if i<(b.length:Int) then
  if ((a.getD i.toNat aW.z).Event)≠((b.getD i.toNat aW.z).Event) then
  some false else
  if 0≤i then
  if i<(a.length:Int) then
  if 0≤i then
  if i<(b.length:Int) then
  if ((a.getD i.toNat aW.z).Target)≠((b.getD i.toNat aW.z).Target) then
  some false else
  if 0≤i then
  if i<(a.length:Int) then
  if 0≤i then
  if i<(b.length:Int) then
  (yu ((a.getD i.toNat aW.z).Guard) ((b.getD i.toNat aW.z).Guard)).bind fun r1=>
  bif !r1 then
  some false else
  if 0≤i then
  if i<(a.length:Int) then
  if 0≤i then
  if i<(b.length:Int) then
  (tA ((a.getD i.toNat aW.z).uh) ((b.getD i.toNat aW.z).uh)).bind fun r2=>
  bif !r2 then
  some false else
  yU k a b (aj (i+1)) else none else none else none else none else none else none else none else none else none else none else none else none else none else none else none else none else
  some true
def E4 (k:Nat) (a:List aW) (b:List aW):Option Bool:=if (a.length:Int)≠(b.length:Int) then some false else yU k a b 0
def E3  (a:List aW) (b:List aW):Option Bool:=bw (fun k (x:List aW×List aW)=>E4 k x.1 x.2) (a,b)
theorem acS:ax Tryz.prog S (QO (E3)):=cl (fun k x=>E4 k x.1 x.2) (fun _=>rfl) fun k=>
 b7 pk [JH yu,yz tA] ⟨Qh,Qq,trivial⟩ Tryz.func124 [] k (fun k=> [(0,⟨[0,1,5],[s6,s6,q1],fun x=>yU k x.1 x.2.1 x.2.2,false⟩)]) ⟨fun _=>rfl,trivial⟩ (fun _=>by kernel_rfl) (fun _=>by kernel_rfl) (by kernel_rfl)
abbrev E2:=(List aG)→(List aG)→Option Bool
abbrev B_ (f:E2):Entry S:=⟨80,[pn,pn],[q3],fun x=>f x.1 x.2⟩
def yT (rJ:E2):Nat→(List aG)→(List aG)→Int→Option Bool
 | 0,_,_,_=>none
 | k+1,a,b,i=>if i<(a.length:Int) then
  if 0≤i then
  if i<(a.length:Int) then
  if 0≤i then
  if i<(b.length:Int) then
  if ((a.getD i.toNat aG.z).Kind)≠((b.getD i.toNat aG.z).Kind) then
  some false else
  if ((a.getD i.toNat aG.z).Name)≠((b.getD i.toNat aG.z).Name) then
  some false else
  (tA ((a.getD i.toNat aG.z).Entry) ((b.getD i.toNat aG.z).Entry)).bind fun r1=>
  bif !r1 then
  some false else
  (tA ((a.getD i.toNat aG.z).Exit) ((b.getD i.toNat aG.z).Exit)).bind fun r2=>
  bif !r2 then
  some false else
  (E3 ((a.getD i.toNat aG.z).Trans) ((b.getD i.toNat aG.z).Trans)).bind fun r3=>
  bif !r3 then
  some false else
  (rJ ((a.getD i.toNat aG.z).Kids) ((b.getD i.toNat aG.z).Kids)).bind fun r4=>
  bif !r4 then
  some false else
  yT rJ k a b (aj (i+1)) else none else none else none else none else
  some true
def E1 (rJ:E2) (k:Nat) (a:List aG) (b:List aG):Option Bool:=if (a.length:Int)≠(b.length:Int) then
 some false else
 yT rJ k a b 0
def wu:Nat→(List aG)→(List aG)→Option Bool
 | 0,_,_=>none
 | k+1,x0,x1=>E1 (wu k) k x0 x1
def E0  (a:List aG) (b:List aG):Option Bool:=bw (fun k (x:List aG×List aG)=>wu k x.1 x.2) (a,b)
theorem acR (rJ:E2) (k:Nat) (W_:ax Tryz.prog S (B_ rJ)):ax Tryz.prog S (B_ (E1 rJ k)):=
 b7 pk [yz tA,QO E3,B_ rJ] ⟨Qq,acS,W_,trivial⟩ Tryz.func80 [] k (fun k=> [(0,⟨[0,1,5],[pn,pn,q1],fun x=>yT rJ k x.1 x.2.1 x.2.2,false⟩)]) ⟨fun _=>rfl,trivial⟩ (fun _=>by kernel_rfl) (fun _=>by kernel_rfl) (by kernel_rfl)
theorem acQ:ax Tryz.prog S (B_ (E0)):=kZ (fun k x=>wu k x.1 x.2) (fun _=>rfl) Tryz.func80 (by kernel_rfl) (fun _=>rfl) fun k h=>acR (wu k) k h
abbrev acu:=aZ→aZ→Option Bool
abbrev Qy (f:acu):Entry S:=⟨41,[sZ,sZ],[q3],fun x=>f x.1 x.2⟩
def BZ  (a:aZ) (b:aZ):Option Bool:=if a.Name=b.Name then
 if a.Steps=b.Steps then
 if a.Fuel=b.Fuel then
 (yR a.Vars b.Vars).bind fun r1=>
 bif r1 then
 (yR a.wM b.wM).bind fun r2=>
 bif r2 then
 (yR a.wP b.wP).bind fun r3=>
 bif r3 then
 (E0 a.oH b.oH).bind fun r4=>
 some r4 else
 some false else
 some false else
 some false else
 some false else
 some false else
 some false
theorem acs:ax Tryz.prog S (Qy (BZ)):=
 aY pk [QK yR,B_ E0] ⟨acO,acQ,trivial⟩ Tryz.func41 (by kernel_rfl) (fun _=>by kernel_rfl) (by kernel_rfl)
abbrev aa3:=(List (List UInt8))→(List (List UInt8))→Option Bool
abbrev JC (f:aa3):Entry S:=⟨81,[qJ,qJ],[q3],fun x=>f x.1 x.2⟩
def x_:Nat→(List (List UInt8))→(List (List UInt8))→Int→Option Bool
 | 0,_,_,_=>none
 | k+1,a,b,i=>if i<(a.length:Int) then
  if 0≤i then
  if i<(a.length:Int) then
  if 0≤i then
  if i<(b.length:Int) then
  if (a.getD i.toNat [])≠(b.getD i.toNat []) then
  some false else
  x_ k a b (aj (i+1)) else none else none else none else none else
  some true
def Ey (k:Nat) (a:List (List UInt8)) (b:List (List UInt8)):Option Bool:=if (a.length:Int)≠(b.length:Int) then some false else x_ k a b 0
def vK  (a:List (List UInt8)) (b:List (List UInt8)):Option Bool:=bw (fun k (x:List (List UInt8)×List (List UInt8))=>Ey k x.1 x.2) (a,b)
theorem PV:ax Tryz.prog S (JC (vK)):=cl (fun k x=>Ey k x.1 x.2) (fun _=>rfl) fun k=>
 b7 pk [] trivial Tryz.func81 [] k (fun k=> [(0,⟨[0,1,5],[qJ,qJ,q1],fun x=>x_ k x.1 x.2.1 x.2.2,false⟩)]) ⟨fun _=>rfl,trivial⟩ (fun _=>by kernel_rfl) (fun _=>by kernel_rfl) (by kernel_rfl)
abbrev abr:=(List (List (List UInt8)))→(List (List (List UInt8)))→Option Bool
abbrev P5 (f:abr):Entry S:=⟨82,[s7,s7],[q3],fun x=>f x.1 x.2⟩
def yj:Nat→(List (List (List UInt8)))→(List (List (List UInt8)))→Int→Option Bool
 | 0,_,_,_=>none
 | k+1,a,b,i=>if i<(a.length:Int) then
  if 0≤i then
  if i<(a.length:Int) then
  if 0≤i then
  if i<(b.length:Int) then
  (vK (a.getD i.toNat []) (b.getD i.toNat [])).bind fun r1=>
  bif !r1 then
  some false else
  yj k a b (aj (i+1)) else none else none else none else none else
  some true
def ED (k:Nat) (a:List (List (List UInt8))) (b:List (List (List UInt8))):Option Bool:=if (a.length:Int)≠(b.length:Int) then some false else yj k a b 0
def BO  (a:List (List (List UInt8))) (b:List (List (List UInt8))):Option Bool:=bw (fun k (x:List (List (List UInt8))×List (List (List UInt8)))=>ED k x.1 x.2) (a,b)
theorem abq:ax Tryz.prog S (P5 (BO)):=cl (fun k x=>ED k x.1 x.2) (fun _=>rfl) fun k=>
 b7 pk [JC vK] ⟨PV,trivial⟩ Tryz.func82 [] k (fun k=> [(0,⟨[0,1,5],[s7,s7,q1],fun x=>yj k x.1 x.2.1 x.2.2,false⟩)]) ⟨fun _=>rfl,trivial⟩ (fun _=>by kernel_rfl) (fun _=>by kernel_rfl) (by kernel_rfl)
abbrev aa5:=a_→a_→Option Bool
abbrev PW (f:aa5):Entry S:=⟨42,[xQ,xQ],[q3],fun x=>f x.1 x.2⟩
def yc:Nat→(List UInt8)→(List UInt8)→(List UInt8)→(List UInt8)→(List (List UInt8))→(List (List UInt8))→(List bL)→Int→(List UInt8)→(List UInt8)→(List UInt8)→(List UInt8)→(List (List UInt8))→(List (List UInt8))→(List bL)→Int→Int→Option Bool
 | 0,_,_,_,_,_,_,_,_,_,_,_,_,_,_,_,_,_=>none
 | k+1,zP,TQ,TR,TS,iy,g_,su,zO,GI,UB,UE,UF,iR,iB,uF,GG,i=>if i<(su.length:Int) then
  if 0≤i then
  if i<(su.length:Int) then
  if 0≤i then
  if i<(uF.length:Int) then
  if ((su.getD i.toNat bL.z).zJ)≠((uF.getD i.toNat bL.z).zJ) then
  some false else
  if 0≤i then
  if i<(su.length:Int) then
  if 0≤i then
  if i<(uF.length:Int) then
  (BO ((su.getD i.toNat bL.z).Sets) ((uF.getD i.toNat bL.z).Sets)).bind fun r3=>
  bif !r3 then
  some false else
  if 0≤i then
  if i<(su.length:Int) then
  if 0≤i then
  if i<(uF.length:Int) then
  (BO ((su.getD i.toNat bL.z).um) ((uF.getD i.toNat bL.z).um)).bind fun r4=>
  bif !r4 then
  some false else
  yc k zP TQ TR TS iy g_ su zO GI UB UE UF iR iB uF GG (aj (i+1)) else none else none else none else none else none else none else none else none else none else none else none else none else
  some true
def EA (k:Nat) (a:a_) (b:a_):Option Bool:=if a.Name≠b.Name then
 some false else
 if a.qg≠b.qg then
 some false else
 if a.qh≠b.qh then
 some false else
 if a.qi≠b.qi then
 some false else
 (vK a.Insts b.Insts).bind fun r1=>
 bif !r1 then
 some false else
 (vK a.eg b.eg).bind fun r2=>
 bif !r2 then
 some false else
 if (a.Cells.length:Int)≠(b.Cells.length:Int) then
 some false else
 yc k a.Name a.qg a.qh a.qi a.Insts a.eg a.Cells a.At b.Name b.qg b.qh b.qi b.Insts b.eg b.Cells b.At 0
def Ez  (a:a_) (b:a_):Option Bool:=bw (fun k (x:a_×a_)=>EA k x.1 x.2) (a,b)
theorem aa4:ax Tryz.prog S (PW (Ez)):=cl (fun k x=>EA k x.1 x.2) (fun _=>rfl) fun k=>
 b7 pk [JC vK,P5 BO] ⟨PV,abq,trivial⟩ Tryz.func42 [] k (fun k=> [(0,⟨[2,3,5],[Pr,Pr,q1],fun x=>yc k x.1.1 x.1.2.1 x.1.2.2.1 x.1.2.2.2.1 x.1.2.2.2.2.1 x.1.2.2.2.2.2.1 x.1.2.2.2.2.2.2.1 x.1.2.2.2.2.2.2.2 x.2.1.1 x.2.1.2.1 x.2.1.2.2.1 x.2.1.2.2.2.1 x.2.1.2.2.2.2.1 x.2.1.2.2.2.2.2.1 x.2.1.2.2.2.2.2.2.1 x.2.1.2.2.2.2.2.2.2 x.2.2,false⟩)]) ⟨fun _=>rfl,trivial⟩ (fun _=>by kernel_rfl) (fun _=>by kernel_rfl) (by kernel_rfl)
abbrev aa2:=bP→bP→Option Bool
abbrev PU (f:aa2):Entry S:=⟨14,[vz,vz],[q3],fun x=>f x.1 x.2⟩
def x9:Nat→Int→(List aZ)→(List bl)→(List bk)→(List a_)→Int→(List aZ)→(List bl)→(List bk)→(List a_)→Int→Option Bool
 | 0,_,_,_,_,_,_,_,_,_,_,_=>none
 | k+1,oI,lp,iy,g_,lg,oL,mz,iR,iB,mw,i=>if i<(lg.length:Int) then
  if 0≤i then
  if i<(lg.length:Int) then
  if 0≤i then
  if i<(mw.length:Int) then
  (Ez (lg.getD i.toNat a_.z) (mw.getD i.toNat a_.z)).bind fun r2=>
  bif !r2 then
  some false else
  x9 k oI lp iy g_ lg oL mz iR iB mw (aj (i+1)) else none else none else none else none else
  some true
def x8:Nat→Int→(List aZ)→(List bl)→(List bk)→(List a_)→Int→(List aZ)→(List bl)→(List bk)→(List a_)→Int→Option Bool
 | 0,_,_,_,_,_,_,_,_,_,_,_=>none
 | k+1,oI,lp,iy,g_,lg,oL,mz,iR,iB,mw,i=>if i<(g_.length:Int) then
  if 0≤i then
  if i<(g_.length:Int) then
  if 0≤i then
  if i<(iB.length:Int) then
  if ¬ (((g_.getD i.toNat bk.z).Name)=((iB.getD i.toNat bk.z).Name)∧((g_.getD i.toNat bk.z).cx)=((iB.getD i.toNat bk.z).cx)∧((g_.getD i.toNat bk.z).Port)=((iB.getD i.toNat bk.z).Port)∧((g_.getD i.toNat bk.z).To)=((iB.getD i.toNat bk.z).To)∧((g_.getD i.toNat bk.z).Cap)=((iB.getD i.toNat bk.z).Cap)∧((g_.getD i.toNat bk.z).Prio)=((iB.getD i.toNat bk.z).Prio)∧(0:Int)=0) then
  some false else
  x8 k oI lp iy g_ lg oL mz iR iB mw (aj (i+1)) else none else none else none else none else
  x9 k oI lp iy g_ lg oL mz iR iB mw 0
def x7:Nat→Int→(List aZ)→(List bl)→(List bk)→(List a_)→Int→(List aZ)→(List bl)→(List bk)→(List a_)→Int→Option Bool
 | 0,_,_,_,_,_,_,_,_,_,_,_=>none
 | k+1,oI,lp,iy,g_,lg,oL,mz,iR,iB,mw,i=>if i<(iy.length:Int) then
  if 0≤i then
  if i<(iy.length:Int) then
  if 0≤i then
  if i<(iR.length:Int) then
  if ¬ (((iy.getD i.toNat bl.z).Name)=((iR.getD i.toNat bl.z).Name)∧((iy.getD i.toNat bl.z).zB)=((iR.getD i.toNat bl.z).zB)∧((iy.getD i.toNat bl.z).zI)=((iR.getD i.toNat bl.z).zI)∧((iy.getD i.toNat bl.z).Ext)=((iR.getD i.toNat bl.z).Ext)∧((iy.getD i.toNat bl.z).Prio)=((iR.getD i.toNat bl.z).Prio)∧(0:Int)=0) then
  some false else
  x7 k oI lp iy g_ lg oL mz iR iB mw (aj (i+1)) else none else none else none else none else
  x8 k oI lp iy g_ lg oL mz iR iB mw 0
def x6:Nat→Int→(List aZ)→(List bl)→(List bk)→(List a_)→Int→(List aZ)→(List bl)→(List bk)→(List a_)→Int→Option Bool
 | 0,_,_,_,_,_,_,_,_,_,_,_=>none
 | k+1,oI,lp,iy,g_,lg,oL,mz,iR,iB,mw,i=>if i<(lp.length:Int) then
  if 0≤i then
  if i<(lp.length:Int) then
  if 0≤i then
  if i<(mz.length:Int) then
  (BZ (lp.getD i.toNat aZ.z) (mz.getD i.toNat aZ.z)).bind fun r1=>
  bif !r1 then
  some false else
  x6 k oI lp iy g_ lg oL mz iR iB mw (aj (i+1)) else none else none else none else none else
  x7 k oI lp iy g_ lg oL mz iR iB mw 0
def Ew (k:Nat) (a:bP) (b:bP):Option Bool:=if a.jF≠b.jF then
 some false else
 if (a.gy.length:Int)≠(b.gy.length:Int) then
 some false else
 if (a.Insts.length:Int)≠(b.Insts.length:Int) then
 some false else
 if (a.eg.length:Int)≠(b.eg.length:Int) then
 some false else
 if (a.fM.length:Int)≠(b.fM.length:Int) then
 some false else
 x6 k a.jF a.gy a.Insts a.eg a.fM b.jF b.gy b.Insts b.eg b.fM 0
def BF  (a:bP) (b:bP):Option Bool:=bw (fun k (x:bP×bP)=>Ew k x.1 x.2) (a,b)
theorem aa1:ax Tryz.prog S (PU (BF)):=cl (fun k x=>Ew k x.1 x.2) (fun _=>rfl) fun k=>
 b7 pk [Qy BZ,PW Ez] ⟨acs,aa4,trivial⟩ Tryz.func14 [] k (fun k=> [(0,⟨[2,3,5],[s8,s8,q1],fun x=>x6 k x.1.1 x.1.2.1 x.1.2.2.1 x.1.2.2.2.1 x.1.2.2.2.2 x.2.1.1 x.2.1.2.1 x.2.1.2.2.1 x.2.1.2.2.2.1 x.2.1.2.2.2.2 x.2.2,false⟩),(2,⟨[2,3,6],[s8,s8,q1],fun x=>x7 k x.1.1 x.1.2.1 x.1.2.2.1 x.1.2.2.2.1 x.1.2.2.2.2 x.2.1.1 x.2.1.2.1 x.2.1.2.2.1 x.2.1.2.2.2.1 x.2.1.2.2.2.2 x.2.2,false⟩),(4,⟨[2,3,9],[s8,s8,q1],fun x=>x8 k x.1.1 x.1.2.1 x.1.2.2.1 x.1.2.2.2.1 x.1.2.2.2.2 x.2.1.1 x.2.1.2.1 x.2.1.2.2.1 x.2.1.2.2.2.1 x.2.1.2.2.2.2 x.2.2,false⟩),(6,⟨[2,3,12],[s8,s8,q1],fun x=>x9 k x.1.1 x.1.2.1 x.1.2.2.1 x.1.2.2.2.1 x.1.2.2.2.2 x.2.1.1 x.2.1.2.1 x.2.1.2.2.1 x.2.1.2.2.2.1 x.2.1.2.2.2.2 x.2.2,false⟩)]) ⟨fun _=>rfl,fun _=>rfl,fun _=>rfl,fun _=>rfl,trivial⟩ (fun _=>by kernel_rfl) (fun _=>by kernel_rfl) (by kernel_rfl)
abbrev YD:=(List UInt8)→Option Bool
abbrev YB (f:YD):Entry S:=⟨4,[q0],[q3],fun x=>f x⟩
def DK  (text:List UInt8):Option Bool:=if 4000<(text.length:Int) then
 if (text.length:Int)≤16384 then
 (vq).bind fun r1=>
 some r1 else
 (k8 text).bind fun r2=>
 (BE text).bind fun r3=>
 if r2.2.Code=r3.2.Code∧r2.2.At=r3.2.At then
 (zi r2.1 r3.1).bind fun r4=>
 bif r4 then
 (BF r2.1 r3.1).bind fun r5=>
 bif r5 then
 (vq).bind fun r6=>
 some r6 else
 some false else
 some false else
 some false else
 (k8 text).bind fun r7=>
 (BE text).bind fun r8=>
 if r7.2.Code=r8.2.Code∧r7.2.At=r8.2.At then
 (zi r7.1 r8.1).bind fun r9=>
 bif r9 then
 (BF r7.1 r8.1).bind fun aJ=>
 bif aJ then
 (vq).bind fun bu=>
 some bu else
 some false else
 some false else
 some false
theorem YC:ax Tryz.prog S (YB (DK)):=
 aY pk [Ot vq,Ko k8,PT BE,RY zi,PU BF] ⟨YE,RX,aaZ,aeg,aa1,trivial⟩ Tryz.func4 (by kernel_rfl) (fun _=>by kernel_rfl) (by kernel_rfl)
end
end Go.Sy.Ex
namespace Go.Sy.Ex
open Go Go.Sy Go.Proofs Go.Proofs.YtogpgblanenleaaGreatDoor
abbrev L7:List (String×DataW Unit):= [("math/bits.deBruijn32tab",Rows.laid_math_bits_deBruijn32tab),("math/bits.deBruijn64tab",Rows.laid_math_bits_deBruijn64tab),("internal/strconv.uint64pow10",Rows.laid_internal_strconv_uint64pow10),("strconv.ErrRange",Rows.laid_strconv_ErrRange),("strconv.ErrSyntax",Rows.laid_strconv_ErrSyntax)]
theorem Nk:Tryz.prog.globalNamed "strconv.ErrRange" =some 2:=by kernel_rfl
theorem Nl:Tryz.prog.globalNamed "strconv.ErrSyntax" =some 1:=by kernel_rfl
theorem tER:(Tryz.prog.globals[2]?).map (·.type)=some 189:=by kernel_rfl
theorem tES:(Tryz.prog.globals[1]?).map (·.type)=some 189:=by kernel_rfl
theorem star: "*" ++ "errors.errorString" = "*errors.errorString" :=by decide
theorem Q0 (u:TypeId) (h:Tryz.prog.typeName? 3 u=some "*errors.errorString"):u=240:=
 typeName_ptr_named (nm:= "errors.errorString") (by rw [star]; kernel_rfl) (by kernel_rfl) (by decide) u (by rw [star]; exact h)
theorem Nn:Tryz.prog.globalNamed "internal/strconv.uint64pow10" =some 3:=by kernel_rfl
theorem tPT:(Tryz.prog.globals[3]?).map (·.type)=some 280:=by kernel_rfl
theorem Zg {W:World} (h:W.ShapedOpen Tryz.prog): ∃ m,W.cell? ⟨0,0,none⟩=some (.int .i64 m):=
 cell_of_shapedOpen_int (t:=3) (zero:= #[.int .i64 0]) h (of_decide_eq_true (by kernel_rfl)) (by kernel_rfl) rfl (by kernel_rfl) (by kernel_rfl) Tryz.underlying3
theorem WO {W:World} {M:St} (hM:j0 M) (hL:laidMetH Tryz.prog L7 W) (hsh:W.ShapedOpen Tryz.prog):kD S W M:=by
 rw [MakeChecks.laidMetH_plain _ _ _ (by kernel_rfl)] at hL
 have hT:Lib.TabIs Tryz.prog W "internal/strconv.uint64pow10" .u64 Lib.pow10Tab:=Lib.tabIs_of_head Nn tPT Tryz.underlying280 Tryz.underlying218 (by kernel_rfl) (by kernel_rfl) hL.tail.tail
 obtain ⟨a0,s0,hv0, -, -, -⟩:=laid_sentinel hL.tail.tail.tail Nk tER Tryz.underlying189 Q0 Tryz.underlying240 Tryz.underlying242 rfl rfl Tryz.underlying9 (by kernel_rfl) (by kernel_rfl)
 have c1:=World.var?_cell Nk hv0 0
 obtain ⟨a1,s1,hv1, -, -, -⟩:=laid_sentinel hL.tail.tail.tail.tail Nl tES Tryz.underlying189 Q0 Tryz.underlying240 Tryz.underlying242 rfl rfl Tryz.underlying9 (by kernel_rfl) (by kernel_rfl)
 have c0:=World.var?_cell Nl hv1 0
 obtain ⟨m,c3⟩:=Zg hsh
 refine ⟨fun g hg=> ?_,fun g hg=> ?_⟩
 · simp only [List.mem_cons,List.not_mem_nil,or_false] at hg
   rcases hg with rfl | rfl | rfl
   · exact ⟨World.block_lt_of_cell? _ _ c3,hM _ _,_,c3,m,rfl⟩
   · exact ⟨World.block_lt_of_cell? _ _ (by simpa using c1),hM _ _,_,by simpa using c1, .inr ⟨_,_,rfl⟩⟩
   · exact ⟨World.block_lt_of_cell? _ _ (by simpa using c0),hM _ _,_,by simpa using c0, .inr ⟨_,_,rfl⟩⟩
 · simp only [List.mem_cons,List.not_mem_nil,or_false] at hg
   subst hg
   unfold Lib.TabIs World.var? at hT
   rw [Nn] at hT
   simp only [Option.bind_some] at hT
   split at hT
   · rename_i cs t f hb
     cases hT
     exact ⟨(Array.getElem?_eq_some_iff.1 hb).1,fun o=>hM _ _,_,hb,t,f,rfl⟩
   · cases hT
end Go.Sy.Ex
namespace Go.Sy.Ex
open Go Go.Sy Go.Proofs Go.Proofs.YtogpgblanenleaaGreatDoor Go.ChangeShapes Go.WideShapes Go.RowKit
theorem acZ {H:Type} {enc:TypeId×Value→H} {a:Assume} {C:Checked} {os:Os} {f:FuncId} {fn:Func} {s:ChangeSpec} {conds:List PathCond} {apart fresh handsOn again:Bool} {X:World→Array Value→Prop}
 (hX: ∀ (w w':World) (args:Array Value),w.heap=w'.heap→X w args→X w' args)
 (own:ownKnob C.prog.godebug=none) (started:os.Started) (noInit:C.prog.inits.idxOf? f=none) (hfn:C.prog.funcs[f]? =some fn)
 (witness: ∃ (w:World) (tape:Tape) (i:Input),w.os=os∧(w.forCall tape i).Shaped C.prog∧i.vars= []∧Input.okWide C.prog (w.forCall tape i) .any w.heap.size f i∧
  ((s.pre enc C.prog fn conds apart (w.forCall tape i).memory i.args∧X (w.forCall tape i).memory i.args)∧sizedMet enc C.prog fn (OpenSpec.ofChange s) apart (w.forCall tape i).memory i.args)∧a.holds C.prog (lone (Frame.enter C.prog f i.args .normal) [] (w.forCall tape i)))
 (contract: ∀ (W:World) (base:Nat) (args:Array Value) (ds gs:List (DataW H)) (before:List MemPlace),
  (∀ (j:Nat) t v,fn.params[j]? =some t→args[j]? =some v→Value.okWide C.prog W .any base t v)→
  DataW.Whole enc C.prog fn.params.toList s.vars apart W args.toList ds gs before→
  conds.all (PathCond.test C.prog ⟨fn.params.toList,ds,s.plain.varTypes C.prog,gs⟩)=true→
  (DataW.weightsEach C.prog (fn.params.toList++s.plain.varTypes C.prog) (ds++gs)).all (· ≤reachBytes)=true→X W args→W.ShapedOpen C.prog→
  a.holds C.prog (lone (Frame.enter C.prog f args .normal) [] W)→
  Calls C.prog f args W fun e W'=> ∃ v,e= .returned v∧s.post enc C.prog fn apart fresh handsOn again W args v W'):
 ReturnsInHanded a C os f .any (fun w args=>(s.pre enc C.prog fn conds apart w args∧X w args)∧sizedMet enc C.prog fn (OpenSpec.ofChange s) apart w args) (s.post enc C.prog fn apart fresh handsOn again):=by
 refine returnsInHanded_of_calls own started noInit witness ?_
 intro w tape i _ hsh _ hok hpre hholds
 obtain ⟨_,_,_,fn',Xy,_,_,_,_,hval⟩:=hok
 have e:fn'=fn:=Option.some.inj (Xy.symm.trans hfn)
 subst e
 obtain ⟨⟨⟨ds,gs,before,hw,hc⟩,hx⟩,hz⟩:=hpre
 have hw':=DataW.Whole.of_heap (w':=w.forCall tape i) (by rfl) hw
 refine (contract (w.forCall tape i) w.heap.size i.args ds gs before hval hw' hc (hz.weights hw) (hX _ _ _ (by rfl) hx) hsh hholds).mono fun e W' ⟨v,he,hp⟩=> ?_
 subst he
 exact ChangeSpec.post_blind hp
set_option maxRecDepth 100000 in
theorem VZ (os:Os) (args:Array Value):laidMetH Tryz.prog L7 ((World.laidAll Tryz.prog os L7).forCall (fun _ _=>0) ⟨#[],args,[]⟩).memory:=by
 rw [MakeChecks.laidMetH_plain _ _ _ (by kernel_rfl)]
 exact laidMet_laidAll _ (by kernel_rfl) (by kernel_rfl)
end Go.Sy.Ex
namespace Go.Sy.Ex
open Go.Sy
theorem Sw (b:UInt8):((b.toNat:Nat):Int).toNat.toUInt8=b:=by
 rw [Int.toNat_natCast]; exact UInt8.ofNat_toNat
theorem UK (b:UInt8):(0≤Lib.indexByte E_ b)↔((b.toNat:Int)=32∨(b.toNat:Int)=9∨(b.toNat:Int)=10∨(b.toNat:Int)=13):=by
 have h: ∀ n,n<256→((0≤Lib.indexByte E_ (Nat.toUInt8 n))↔(((Nat.toUInt8 n).toNat:Int)=32∨((Nat.toUInt8 n).toNat:Int)=9∨((Nat.toUInt8 n).toNat:Int)=10∨((Nat.toUInt8 n).toNat:Int)=13)):=by decide+kernel
 have :=h b.toNat b.toNat_lt
 rwa [show Nat.toUInt8 b.toNat=b from UInt8.ofNat_toNat] at this
def isDigit (c:Int):Bool:=decide (48≤c∧c≤57)
def lI (c:Int):Bool:=decide ((97≤c∧c≤122)∨(65≤c∧c≤90)∨c=95)
theorem IB (c:Int):sR c=some (lI c||isDigit c,isDigit c):=by
 have fin: ∀ a b:Bool,((a=true)↔((97≤c∧c≤122)∨(65≤c∧c≤90)∨c=95)∨(48≤c∧c≤57))→((b=true)↔(48≤c∧c≤57))→some (a,b)=some (lI c||isDigit c,isDigit c):=by
  intro a b ha hb
  have e1:a=(lI c||isDigit c):=by
   rw [Bool.eq_iff_iff,ha]; simp [lI,isDigit]
  have e2:b=isDigit c:=by
   rw [Bool.eq_iff_iff,hb]; simp [isDigit]
  rw [e1,e2]
 unfold sR
 repeat' split
 all_goals
  refine fin _ _ ?_ ?_
  · constructor
    · intro h; first | omega | (cases h)
    · intro h; first | rfl | (exfalso; omega)
  · constructor
    · intro h; first | omega | (cases h)
    · intro h; first | rfl | (exfalso; omega)
def cF:Bool→List UInt8→Nat→Nat
 | _,[],n=>n
 | true,b::t,n=>if b=10 then cF false t (n+1) else cF true t (n+1)
 | false,b::t,n=>if b=32∨b=9∨b=10∨b=13 then cF false t (n+1) else if b=35 then cF true t (n+1) else n
theorem tR: ∀ (t:List UInt8) (r:Bool) (n:Nat),n≤cF r t n∧cF r t n≤n+t.length:=by
 intro t
 induction t with
 | nil=>intro r n; cases r <;> exact ⟨Nat.le_refl _,Nat.le_refl _⟩
 | cons b t ih=>
  intro r n
  have h1:=ih true (n+1)
  have h2:=ih false (n+1)
  cases r
  · simp only [cF,List.length_cons]
    split
    · omega
    · split
      · omega
      · omega
  · simp only [cF,List.length_cons]
    split <;> omega
theorem l9 (b:UInt8) (n:Nat) (hn:n<256):((b.toNat:Int)=(n:Int))↔b=Nat.toUInt8 n:=by
 constructor
 · intro h
   refine UInt8.toNat_inj.1 ?_
   have :(Nat.toUInt8 n).toNat=n:=by
    show n % 256=n
    omega
   omega
 · rintro rfl
   have :(Nat.toUInt8 n).toNat=n:=by
    show n % 256=n
    omega
   omega
theorem adD (t:List UInt8) (hl:t.length<200000000000000): ∀ m n,n+m=t.length→(∀ k,3*m+1≤k→oY k t ((n:Nat):Int)=some ((cF false (t.drop n) n:Nat):Int))∧ ∀ k,3*m+2≤k→sS k t ((n:Nat):Int)=some ((cF true (t.drop n) n:Nat):Int):=by
 intro m
 induction m with
 | zero=>
  intro n h
  have hd:t.drop n= []:=List.drop_eq_nil_of_le (by omega)
  have h0: ∀ k,1≤k→oY k t ((n:Nat):Int)=some ((cF false (t.drop n) n:Nat):Int):=by
   intro k hk
   obtain ⟨k,rfl⟩: ∃ j,k=j+1:=⟨k - 1,by omega⟩
   simp only [oY]
   rw [if_neg (by omega),hd]; rfl
  refine ⟨fun k hk=>h0 k (by omega),fun k hk=> ?_⟩
  obtain ⟨k,rfl⟩: ∃ j,k=j+1:=⟨k - 1,by omega⟩
  simp only [sS]
  rw [if_neg (by omega),h0 k (by omega),hd]; rfl
 | succ m ih=>
  intro n h
  have hlt:n<t.length:=by omega
  obtain ⟨i0,i1⟩:=ih (n+1) (by omega)
  have e:aj ((n:Int)+1)=((n+1:Nat):Int):=by rw [cv (by omega) (by omega)]; omega
  have hd:t.drop n=t[n]::t.drop (n+1):=List.drop_eq_getElem_cons hlt
  have sC:((t[n].toNat:Nat):Int)=10↔t[n]=10:=l9 t[n] 10 (by decide)
  have CZ:((t[n].toNat:Nat):Int)=32↔t[n]=32:=l9 t[n] 32 (by decide)
  have c9:((t[n].toNat:Nat):Int)=9↔t[n]=9:=l9 t[n] 9 (by decide)
  have CY:((t[n].toNat:Nat):Int)=13↔t[n]=13:=l9 t[n] 13 (by decide)
  have zY:((t[n].toNat:Nat):Int)=35↔t[n]=35:=l9 t[n] 35 (by decide)
  have h0: ∀ k,3*(m+1)+1≤k→oY k t ((n:Nat):Int)=some ((cF false (t.drop n) n:Nat):Int):=by
   intro k hk
   obtain ⟨k,rfl⟩: ∃ j,k=j+1:=⟨k - 1,by omega⟩
   have g1:(n:Int)<(t.length:Int):=by omega
   have g0:0≤(n:Int):=by omega
   have l1:t[n]=35→sS k t ((n:Nat):Int)=some ((cF true (t.drop (n+1)) (n+1):Nat):Int):=by
    intro hb
    obtain ⟨k,rfl⟩: ∃ j,k=j+1:=⟨k - 1,by omega⟩
    simp only [sS]
    rw [if_pos g1,if_pos g0,if_pos g1,Int.toNat_natCast,cz _ hlt,if_pos (by rw [hb]; decide),e]
    exact i1 k (by omega)
   simp only [oY,sW,aa,Sw]
   simp only [g0,g1,if_true,Int.toNat_natCast,cz _ hlt,e]
   rw [hd,i0 k (by omega)]
   simp only [cF]
   have hb:=UK t[n]
   rw [CZ,c9,sC,CY] at hb
   by_cases hx:0≤Lib.indexByte E_ t[n]
   · rw [if_pos hx,if_pos (hb.1 hx)]
   · rw [if_neg hx,if_neg (fun q=>hx (hb.2 q))]
     by_cases nD:t[n]=35
     · rw [if_pos (zY.2 nD),if_pos nD,l1 nD]
     · rw [if_neg (fun q=>nD (zY.1 q)),if_neg nD]
  refine ⟨h0,fun k hk=> ?_⟩
  obtain ⟨k,rfl⟩: ∃ j,k=j+1:=⟨k - 1,by omega⟩
  simp only [sS]
  rw [if_pos (by omega),if_pos (by omega),if_pos (by omega),Int.toNat_natCast,cz _ hlt,e]
  by_cases jI:t[n]=10
  · rw [if_neg (fun q=>q (sC.2 jI)),h0 k (by omega),hd]
    simp only [cF]
    rw [if_pos (.inr (.inr (.inl jI))),if_pos jI]
  · rw [if_pos (fun q=>jI (sC.1 q)),i1 k (by omega),hd]
    simp only [cF]
    rw [if_neg jI]
def dg (b:UInt8):Bool:=isDigit (b.toNat:Int)
def lt (b:UInt8):Bool:=lI (b.toNat:Int)
def nm (b:UInt8):Bool:=lt b||dg b
def ep (p:UInt8→Bool) (t:List UInt8) (n:Nat):Nat:=n+((t.drop n).takeWhile p).length
theorem JZ {p:UInt8→Bool} {t:List UInt8} {n:Nat} (h:t.length≤n):ep p t n=n:=by
 unfold ep; rw [List.drop_eq_nil_of_le h]; rfl
theorem yW {p:UInt8→Bool} {t:List UInt8} {n:Nat} (h:n<t.length) (hp:p t[n]=true):ep p t n=ep p t (n+1):=by
 unfold ep; rw [List.drop_eq_getElem_cons h,List.takeWhile_cons_of_pos hp]; simp only [List.length_cons]; omega
theorem JY {p:UInt8→Bool} {t:List UInt8} {n:Nat} (h:n<t.length) (hp:p t[n]=false):ep p t n=n:=by
 unfold ep; rw [List.drop_eq_getElem_cons h,List.takeWhile_cons_of_neg (by simp [hp])]; rfl
theorem zq (p:UInt8→Bool): ∀ l:List UInt8,(l.takeWhile p).length≤l.length:=fun l=>by
 induction l with
 | nil=>exact Nat.le_refl _
 | cons a l ih=>rw [List.takeWhile_cons]; split <;> simp <;> omega
theorem wB (p:UInt8→Bool) (t:List UInt8) (n:Nat) (h:n≤t.length):n≤ep p t n∧ep p t n≤t.length:=by
 unfold ep
 have :=zq p (t.drop n)
 rw [List.length_drop] at this
 omega
theorem w_ (p:UInt8→Bool) (t:List UInt8) (n:Nat):cut t ((n:Nat):Int) ((ep p t n:Nat):Int)=(t.drop n).takeWhile p:=by
 unfold cut ep
 rw [Int.toNat_natCast,Int.toNat_natCast,List.drop_take,Nat.add_sub_cancel_left]
 generalize t.drop n=l
 induction l with
 | nil=>rfl
 | cons a l ih => rw [List.takeWhile_cons]; split
                  · rw [List.length_cons,List.take_succ_cons,ih]
                  · rfl
theorem V7 (t:List UInt8) (f:Bool) (hl:t.length<200000000000000): ∀ m n,n+m=t.length→ ∀ k,m+1≤k→vv k t ((n:Nat):Int) f=some ((ep (fun b=>bif f then dg b else nm b) t n:Nat):Int):=by
 intro m
 induction m with
 | zero=>
  intro n h k hk
  obtain ⟨k,rfl⟩: ∃ j,k=j+1:=⟨k - 1,by omega⟩
  simp only [vv]
  rw [if_neg (by omega),JZ (by omega)]
 | succ m ih=>
  intro n h k hk
  obtain ⟨k,rfl⟩: ∃ j,k=j+1:=⟨k - 1,by omega⟩
  have hlt:n<t.length:=by omega
  have e:aj ((n:Int)+1)=((n+1:Nat):Int):=by rw [cv (by omega) (by omega)]; omega
  simp only [vv,IB,aa]
  rw [if_pos (by omega),if_pos (by omega),if_pos (by omega),Int.toNat_natCast,cz _ hlt,e,ih (n+1) (by omega) k (by omega)]
  have key: ∀ a b:Bool,lt t[n]=a→dg t[n]=b→(bif !(a||b) then some ((n:Nat):Int) else bif f then bif !b then some ((n:Nat):Int) else some ((ep (fun b=>bif f then dg b else nm b) t (n+1):Nat):Int) else some ((ep (fun b=>bif f then dg b else nm b) t (n+1):Nat):Int))=some ((ep (fun b=>bif f then dg b else nm b) t n:Nat):Int):=by
   intro a b ha hb
   cases f <;> cases a <;> cases b <;> simp only [Bool.or_self,Bool.not_true,Bool.not_false,Bool.or_true,Bool.true_or,Bool.or_false,Bool.false_or,cond_true,cond_false]
   all_goals
    first
     | (rw [JY hlt ?_]; simp [nm,ha,hb]; done)
     | (rw [yW hlt ?_]; simp [nm,ha,hb]; done)
  exact key _ _ rfl rfl
theorem V6 (t:List UInt8) (n:Nat) (hl:t.length<200000000000000) (h:n<t.length):A8 t ((n:Nat):Int)=some ((ep (fun b=>bif dg t[n] then dg b else nm b) t n:Nat):Int):=by
 refine br (t.length - n+1) fun k hk=> ?_
 simp only [II,IB,aa]
 rw [if_pos (by omega),if_pos (by omega),Int.toNat_natCast,cz _ h]
 exact V7 t _ hl (t.length - n) n (by omega) k (by omega)
def p_ (acc:Nat):List UInt8→Option Nat
 | []=>some acc
 | c::r=>if (9223372036854775807 - (c.toNat - 48)) / 10<acc then none else p_ (10*acc+(c.toNat - 48)) r
theorem Aj (b:UInt8):dg b=true↔48≤b.toNat∧b.toNat≤57:=by
 unfold dg isDigit
 rw [decide_eq_true_eq]
 omega
theorem UI: ∀ (l:List UInt8) (acc:Nat),(∀ c ∈ l,dg c=true)→9223372036854775808≤acc→Lib.parseUintM (2 ^ 64 - 1) acc l= .range∨ ∃ u,9223372036854775808≤u∧Lib.parseUintM (2 ^ 64 - 1) acc l= .ok u:=by
 intro l acc hd ha
 cases l with
 | nil=>exact .inr ⟨acc,ha,rfl⟩
 | cons c r=>
  refine .inl ?_
  have :=(Aj c).1 (hd c (by simp))
  unfold Lib.parseUintM
  rw [if_pos this,if_pos (by omega)]
theorem afI: ∀ (l:List UInt8) (acc:Nat),(∀ c ∈ l,dg c=true)→acc<9223372036854775808→
 (∀ v,p_ acc l=some v→v<9223372036854775808∧Lib.parseUintM (2 ^ 64 - 1) acc l= .ok v)∧(p_ acc l=none→Lib.parseUintM (2 ^ 64 - 1) acc l= .range∨ ∃ u,9223372036854775808≤u∧Lib.parseUintM (2 ^ 64 - 1) acc l= .ok u):=by
 intro l
 induction l with
 | nil=>intro acc _ ha; exact ⟨fun v h=>by cases h; exact ⟨ha,rfl⟩,fun h=>by cases h⟩
 | cons c r ih=>
  intro acc hd ha
  have hc:=(Aj c).1 (hd c (by simp))
  have hr: ∀ c ∈ r,dg c=true:=fun x hx=>hd x (by simp [hx])
  unfold p_ Lib.parseUintM
  rw [if_pos hc]
  by_cases h:(9223372036854775807 - (c.toNat - 48)) / 10<acc
  · rw [if_pos h]
    refine ⟨fun v h=>by (cases h),fun _=> ?_⟩
    by_cases h1:1844674407370955162≤acc
    · rw [if_pos h1]; exact .inl rfl
    · rw [if_neg h1]
      by_cases h2:2 ^ 64 - 1<acc*10+(c.toNat - 48)
      · rw [if_pos h2]; exact .inl rfl
      · rw [if_neg h2]
        exact UI r _ hr (by omega)
  · rw [if_neg h,if_neg (by omega),if_neg (by omega),show acc*10+(c.toNat - 48)=10*acc+(c.toNat - 48) by omega]
    exact ih _ hr (by omega)
def o8 (l:List UInt8):Int×Int:=if 1<l.length∧l.getD 0 0=48 then (0,11) else match p_ 0 l with | some v=>((v:Int),0) | none=>(0,16)
def numOf (l:List UInt8):Int×Int:=
 if (1<l.length∧l.getD 0 0=48) then (0,11) else match Lib.parseIntB 64 l with
  | .ok v=>(v,0)
  | _=>(0,16)
theorem Zx (l:List UInt8) (hl:l.length≤281474976710656):A9 l=some (numOf l):=by
 have key:((sX l 10 64).bind fun r1=>bif !r1.2 then some ((0:Int),(16:Int)) else some (r1.1,0))=some (match Lib.parseIntB 64 l with
  | .ok v=>(v,0)
  | _=>(0,16)):=by
  unfold sX
  rw [if_pos ⟨hl,rfl,rfl⟩,aa]
  cases Lib.parseIntB 64 l <;> rfl
 have h0:(((l.getD (0:Int).toNat 0).toNat:Nat):Int)=48↔l.getD 0 0=48:=l9 _ 48 (by decide)
 unfold A9 numOf
 by_cases h1:1<l.length
 · rw [if_pos (by omega),if_pos (by omega),if_pos (by omega)]
   by_cases h2:l.getD 0 0=48
   · rw [if_pos (h0.2 h2),if_pos ⟨h1,h2⟩]
   · rw [if_neg (fun q=>h2 (h0.1 q)),if_neg (fun q=>h2 q.2),key]
 · rw [if_neg (by omega),if_neg (fun q=>h1 q.1),key]
theorem OY (l:List UInt8) (h0:l≠ []) (hd: ∀ c ∈ l,dg c=true):numOf l=o8 l:=by
 unfold numOf o8
 by_cases h:1<l.length∧l.getD 0 0=48
 · rw [if_pos h,if_pos h]
 · rw [if_neg h,if_neg h]
   obtain ⟨c,r,rfl⟩: ∃ c r,l=c::r:=by cases l with
    | nil=>exact absurd rfl h0
    | cons c r=>exact ⟨c,r,rfl⟩
   have hc:=(Aj c).1 (hd c (by simp))
   obtain ⟨v1,v2⟩:=afI (c::r) 0 hd (by omega)
   have e:(∀ u,Lib.parseUintM (2 ^ 64 - 1) 0 (c::r)= .ok u→Lib.parseIntB 64 (c::r)=if 9223372036854775808≤u then .range else .ok (u:Int))∧(Lib.parseUintM (2 ^ 64 - 1) 0 (c::r)= .range→Lib.parseIntB 64 (c::r)= .range):=by
    unfold Lib.parseIntB Lib.parseUintB
    simp only []
    rw [if_neg (show ¬ (c.toNat=43∨c.toNat=45) by omega),if_neg (by simp)]
    constructor
    · intro u hu
      rw [hu]
      simp only [show ¬ c.toNat=45 by omega,not_false_eq_true,true_and,false_and,if_false]
    · intro hu
      rw [hu]
   cases hv:p_ 0 (c::r) with
   | some v=>
    obtain ⟨a,b⟩:=v1 v hv
    rw [e.1 v b,if_neg (by omega)]
   | none=>
    rcases v2 hv with b | ⟨u,a,b⟩
    · rw [e.2 b]
    · rw [e.1 u b,if_pos a]
def lK:List (List UInt8):= [[45,62],[61,61],[33,61],[60,61],[62,61],[38,38],[124,124]]
def eO:List UInt8→Nat
 | []=>0
 | [b]=>if b ∈ i_ then 1 else 0
 | b::c::_=>if [b,c] ∈ lK then 2 else if b ∈ i_ then 1 else 0
theorem Yp (l:List UInt8) (c:UInt8):0≤Lib.indexByte l c↔c ∈ l:=by
 induction l with
 | nil=>simp [Lib.indexByte]
 | cons b l ih=>
  unfold Lib.indexByte
  have hge:=Lib.indexByte_ge l c
  by_cases h:b=c
  · subst h; simp
  · rw [if_neg (by simpa using h)]
    rw [List.mem_cons]
    by_cases h1:Lib.indexByte l c= -1
    · rw [if_pos (by simp [h1])]
      constructor
      · intro x; omega
      · rintro (rfl | x)
        · exact absurd rfl h
        · have :=ih.2 x; omega
    · rw [if_neg (by simpa using h1)]
      constructor
      · intro x; exact .inr (ih.1 (by omega))
      · rintro (rfl | x)
        · exact absurd rfl h
        · have :=ih.2 x; omega
theorem contains_iff (s sub:List UInt8):Lib.contains s sub=true↔ ∃ i,i≤s.length∧Lib.occAt s sub i=true:=by
 unfold Lib.contains
 rw [decide_eq_true_eq]
 rcases Lib.index_spec s sub with ⟨h1,h2⟩ | ⟨i,h1,h2,h3,_⟩
 · constructor
   · intro h; omega
   · rintro ⟨i,hi,h⟩; rw [h2 i hi] at h; cases h
 · exact ⟨fun _=>⟨i,h2,h3⟩,fun _=>by omega⟩
theorem ZJ (b c:UInt8) (hb:b≠32) (hc:c≠32):Lib.contains Ri [b,c]=decide ([b,c] ∈ lK):=by
 rw [Bool.eq_iff_iff,contains_iff,decide_eq_true_eq]
 constructor
 · rintro ⟨i,hi,h⟩
   have hi':i=0∨i=1∨i=2∨i=3∨i=4∨i=5∨i=6∨i=7∨i=8∨i=9∨i=10∨i=11∨i=12∨i=13∨i=14∨i=15∨i=16∨i=17∨i=18∨i=19∨i=20:=by
    have :i≤20:=hi
    omega
   clear hi
   rcases hi' with rfl | rfl | rfl | rfl | rfl | rfl | rfl | rfl | rfl | rfl | rfl | rfl | rfl | rfl | rfl | rfl | rfl | rfl | rfl | rfl | rfl
   all_goals
    simp only [Lib.occAt,List.drop_succ_cons,List.drop_zero,List.drop_nil,List.isPrefixOf,Bool.and_true,Bool.and_eq_true,beq_iff_eq,Bool.and_false,Bool.false_eq_true,and_false] at h
   all_goals
    first
     | exact absurd h.1 hb
     | exact absurd h.2 hc
     | (obtain ⟨rfl,rfl⟩:=h; decide)
 · intro h
   simp only [lK,List.mem_cons,List.cons.injEq,and_true,List.not_mem_nil,or_false] at h
   rcases h with ⟨rfl,rfl⟩ | ⟨rfl,rfl⟩ | ⟨rfl,rfl⟩ | ⟨rfl,rfl⟩ | ⟨rfl,rfl⟩ | ⟨rfl,rfl⟩ | ⟨rfl,rfl⟩
   · exact ⟨0,by decide,by decide⟩
   · exact ⟨3,by decide,by decide⟩
   · exact ⟨6,by decide,by decide⟩
   · exact ⟨9,by decide,by decide⟩
   · exact ⟨12,by decide,by decide⟩
   · exact ⟨15,by decide,by decide⟩
   · exact ⟨18,by decide,by decide⟩
theorem Ms (t:List UInt8) (n:Nat) (h:n+1<t.length):cut t ((n:Nat):Int) ((n+2:Nat):Int)= [t[n],t[n+1]]:=by
 unfold cut
 rw [Int.toNat_natCast,Int.toNat_natCast,List.drop_take,Nat.add_sub_cancel_left,List.drop_eq_getElem_cons (by omega:n<t.length),List.drop_eq_getElem_cons h]
 rfl
theorem Ry (t:List UInt8) (n:Nat) (h:n+1<t.length):eO (t.drop n)=if [t[n],t[n+1]] ∈ lK then 2 else if t[n] ∈ i_ then 1 else 0:=by
 rw [List.drop_eq_getElem_cons (by omega:n<t.length),List.drop_eq_getElem_cons h]; rfl
theorem Rx (t:List UInt8) (n:Nat) (h:n+1=t.length):eO (t.drop n)=if t[n] ∈ i_ then 1 else 0:=by
 rw [List.drop_eq_getElem_cons (by omega:n<t.length),List.drop_eq_nil_of_le (by omega)]; rfl
theorem Zu (b:UInt8): [b,(32:UInt8)] ∉ lK:=by
 simp only [lK,List.mem_cons,List.cons.injEq,and_true,List.not_mem_nil,or_false]
 rintro (⟨_,h⟩ | ⟨_,h⟩ | ⟨_,h⟩ | ⟨_,h⟩ | ⟨_,h⟩ | ⟨_,h⟩ | ⟨_,h⟩) <;> revert h <;> decide
theorem afD (b:UInt8):b.toNat.toUInt8=b:=UInt8.ofNat_toNat
theorem Zb (t:List UInt8) (n:Nat) (hl:t.length<200000000000000) (h:n<t.length) (hb:t[n]≠32):A_ t ((n:Nat):Int)=some ((n+eO (t.drop n):Nat):Int):=by
 have e1:aj ((n:Int)+1)=((n+1:Nat):Int):=by rw [cv (by omega) (by omega)]; omega
 have e2:aj ((n:Int)+2)=((n+2:Nat):Int):=by rw [cv (by omega) (by omega)]; omega
 unfold A_
 simp only [sW,xL,aa,Sw,e1,e2,Int.toNat_natCast,cz _ h,Yp,afD]
 have hone:(if t[n] ∈ i_ then some ((n+1:Nat):Int) else some ((n:Nat):Int))=some ((n+(if t[n] ∈ i_ then 1 else 0):Nat):Int):=by
  split <;> rfl
 by_cases h1:n+1<t.length
 · rw [if_pos (by omega),if_pos (by omega),if_pos (by omega),cz _ h1,Ry t n h1]
   by_cases hc:t[n+1]=32
   · rw [if_neg (by rw [hc]; decide),if_pos (by omega),if_pos (by omega),hc,if_neg (Zu _),hone]
   · have jl:((t[n+1].toNat:Nat):Int)≠32:=fun q=>hc ((l9 _ 32 (by decide)).1 q)
     rw [if_pos jl,if_pos (by omega),if_pos (by omega),if_pos (by omega),if_pos (by omega),Ms t n h1,if_pos (by decide),aa,ZJ _ _ hb hc]
     by_cases hp: [t[n],t[n+1]] ∈ lK
     · rw [if_pos hp,decide_eq_true hp]; rfl
     · rw [if_neg hp,decide_eq_false hp,cond_false,if_pos (by omega),if_pos (by omega),hone]
 · rw [if_neg (by omega),if_pos (by omega),if_pos (by omega),Rx t n (by omega),hone]
def ff (t:List UInt8) (n:Nat):ai×Int:=
 if dg (t.getD n 0) then
  (let r:=o8 ((t.drop n).takeWhile dg)
   if r.2≠0 then (ai.mk 0 0 0 [] 0,r.2) else (ai.mk 2 n (ep dg t n:Nat) ((t.drop n).takeWhile dg) r.1,0))
 else if lt (t.getD n 0) then
  (if n+24<ep nm t n then (ai.mk 0 0 0 [] 0,13) else (ai.mk 1 n (ep nm t n:Nat) ((t.drop n).takeWhile nm) 0,0))
 else if eO (t.drop n)=0 then (ai.mk 0 0 0 [] 0,10)
 else (ai.mk 3 n (n+eO (t.drop n):Nat) ((t.drop n).take (eO (t.drop n))) 0,0)
theorem y4 (t:List UInt8):eO t≤t.length:=by
 unfold eO
 split
 · exact Nat.le_refl _
 · split <;> simp
 · split
   · simp
   · split <;> simp
theorem G5 (t:List UInt8) (n j:Nat):cut t ((n:Nat):Int) ((n+j:Nat):Int)=(t.drop n).take j:=by
 unfold cut
 rw [Int.toNat_natCast,Int.toNat_natCast,List.drop_take,Nat.add_sub_cancel_left]
theorem Ct (p:UInt8→Bool): ∀ l:List UInt8, ∀ c ∈ l.takeWhile p,p c=true:=by
 intro l
 induction l with
 | nil=>intro c hc; cases hc
 | cons a l ih=>
  intro c hc
  rw [List.takeWhile_cons] at hc
  split at hc
  · rcases List.mem_cons.1 hc with rfl | h
    · assumption
    · exact ih c h
  · cases hc
theorem Zw (t:List UInt8) (n:Nat) (h:n<t.length) (hd:dg t[n]=true):numOf ((t.drop n).takeWhile dg)=o8 ((t.drop n).takeWhile dg):=by
 refine OY _ ?_ ?_
 · rw [List.drop_eq_getElem_cons h,List.takeWhile_cons_of_pos hd]; exact List.cons_ne_nil _ _
 · intro c hc; exact Ct _ _ c hc
theorem Zc (t:List UInt8) (n:Nat) (hl:t.length<200000000000000) (h:n<t.length) (hb:t[n]≠32):Bb t ((n:Nat):Int)=some (ff t n):=by
 unfold Bb ff
 simp only [IB,aa,Int.toNat_natCast,cz _ h,V6 t n hl h,Zb t n hl h hb]
 have g0:(0:Int)≤(n:Int):=by omega
 have g1:(n:Int)<(t.length:Int):=by omega
 rw [if_pos g0,if_pos g1]
 have vl:isDigit ((t[n].toNat:Nat):Int)=dg t[n]:=rfl
 have hlt:lI ((t[n].toNat:Nat):Int)=lt t[n]:=rfl
 rw [vl,hlt]
 cases hd:dg t[n] with
 | true=>
  have r:=wB dg t n (by omega)
  simp only [cond_true,if_true]
  rw [show (fun b=>dg b)=dg from rfl,if_pos (by omega),if_pos (by omega),if_pos (by omega),if_pos (by omega)]
  have hc:cut t ((n:Nat):Int) ((ep dg t n:Nat):Int)=(t.drop n).takeWhile dg:=w_ dg t n
  have hlen:((t.drop n).takeWhile dg).length≤281474976710656:=by
   have :=zq dg (t.drop n); rw [List.length_drop] at this; omega
  rw [hc,Zx _ hlen,aa,Zw t n h hd]
  by_cases hz:(o8 ((t.drop n).takeWhile dg)).2≠0
  · rw [if_pos hz,if_pos hz]
  · rw [if_neg hz,if_neg hz,if_pos (by omega),if_pos (by omega),if_pos (by omega),if_pos (by omega)]
 | false=>
  simp only [cond_false,Bool.or_false,if_false,Bool.false_eq_true]
  cases hL:lt t[n] with
  | true=>
   have r:=wB nm t n (by omega)
   have hc:cut t ((n:Nat):Int) ((ep nm t n:Nat):Int)=(t.drop n).takeWhile nm:=w_ nm t n
   simp only [cond_true,if_true]
   rw [show (fun b=>nm b)=nm from rfl,hc,cv (by omega) (by omega)]
   by_cases nR:n+24<ep nm t n
   · rw [if_pos (by omega),if_pos nR]
   · rw [if_neg (by omega),if_neg nR,if_pos (by omega),if_pos (by omega),if_pos (by omega),if_pos (by omega)]
  | false=>
   simp only [cond_false,if_false,Bool.false_eq_true]
   have hs:=y4 (t.drop n)
   rw [List.length_drop] at hs
   rw [G5]
   by_cases hz:eO (t.drop n)=0
   · rw [if_pos (by omega),if_pos hz]
   · rw [if_neg (by omega),if_neg hz,if_pos (by omega),if_pos (by omega),if_pos (by omega),if_pos (by omega)]
theorem MA (b:UInt8) (h:lt b=true):dg b=false:=by
 unfold lt lI at h
 unfold dg isDigit
 rw [decide_eq_true_eq] at h
 rw [decide_eq_false_iff_not]
 omega
theorem OJ (t:List UInt8) (n:Nat) (hl:t.length<200000000000000) (h:n≤t.length):Ba t ((n:Nat):Int)=some ((cF false (t.drop n) n:Nat):Int):=
 br (3*(t.length - n)+1) fun k hk=>(adD t hl (t.length - n) n (by omega)).1 k hk
theorem adB: ∀ (u:List UInt8) (r:Bool) (n j:Nat),cF r u n=n+j→j<u.length→u.getD j 0≠32:=by
 intro u
 induction u with
 | nil=>intro r n j _ h; simp at h
 | cons b u ih=>
  intro r n j hj h
  have go: ∀ r',cF r' u (n+1)=n+j→(b::u).getD j 0≠32:=by
   intro r' h'
   have :=(tR u r' (n+1)).1
   obtain ⟨j,rfl⟩: ∃ i,j=i+1:=⟨j - 1,by omega⟩
   rw [List.getD_cons_succ]
   refine ih r' (n+1) j (by omega) (by simpa using h)
  cases r with
  | true=>
   simp only [cF] at hj
   split at hj
   · exact go _ hj
   · exact go _ hj
  | false=>
   simp only [cF] at hj
   split at hj
   · exact go _ hj
   · split at hj
     · exact go _ hj
     · rename_i h1 h2
       obtain rfl:j=0:=by omega
       intro q
       exact h1 (.inl q)
theorem FO (t:List UInt8) (n:Nat) (h:n<t.length) (hz:(ff t n).2=0): ∃ e:Nat,(ff t n).1.End=(e:Int)∧n<e∧e≤t.length∧(ff t n).1.At=(n:Int)∧(ff t n).1.Text=cut t ((n:Nat):Int) ((e:Nat):Int)∧(ff t n).1.Kind≠4:=by
 revert hz
 unfold ff
 rw [cz _ h]
 by_cases hD:dg t[n]=true
 · rw [if_pos hD]
   simp only []
   split
   · intro hz; rename_i q; exact absurd hz q
   · intro _
     refine ⟨ep dg t n,rfl, ?_,(wB dg t n (by omega)).2,rfl,(w_ dg t n).symm,fun q=>absurd (show (2:Int)=4 from q) (by decide)⟩
     rw [yW h hD]; exact (wB dg t (n+1) (by omega)).1
 · rw [if_neg hD]
   by_cases hL:lt t[n]=true
   · rw [if_pos hL]
     split
     · intro hz; exact absurd hz (by decide)
     · intro _
       refine ⟨ep nm t n,rfl, ?_,(wB nm t n (by omega)).2,rfl,(w_ nm t n).symm,fun q=>absurd (show (1:Int)=4 from q) (by decide)⟩
       rw [yW h (by simp [nm,hL])]; exact (wB nm t (n+1) (by omega)).1
   · rw [if_neg hL]
     have hs:=y4 (t.drop n)
     rw [List.length_drop] at hs
     split
     · intro hz; exact absurd hz (by decide)
     · intro _
       exact ⟨n+eO (t.drop n),rfl,by omega,by omega,rfl,(G5 t n _).symm,fun q=>absurd (show (3:Int)=4 from q) (by decide)⟩
def iz:Nat→List UInt8→List ai→Nat→List ai×az
 | 0,_,_,_=>([],az.mk 0 0)
 | k+1,t,l,n=>if n<t.length then
  (if (ff t n).2≠0 then ([],az.mk (ff t n).2 n) else iz k t (l++ [(ff t n).1]) (cF false (t.drop (ff t n).1.End.toNat) (ff t n).1.End.toNat))
  else (l++ [ai.mk 4 n n [] 0],az.mk 0 0)
def iA (t:List UInt8):List ai×az:=
 if 16384<t.length then ([],az.mk 13 16384) else iz (t.length+1) t [] (cF false t 0)
theorem Dg (t:List UInt8) (n:Nat) (h:n≤t.length) (hs:cF false (t.drop n) n<t.length):t[cF false (t.drop n) n]≠32:=by
 have h1:=(tR (t.drop n) false n).1
 have :=adB (t.drop n) false n (cF false (t.drop n) n - n) (by omega) (by rw [List.length_drop]; omega)
 rw [cz _ (by rw [List.length_drop]; omega),List.getElem_drop] at this
 have e:n+(cF false (t.drop n) n - n)=cF false (t.drop n) n:=by omega
 simpa only [e] using this
theorem Ul (t:List UInt8) (hl:t.length≤16384): ∀ m n,t.length≤n+m→n≤t.length→(∀ h:n<t.length,t[n]≠32)→ ∀ l:List ai,l.length≤n→ ∀ k k',m+1≤k→m+1≤k'→
 vu k t 0 0 l ((n:Nat):Int)=some (iz k' t l n):=by
 intro m
 induction m with
 | zero=>
  intro n h hn _ l H7 k k' hk hk'
  obtain ⟨k,rfl⟩: ∃ j,k=j+1:=⟨k - 1,by omega⟩
  obtain ⟨k',rfl⟩: ∃ j,k'=j+1:=⟨k' - 1,by omega⟩
  simp only [vu,iz,List.length_cons,List.length_nil]
  rw [if_neg (by omega),if_pos (by omega),if_neg (by omega)]
 | succ m ih=>
  intro n h hn hb l H7 k k' hk hk'
  obtain ⟨k,rfl⟩: ∃ j,k=j+1:=⟨k - 1,by omega⟩
  obtain ⟨k',rfl⟩: ∃ j,k'=j+1:=⟨k' - 1,by omega⟩
  by_cases hlt:n<t.length
  · have hi:(n:Int)<(t.length:Int):=by omega
    have HQ:(l.length+(0+1))*48≤140737488355328:=by omega
    simp only [vu,iz,List.length_cons,List.length_nil,hi,hlt,if_true,Zc t n (by omega) hlt (hb hlt),aa,HQ]
    by_cases hz:(ff t n).2=0
    · simp only [hz,ne_eq,not_true_eq_false,if_false]
      obtain ⟨e,he,h1,h2,_⟩:=FO t n hlt hz
      simp only [he,OJ t e (by omega) h2,aa,Int.toNat_natCast]
      have hg:=tR (t.drop e) false e
      rw [List.length_drop] at hg
      exact ih _ (by omega) (by omega) (fun hh=>Dg t e h2 hh) _ (by rw [List.length_append,List.length_singleton]; omega) k k' (by omega) (by omega)
    · simp only [hz,ne_eq,not_false_eq_true,if_true]
  · simp only [vu,iz,List.length_cons,List.length_nil]
    rw [if_neg (by omega),if_pos (by omega),if_neg hlt]
theorem DG (t:List UInt8):DM t=some (iA t):=by
 refine br (t.length+1) fun k hk=> ?_
 unfold IG iA
 by_cases hl:16384<t.length
 · rw [if_pos (by omega),if_pos hl]
 · have hg:=tR t false 0
   rw [if_neg (by omega),if_neg hl,show (0:Int)=((0:Nat):Int) from rfl,OJ t 0 (by omega) (Nat.zero_le _),aa]
   exact (Ul t (by omega) t.length _ (by omega) (by rw [List.drop_zero]; omega) (fun hh=>Dg t 0 (Nat.zero_le _) hh) [] (Nat.zero_le _) k _ (by omega) (by omega))
theorem Uk (t:List UInt8): ∀ k l n,(iz k t l n).1.length≤l.length+k:=by
 intro k
 induction k with
 | zero=>intro l n; simp [iz]
 | succ k ih=>
  intro l n
  simp only [iz]
  split
  · split
    · simp
    · refine Nat.le_trans (ih _ _) ?_
      simp; omega
  · simp
theorem Ui (t:List UInt8):(iA t).1.length≤16385:=by
 unfold iA
 split
 · simp
 · have :=Uk t (t.length+1) [] (cF false t 0)
   simp at this
   omega
abbrev qb:List (List UInt8):= [ou,oh,iq,rG,rB,jx,rD,rH,iw,ir,gL,fK,pR,pT,fX,iZ,nc,ng,m_,om,kX,ry,kq,lX,jw,rF,rz,kY,jv,rm,ij,rC,rq,ju,tM]
def eM (s:List UInt8):Bool:=decide (s ∈ qb)
theorem afM:qb.length=35:=rfl
theorem DQ (s:List UInt8):nU s=some (eM s):=by
 unfold nU
 by_cases hr:eM s=true
 · rw [hr]
   have hm:s ∈ qb:=of_decide_eq_true hr
   simp only [qb,List.mem_cons,List.not_mem_nil,or_false] at hm
   rcases hm with rfl | rfl | rfl | rfl | rfl | rfl | rfl | rfl | rfl | rfl | rfl | rfl | rfl | rfl | rfl | rfl | rfl | rfl | rfl | rfl | rfl | rfl | rfl | rfl | rfl | rfl | rfl | rfl | rfl | rfl | rfl | rfl | rfl | rfl | rfl <;> decide+kernel
 · have hr':eM s=false:=by simpa using hr
   have hm:s ∉ qb:=of_decide_eq_false hr'
   rw [hr']
   simp only [qb,List.mem_cons,List.not_mem_nil,or_false,not_or] at hm
   simp only [hm,if_false]
def nW (s:List UInt8):Bool:=decide (s≠ []∧s.length≤24)&& !eM s&&lt (s.getD 0 0)&&s.all nm
theorem Zv {b:UInt8} (h:lt b=true∨dg b=true): ¬ (b=32∨b=9∨b=10∨b=13)∧b≠35:=by
 refine ⟨?_, ?_⟩
 · rintro (rfl | rfl | rfl | rfl) <;> rcases h with h | h <;> exact absurd h (by decide)
 · rintro rfl; rcases h with h | h <;> exact absurd h (by decide)
end Go.Sy.Ex
