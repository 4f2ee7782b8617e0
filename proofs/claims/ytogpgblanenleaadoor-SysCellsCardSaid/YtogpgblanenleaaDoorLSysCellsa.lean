import Derived.Shelf.Small.Strs
import Derived.Shelf.Strconv.Itoa0
import Derived.Shelf.Strconv.Itoa1
import Derived.Shelf.LaysM
import Derived.Shelf.Strconv.Itoa2
import Derived.Shelf.Strconv.Itoa3
import Derived.Shelf.Strconv.ParseIntEmpty
import Derived.Shelf.Strconv.Clone
import Derived.Shelf.Strconv.SyntaxError
import Derived.Shelf.LaysC
import Derived.Shelf.Strconv.ToError
import Derived.Shelf.Strconv.Lower
import Derived.Shelf.Strconv.ParseUint10
import Derived.Shelf.Strconv.ParseUint10Empty
import Derived.Shelf.Strconv.ParseUint10Any
import Derived.Shelf.Strconv.ParseInt10
import Derived.Shelf.Strconv.RangeError
import Derived.Shelf.Strconv.ToErrorRange
import Derived.Shelf.Strconv.ParseUintEmpty
import Derived.Shelf.Strconv.ParseUint10b64
import Derived.Shelf.Strconv.ParseUint10b32
import Derived.Shelf.Strconv.ParseUint10b16
import Derived.Shelf.Strconv.ParseUint10b8
import Derived.Shelf.Strconv.ParseUint10At
import Derived.Shelf.Strconv.ParseInt10At64
import Derived.Shelf.Strconv.ParseInt10At32
import Derived.Shelf.Strconv.ParseInt10At16
import Derived.Shelf.Strconv.ParseInt10At8
import Derived.Shelf.Strconv.ParseInt10All
import Derived.Shelf.Strconv.ParseIntPublic10
import Derived.Shelf.Strings.Search1
import Derived.Shelf.Strings.Search2
import Derived.Shelf.Strings.Search3
import Derived.Shelf.Strings.Shaped
import Derived.Lib.ItoaMem
import Derived.Stop.LaidErr
import Derived.Shelf.Vars
import Derived.MakeChecks
import Derived.LaidHandle
import Derived.ChangeSame
import Derived.ChangeVars
import Derived.JoinedOf
import Derived.RowKit
import Derived.HandedShaped
import Derived.LaidMore
import Derived.LaidLaws
import Derived.Lay
import Derived.Lib.ParseIntB
import Derived.Test.YtogpgblanenleaaDoorProg
import Derived.Test.YtogpgblanenleaaDoorRows
import Derived.Test.YtogpgblanenleaaDoorSc
set_option linter.unusedVariables false
set_option linter.unusedSimpArgs false
/-
 DERIVED:THE SHELF's CONTRACTS AT THIS DUMP,IN PLAIN WORDS (tools/lay-plain.mjs out of 'XAcL.lean',which tools/lay-shelf.mjs wrote):THE SAME DECLARATIONS UNDER THE SAME NAMES: 'import', 'namespace', 'open', 'def', 'theorem' AND NOTHING ELSE:no command of the shelf's:FOR A HAND-IN. Each laying:the table of numbers ('.._ren') and one theorem,a field a fact of the dump's own or the kernel's comparison; each contract:ONE APPLICATION.
-/
namespace Go.Proofs
open Go.Shelf
def Tryd.JH:Go.Shelf.Ren:=⟨fun | 137=>22 | 217=>35 | 266=>42 | n=>n,fun | 9=>9 | 5=>5 | 3=>3 | n=>n,fun | n=>n⟩
theorem Tryd.JG:Go.Proofs.Lays.n137 Tryd.prog Tryd.JH:= {
 mixed:=by kernel_rfl
 f137:=Tryd.func22.trans (congrArg some (by kernel_rfl))
 f217:=Tryd.func35.trans (congrArg some (by kernel_rfl))
 f266:=Tryd.func42.trans (congrArg some (by kernel_rfl))
 t3:=Tryd.underlying3
 a3:=Tryd.isAgg3
 z3:=Tryd.sizeOf3
 v3:=Tryd.zeroValue3
 t5:=Tryd.underlying5
 a5:=Tryd.isAgg5
 z5:=Tryd.sizeOf5
 v5:=Tryd.zeroValue5
 t9:=Tryd.underlying9
 a9:=Tryd.isAgg9
 z9:=Tryd.sizeOf9
 v9:=Tryd.zeroValue9 }
open Go.RowKit in
theorem Tryd.strings_IndexByte (s:ByteArray) (c:Int) (w:World):
 Calls Tryd.prog 22 #[.string s, .int .u8 c] w fun e w'=>e= .returned (.int .i64 (Lib.indexByte s.data.toList c.toNat.toUInt8))∧w'=w:=Any.strings_IndexByte Tryd.JG s c w
def Tryd.JJ:Go.Shelf.Ren:=⟨fun | 144=>37 | 143=>45 | 219=>54 | 217=>35 | 225=>62 | 224=>63 | 267=>64 | 266=>42 | 314=>69 | n=>n,fun | 9=>9 | 4=>4 | 3=>3 | 5=>5 | 46=>117 | 146=>145 | 51=>144 | n=>n,fun | 1=>0 | n=>n⟩
theorem Tryd.JI:Go.Proofs.Lays.n144 Tryd.prog Tryd.JJ:= {
 mixed:=by kernel_rfl
 f143:=Tryd.func45.trans (congrArg some (by kernel_rfl))
 f144:=Tryd.func37.trans (congrArg some (by kernel_rfl))
 f217:=Tryd.func35.trans (congrArg some (by kernel_rfl))
 f219:=Tryd.func54.trans (congrArg some (by kernel_rfl))
 f224:=Tryd.func63.trans (congrArg some (by kernel_rfl))
 f225:=Tryd.func62.trans (congrArg some (by kernel_rfl))
 f266:=Tryd.func42.trans (congrArg some (by kernel_rfl))
 f267:=Tryd.func64.trans (congrArg some (by kernel_rfl))
 f314:=Tryd.func69.trans (congrArg some (by kernel_rfl))
 t3:=Tryd.underlying3
 a3:=Tryd.isAgg3
 z3:=Tryd.sizeOf3
 v3:=Tryd.zeroValue3
 t4:=Tryd.underlying4
 a4:=Tryd.isAgg4
 z4:=Tryd.sizeOf4
 v4:=Tryd.zeroValue4
 t5:=Tryd.underlying5
 a5:=Tryd.isAgg5
 z5:=Tryd.sizeOf5
 v5:=Tryd.zeroValue5
 t9:=Tryd.underlying9
 a9:=Tryd.isAgg9
 z9:=Tryd.sizeOf9
 v9:=Tryd.zeroValue9
 t46:=Tryd.underlying117
 a46:=Tryd.isAgg117
 z46:=Tryd.sizeOf117
 v46:=Tryd.zeroValue117
 t51:=Tryd.underlying144
 a51:=Tryd.isAgg144
 z51:=Tryd.sizeOf144
 v51:=Tryd.zeroValue144
 t146:=Tryd.underlying145
 a146:=Tryd.isAgg145
 z146:=Tryd.sizeOf145
 v146:=Tryd.zeroValue145
 g1:=by kernel_rfl }
open Go.RowKit Go.Lib in
theorem Tryd.strings_Contains (s sub:ByteArray) (m:Int) (w:World) (hs:s.size<4294967281) (hm:w.cell? ⟨0,0,none⟩=some (.int .i64 m)):
 Calls Tryd.prog 37 #[.string s, .string sub] w fun e w'=>e= .returned (.bool (Lib.contains s.data.toList sub.data.toList))∧w'=w:=Any.strings_Contains Tryd.JI s sub m w hs hm
def Tryd.JK:Go.Shelf.Ren:=⟨fun | 174=>36 | 247=>43 | 245=>44 | 287=>49 | 279=>50 | 280=>51 | 281=>52 | 282=>53 | 321=>57 | 322=>58 | 316=>59 | 171=>61 | 205=>60 | 243=>68 | 246=>72 | 283=>76 | 284=>77 | 285=>78 | 286=>79 | 129=>87 | 317=>86 | 318=>88 | 319=>89 | 320=>90 | 337=>91 | 338=>92 | n=>n,fun | 9=>9 | 3=>3 | 2=>2 | 75=>95 | 85=>96 | 4=>4 | 167=>113 | 5=>5 | 53=>114 | 175=>115 | 46=>117 | 168=>118 | 37=>37 | 0=>0 | 210=>129 | 21=>21 | 127=>140 | 145=>143 | 143=>141 | 171=>161 | 173=>164 | 212=>170 | 51=>144 | 20=>20 | 213=>171 | 232=>174 | 233=>175 | 80=>88 | n=>n,fun | 15=>1 | 16=>2 | 17=>3 | 18=>4 | 19=>5 | n=>n⟩
theorem Tryd.yg:Go.Proofs.LaysC.n174 Tryd.prog Tryd.JK:= {
 mixed:=by kernel_rfl
 f129:=Tryd.func87.trans (congrArg some (by kernel_rfl))
 f171:=Tryd.func61.trans (congrArg some (by kernel_rfl))
 f174:=Tryd.func36.trans (congrArg some (by kernel_rfl))
 f205:=Tryd.func60.trans (congrArg some (by kernel_rfl))
 f243:=Tryd.func68.trans (congrArg some (by kernel_rfl))
 f245:=Tryd.func44.trans (congrArg some (by kernel_rfl))
 f246:=Tryd.func72.trans (congrArg some (by kernel_rfl))
 f247:=Tryd.func43.trans (congrArg some (by kernel_rfl))
 f279:=Tryd.func50.trans (congrArg some (by kernel_rfl))
 f280:=Tryd.func51.trans (congrArg some (by kernel_rfl))
 f281:=Tryd.func52.trans (congrArg some (by kernel_rfl))
 f282:=Tryd.func53.trans (congrArg some (by kernel_rfl))
 f283:=Tryd.func76.trans (congrArg some (by kernel_rfl))
 f284:=Tryd.func77.trans (congrArg some (by kernel_rfl))
 f285:=Tryd.func78.trans (congrArg some (by kernel_rfl))
 f286:=Tryd.func79.trans (congrArg some (by kernel_rfl))
 f287:=Tryd.func49.trans (congrArg some (by kernel_rfl))
 f316:=Tryd.func59.trans (congrArg some (by kernel_rfl))
 f317:=Tryd.func86.trans (congrArg some (by kernel_rfl))
 f318:=Tryd.func88.trans (congrArg some (by kernel_rfl))
 f319:=Tryd.func89.trans (congrArg some (by kernel_rfl))
 f320:=Tryd.func90.trans (congrArg some (by kernel_rfl))
 f321:=Tryd.func57.trans (congrArg some (by kernel_rfl))
 f322:=Tryd.func58.trans (congrArg some (by kernel_rfl))
 f337:=Tryd.func91.trans (congrArg some (by kernel_rfl))
 f338:=Tryd.func92.trans (congrArg some (by kernel_rfl))
 t0:=Tryd.underlying0
 a0:=Tryd.isAgg0
 z0:=Tryd.sizeOf0
 v0:=Tryd.zeroValue0
 t2:=Tryd.underlying2
 a2:=Tryd.isAgg2
 z2:=Tryd.sizeOf2
 v2:=Tryd.zeroValue2
 t3:=Tryd.underlying3
 a3:=Tryd.isAgg3
 z3:=Tryd.sizeOf3
 v3:=Tryd.zeroValue3
 t4:=Tryd.underlying4
 a4:=Tryd.isAgg4
 z4:=Tryd.sizeOf4
 v4:=Tryd.zeroValue4
 t5:=Tryd.underlying5
 a5:=Tryd.isAgg5
 z5:=Tryd.sizeOf5
 v5:=Tryd.zeroValue5
 t9:=Tryd.underlying9
 a9:=Tryd.isAgg9
 z9:=Tryd.sizeOf9
 v9:=Tryd.zeroValue9
 t20:=Tryd.underlying20
 a20:=Tryd.isAgg20
 z20:=Tryd.sizeOf20
 v20:=Tryd.zeroValue20
 t21:=Tryd.underlying21
 a21:=Tryd.isAgg21
 z21:=Tryd.sizeOf21
 v21:=Tryd.zeroValue21
 t37:=Tryd.underlying37
 a37:=Tryd.isAgg37
 z37:=Tryd.sizeOf37
 v37:=Tryd.zeroValue37
 t46:=Tryd.underlying117
 a46:=Tryd.isAgg117
 z46:=Tryd.sizeOf117
 v46:=Tryd.zeroValue117
 t51:=Tryd.underlying144
 a51:=Tryd.isAgg144
 z51:=Tryd.sizeOf144
 v51:=Tryd.zeroValue144
 t53:=Tryd.underlying114
 a53:=Tryd.isAgg114
 z53:=Tryd.sizeOf114
 v53:=Tryd.zeroValue114
 t75:=Tryd.underlying95
 a75:=Tryd.isAgg95
 z75:=Tryd.sizeOf95
 v75:=Tryd.zeroValue95
 t85:=Tryd.underlying96
 a85:=Tryd.isAgg96
 z85:=Tryd.sizeOf96
 v85:=Tryd.zeroValue96
 t127:=Tryd.underlying140
 a127:=Tryd.isAgg140
 z127:=Tryd.sizeOf140
 v127:=Tryd.zeroValue140
 t143:=Tryd.underlying141
 a143:=Tryd.isAgg141
 z143:=Tryd.sizeOf141
 v143:=Tryd.zeroValue141
 t145:=Tryd.underlying143
 a145:=Tryd.isAgg143
 z145:=Tryd.sizeOf143
 v145:=Tryd.zeroValue143
 t167:=Tryd.underlying113
 a167:=Tryd.isAgg113
 z167:=Tryd.sizeOf113
 v167:=Tryd.zeroValue113
 t168:=Tryd.underlying118
 a168:=Tryd.isAgg118
 z168:=Tryd.sizeOf118
 v168:=Tryd.zeroValue118
 t171:=Tryd.underlying161
 a171:=Tryd.isAgg161
 z171:=Tryd.sizeOf161
 v171:=Tryd.zeroValue161
 t173:=Tryd.underlying164
 a173:=Tryd.isAgg164
 z173:=Tryd.sizeOf164
 v173:=Tryd.zeroValue164
 t175:=Tryd.underlying115
 a175:=Tryd.isAgg115
 z175:=Tryd.sizeOf115
 v175:=Tryd.zeroValue115
 t210:=Tryd.underlying129
 a210:=Tryd.isAgg129
 z210:=Tryd.sizeOf129
 v210:=Tryd.zeroValue129
 t212:=Tryd.underlying170
 a212:=Tryd.isAgg170
 z212:=Tryd.sizeOf170
 v212:=Tryd.zeroValue170
 t213:=Tryd.underlying171
 a213:=Tryd.isAgg171
 z213:=Tryd.sizeOf171
 t232:=Tryd.underlying174
 a232:=Tryd.isAgg174
 z232:=Tryd.sizeOf174
 v232:=Tryd.zeroValue174
 t233:=Tryd.underlying175
 a233:=Tryd.isAgg175
 z233:=Tryd.sizeOf175
 v233:=Tryd.zeroValue175
 g15:=by kernel_rfl
 g16:=by kernel_rfl
 g17:=by kernel_rfl
 g18:=by kernel_rfl
 g19:=by kernel_rfl
 t80:=Tryd.underlying88
 a80:=Tryd.isAgg88
 z80:=Tryd.sizeOf88
 v80:=Tryd.zeroValue88
 i0:=by kernel_rfl
 i2:=by kernel_rfl
 i3:=by kernel_rfl
 i4:=by kernel_rfl
 i5:=by kernel_rfl
 i9:=by kernel_rfl
 i20:=by kernel_rfl
 i21:=by kernel_rfl
 i37:=by kernel_rfl
 i46:=by kernel_rfl
 i51:=by kernel_rfl
 i53:=by kernel_rfl
 i75:=by kernel_rfl
 i80:=by kernel_rfl
 i85:=by kernel_rfl
 i127:=by kernel_rfl
 i143:=by kernel_rfl
 i145:=by kernel_rfl
 i167:=by kernel_rfl
 i168:=by kernel_rfl
 i171:=by kernel_rfl
 i173:=by kernel_rfl
 i175:=by kernel_rfl
 i210:=by kernel_rfl
 i212:=by kernel_rfl
 i232:=by kernel_rfl
 i233:=by kernel_rfl
 m15:=by kernel_rfl
 m16:=by kernel_rfl
 m17:=by kernel_rfl
 m18:=by kernel_rfl
 m19:=by kernel_rfl
 c0:=by kernel_rfl
 c2:=by kernel_rfl
 c3:=by kernel_rfl
 c4:=by kernel_rfl
 c5:=by kernel_rfl
 c9:=by kernel_rfl
 c20:=by kernel_rfl
 c21:=by kernel_rfl
 c37:=by kernel_rfl
 c46:=by kernel_rfl
 c51:=by kernel_rfl
 c53:=by kernel_rfl
 c75:=by kernel_rfl
 c80:=by kernel_rfl
 c85:=by kernel_rfl
 c127:=by kernel_rfl
 c143:=by kernel_rfl
 c145:=by kernel_rfl
 c167:=by kernel_rfl
 c168:=by kernel_rfl
 c171:=by kernel_rfl
 c173:=by kernel_rfl
 c175:=by kernel_rfl
 c210:=by kernel_rfl
 c212:=by kernel_rfl
 c213:=by kernel_rfl
 c232:=by kernel_rfl
 c233:=by kernel_rfl }
open Go.RowKit in
theorem Tryd.strconv_ParseInt_10_at64_ok (s:ByteArray) (hmax:s.size≤9223372036854775806) (v:Int) (h:Lib.parseIntB 64 s.data.toList= .ok v) (w:World):
 Calls Tryd.prog 36 #[.string s, .int .i64 10, .int .i64 64] w fun e w'=>e= .returned (.tuple #[.int .i64 v, .nilIface])∧(w'=w∨ ∃ t,w'=Lib.bytesWorld w 5 t):=Any.strconv_ParseInt_10_at64_ok Tryd.yg s hmax v h w
open Go.RowKit in
theorem Tryd.strconv_ParseInt_10_at64_range (s:ByteArray) (hlim:s.size≤281474976710656) (h:Lib.parseIntB 64 s.data.toList= .range) (ev:Value) (w:World) (hv:w.cell? ⟨2,0,none⟩=some ev) (hev:ev= .nilIface∨ ∃ te pe,ev= .iface te pe):
 Calls Tryd.prog 36 #[.string s, .int .i64 10, .int .i64 64] w fun e w'=> ∃ N,e= .returned (.tuple #[.int .i64 (Lib.intSat 64 s.data.toList), .iface 118 (.pointer (some ⟨N,0,none⟩))])∧w.heap.size≤N∧w'.heap[N]? =some (.cells #[.string ⟨#[80,97,114,115,101,73,110,116]⟩, .string s,ev] 129 (0,0))∧Below w.heap.size w w':=Any.strconv_ParseInt_10_at64_range Tryd.yg s hlim h ev w hv hev
end Go.Proofs
namespace Go.Proofs
open Go.Shelf
end Go.Proofs
set_option maxRecDepth 100000
namespace Go.Sy.Ex
open Go.Sy Go.Proofs
noncomputable section
structure cV where
 Name:List UInt8
 N:Int
 At:Int
 deriving DecidableEq
def cV.z:cV:=⟨[],0,0⟩
structure aR where
 Kind:Int
 N:Int
 Name:List UInt8
 Kids:List aR
 At:Int
def aR.z:aR:=⟨0,0,[],[],0⟩
structure aQ where
 Kind:Int
 Name:List UInt8
 Event:List UInt8
 X:List aR
 N:Int
 oT:List aQ
 lG:List aQ
 At:Int
def aQ.z:aQ:=⟨0,[],[],[],0,[],[],0⟩
structure cF where
 Event:List UInt8
 Guard:List aR
 Target:List UInt8
 Fa:List aQ
 At:Int
def cF.z:cF:=⟨[],[],[],[],0⟩
structure bY where
 Kind:Int
 Name:List UInt8
 Entry:List aQ
 Exit:List aQ
 Trans:List cF
 Kids:List bY
 At:Int
def bY.z:bY:=⟨0,[],[],[],[],[],0⟩
structure cN where
 Name:List UInt8
 Steps:Int
 Fuel:Int
 Vars:List cV
 Fk:List cV
 Fx:List cV
 Fv:List bY
 At:Int
def cN.z:cN:=⟨[],0,0,[],[],[],[],0⟩
structure dA where
 Name:List UInt8
 Fb:List UInt8
 Fp:Int
 Ext:Int
 Prio:Int
 At:Int
 deriving DecidableEq
def dA.z:dA:=⟨[],[],0,0,0,0⟩
structure dz where
 Name:List UInt8
 bM:List UInt8
 Port:List UInt8
 To:List UInt8
 Cap:Int
 Prio:Int
 At:Int
 deriving DecidableEq
def dz.z:dz:=⟨[],[],[],[],0,0,0⟩
structure b_ where
 sg:Int
 Sets:List (List (List UInt8))
 oQ:List (List (List UInt8))
 At:Int
 deriving DecidableEq
def b_.z:b_:=⟨0,[],[],0⟩
structure bF where
 Name:List UInt8
 Ff:List UInt8
 Fq:List UInt8
 Fs:List UInt8
 Insts:List (List UInt8)
 rW:List (List UInt8)
 Cells:List b_
 At:Int
 deriving DecidableEq
def bF.z:bF:=⟨[],[],[],[],[],[],[],0⟩
structure c8 where
 vB:Int
 vD:List cN
 Insts:List dA
 rW:List dz
 oJ:List bF
def c8.z:c8:=⟨0,[],[],[],[]⟩
structure aS where
 Code:Int
 At:Int
 deriving DecidableEq
def aS.z:aS:=⟨0,0⟩
structure an where
 Kind:Int
 At:Int
 End:Int
 Text:List UInt8
 N:Int
 deriving DecidableEq
def an.z:an:=⟨0,0,0,[],0⟩
structure aX where
 L:List an
 At:Int
 ak:aS
 deriving DecidableEq
def aX.z:aX:=⟨[],0,aS.z⟩
structure au where
 Row:aX
 deriving DecidableEq
def au.z:au:=⟨aX.z⟩
structure aA where
 Row:aX
 deriving DecidableEq
def aA.z:aA:=⟨aX.z⟩
structure aM where
 Row:aX
 cU:Int
 deriving DecidableEq
def aM.z:aM:=⟨aX.z,0⟩
structure aP where
 Row:aX
 cU:Int
 deriving DecidableEq
def aP.z:aP:=⟨aX.z,0⟩
def C:Nat→Type
 | 0=>List UInt8×List UInt8×List UInt8
 | 1=>Int×Int×Int
 | 2=>c8
 | 3=>cN
 | 4=>cV
 | 5=>bY
 | 6=>aQ
 | 7=>aR
 | 8=>cF
 | 9=>dA
 | 10=>dz
 | 11=>bF
 | 12=>b_
 | 13=>aS
 | 14=>an
 | 15=>aX
 | 16=>au
 | 17=>aA
 | 18=>aM
 | 19=>aP
 | _+20=>Unit
def F:Nat→List Ty
 | 0=> [.str, .str, .str]
 | 1=> [.int .i64, .int .i64, .int .i64]
 | 2=> [.int .i64, .sl (.st 3), .sl (.st 9), .sl (.st 10), .sl (.st 11)]
 | 3=> [.str, .int .i64, .int .i64, .sl (.st 4), .sl (.st 4), .sl (.st 4), .sl (.st 5), .int .i64]
 | 4=> [.str, .int .i64, .int .i64]
 | 5=> [.int .i64, .str, .sl (.st 6), .sl (.st 6), .sl (.st 8), .sl (.st 5), .int .i64]
 | 6=> [.int .i64, .str, .str, .sl (.st 7), .int .i64, .sl (.st 6), .sl (.st 6), .int .i64]
 | 7=> [.int .i64, .int .i64, .str, .sl (.st 7), .int .i64]
 | 8=> [.str, .sl (.st 7), .str, .sl (.st 6), .int .i64]
 | 9=> [.str, .str, .int .i64, .int .i64, .int .i64, .int .i64]
 | 10=> [.str, .str, .str, .str, .int .i64, .int .i64, .int .i64]
 | 11=> [.str, .str, .str, .str, .sl .str, .sl .str, .sl (.st 12), .int .i64]
 | 12=> [.int .i64, .sl (.sl .str), .sl (.sl .str), .int .i64]
 | 13=> [.int .i64, .int .i64]
 | 14=> [.int .i64, .int .i64, .int .i64, .str, .int .i64]
 | 15=> [.sl (.st 14), .int .i64, .int .i64, .int .i64]
 | 16=> [.sl (.st 14), .int .i64, .int .i64, .int .i64]
 | 17=> [.sl (.st 14), .int .i64, .int .i64, .int .i64]
 | 18=> [.sl (.st 14), .int .i64, .int .i64, .int .i64, .int .i64]
 | 19=> [.sl (.st 14), .int .i64, .int .i64, .int .i64, .int .i64]
 | _+20=> []
def ex:(t:Nat)→C t→ag C (F t)
 | 0,(x:List UInt8×List UInt8×List UInt8)=>(x.1,x.2.1,x.2.2)
 | 1,(x:Int×Int×Int)=>(x.1,x.2.1,x.2.2)
 | 2,(x:c8)=>(x.vB,x.vD,x.Insts,x.rW,x.oJ)
 | 3,(x:cN)=>(x.Name,x.Steps,x.Fuel,x.Vars,x.Fk,x.Fx,x.Fv,x.At)
 | 4,(x:cV)=>(x.Name,x.N,x.At)
 | 5,(x:bY)=>(x.Kind,x.Name,x.Entry,x.Exit,x.Trans,x.Kids,x.At)
 | 6,(x:aQ)=>(x.Kind,x.Name,x.Event,x.X,x.N,x.oT,x.lG,x.At)
 | 7,(x:aR)=>(x.Kind,x.N,x.Name,x.Kids,x.At)
 | 8,(x:cF)=>(x.Event,x.Guard,x.Target,x.Fa,x.At)
 | 9,(x:dA)=>(x.Name,x.Fb,x.Fp,x.Ext,x.Prio,x.At)
 | 10,(x:dz)=>(x.Name,x.bM,x.Port,x.To,x.Cap,x.Prio,x.At)
 | 11,(x:bF)=>(x.Name,x.Ff,x.Fq,x.Fs,x.Insts,x.rW,x.Cells,x.At)
 | 12,(x:b_)=>(x.sg,x.Sets,x.oQ,x.At)
 | 13,(x:aS)=>(x.Code,x.At)
 | 14,(x:an)=>(x.Kind,x.At,x.End,x.Text,x.N)
 | 15,(x:aX)=>(x.L,x.At,x.ak.Code,x.ak.At)
 | 16,(x:au)=>(x.Row.L,x.Row.At,x.Row.ak.Code,x.Row.ak.At)
 | 17,(x:aA)=>(x.Row.L,x.Row.At,x.Row.ak.Code,x.Row.ak.At)
 | 18,(x:aM)=>(x.Row.L,x.Row.At,x.Row.ak.Code,x.Row.ak.At,x.cU)
 | 19,(x:aP)=>(x.Row.L,x.Row.At,x.Row.ak.Code,x.Row.ak.At,x.cU)
 | _+20,_=>()
def im:(t:Nat)→ag C (F t)→C t
 | 0,(a0,a1,a2)=>(a0,a1,a2)
 | 1,(a0,a1,a2)=>(a0,a1,a2)
 | 2,(a0,a1,a2,a3,a4)=>c8.mk a0 a1 a2 a3 a4
 | 3,(a0,a1,a2,a3,a4,a5,a6,a7)=>cN.mk a0 a1 a2 a3 a4 a5 a6 a7
 | 4,(a0,a1,a2)=>cV.mk a0 a1 a2
 | 5,(a0,a1,a2,a3,a4,a5,a6)=>bY.mk a0 a1 a2 a3 a4 a5 a6
 | 6,(a0,a1,a2,a3,a4,a5,a6,a7)=>aQ.mk a0 a1 a2 a3 a4 a5 a6 a7
 | 7,(a0,a1,a2,a3,a4)=>aR.mk a0 a1 a2 a3 a4
 | 8,(a0,a1,a2,a3,a4)=>cF.mk a0 a1 a2 a3 a4
 | 9,(a0,a1,a2,a3,a4,a5)=>dA.mk a0 a1 a2 a3 a4 a5
 | 10,(a0,a1,a2,a3,a4,a5,a6)=>dz.mk a0 a1 a2 a3 a4 a5 a6
 | 11,(a0,a1,a2,a3,a4,a5,a6,a7)=>bF.mk a0 a1 a2 a3 a4 a5 a6 a7
 | 12,(a0,a1,a2,a3)=>b_.mk a0 a1 a2 a3
 | 13,(a0,a1)=>aS.mk a0 a1
 | 14,(a0,a1,a2,a3,a4)=>an.mk a0 a1 a2 a3 a4
 | 15,(a0,a1,a2,a3)=>aX.mk a0 a1 (aS.mk a2 a3)
 | 16,(a0,a1,a2,a3)=>au.mk (aX.mk a0 a1 (aS.mk a2 a3))
 | 17,(a0,a1,a2,a3)=>aA.mk (aX.mk a0 a1 (aS.mk a2 a3))
 | 18,(a0,a1,a2,a3,a4)=>aM.mk (aX.mk a0 a1 (aS.mk a2 a3)) a4
 | 19,(a0,a1,a2,a3,a4)=>aP.mk (aX.mk a0 a1 (aS.mk a2 a3)) a4
 | _+20,_=>()
def er:Nat→List (Nat×Ty)
 | 0=>kZ (.str) 3 0
 | 1=>kZ (.int .i64) 3 0
 | 2=> [(0, .int .i64),(1, .sl (.st 3)),(2, .sl (.st 9)),(3, .sl (.st 10)),(4, .sl (.st 11))]
 | 3=> [(0, .str),(1, .int .i64),(2, .int .i64),(3, .sl (.st 4)),(4, .sl (.st 4)),(5, .sl (.st 4)),(6, .sl (.st 5)),(7, .int .i64)]
 | 4=> [(0, .str),(1, .int .i64),(2, .int .i64)]
 | 5=> [(0, .int .i64),(1, .str),(2, .sl (.st 6)),(3, .sl (.st 6)),(4, .sl (.st 8)),(5, .sl (.st 5)),(6, .int .i64)]
 | 6=> [(0, .int .i64),(1, .str),(2, .str),(3, .sl (.st 7)),(4, .int .i64),(5, .sl (.st 6)),(6, .sl (.st 6)),(7, .int .i64)]
 | 7=> [(0, .int .i64),(1, .int .i64),(2, .str),(3, .sl (.st 7)),(4, .int .i64)]
 | 8=> [(0, .str),(1, .sl (.st 7)),(2, .str),(3, .sl (.st 6)),(4, .int .i64)]
 | 9=> [(0, .str),(1, .str),(2, .int .i64),(3, .int .i64),(4, .int .i64),(5, .int .i64)]
 | 10=> [(0, .str),(1, .str),(2, .str),(3, .str),(4, .int .i64),(5, .int .i64),(6, .int .i64)]
 | 11=> [(0, .str),(1, .str),(2, .str),(3, .str),(4, .sl .str),(5, .sl .str),(6, .sl (.st 12)),(7, .int .i64)]
 | 12=> [(0, .int .i64),(1, .sl (.sl .str)),(2, .sl (.sl .str)),(3, .int .i64)]
 | 13=> [(0, .int .i64),(1, .int .i64)]
 | 14=> [(0, .int .i64),(1, .int .i64),(2, .int .i64),(3, .str),(4, .int .i64)]
 | 15=> [(0, .sl (.st 14)),(1, .int .i64),(2, .st 13)]
 | 16=> [(0, .st 15)]
 | 17=> [(0, .st 15)]
 | 18=> [(0, .st 15),(4, .int .i64)]
 | 19=> [(0, .st 15),(4, .int .i64)]
 | _+20=> []
def z:(t:Nat)→C t
 | 0=>([],[],[])
 | 1=>(0,0,0)
 | 2=>c8.z
 | 3=>cN.z
 | 4=>cV.z
 | 5=>bY.z
 | 6=>aQ.z
 | 7=>aR.z
 | 8=>cF.z
 | 9=>dA.z
 | 10=>dz.z
 | 11=>bF.z
 | 12=>b_.z
 | 13=>aS.z
 | 14=>an.z
 | 15=>aX.z
 | 16=>au.z
 | 17=>aA.z
 | 18=>aM.z
 | 19=>aP.z
 | _+20=>()
def zW:List (Nat×Ty):= [(2, .int .i64),(3, .int .i64),(4, .bool),(5, .int .u8),(9, .str),(22, .st 0),(23, .st 1),(24, .sl (.st 3)),(25, .sl (.st 9)),(26, .sl (.st 10)),(27, .sl (.st 11)),(29, .st 2),(30, .int .i64),(32, .st 13),(37, .sl (.int .u8)),(38, .sl .str),(39, .sl (.st 12)),(41, .st 11),(42, .sl (.sl .str)),(44, .st 12),(46, .sl (.st 14)),(51, .st 15),(53, .st 16),(57, .st 14),(63, .sl (.st 4)),(64, .sl (.st 5)),(66, .st 3),(71, .st 9),(74, .st 10),(86, .st 17),(100, .st 4),(107, .sl (.st 6)),(108, .sl (.st 8)),(110, .st 5),(122, .sl (.st 7)),(124, .st 8),(137, .st 7),(149, .st 18),(152, .st 19),(156, .st 6)]
def FT:List (Nat×(Nat×Ty)):= [(22,3, .str),(23,3, .int .i64)]
def wP:List (Nat×Unit):= [(32,())]
def x4:List (Nat×Unit):= [(95,())]
def yR:List (Nat×Unit):= []
def MU:List (Nat×Unit):= []
abbrev S:aN:=⟨C,F,ex,im,fun u f=>(er u)[f]?,z,look zW,fun t=>(look yR t).isSome,look FT,fun t=>(look wP t).isSome,fun t=>(look x4 t).isSome,[((0,0),fun v=> ∃ m,v= .int .i64 m),((2,0),fun v=>v= .nilIface∨ ∃ t p,v= .iface t p),((1,0),fun v=>v= .nilIface∨ ∃ t p,v= .iface t p)],[(3,fun ob=> ∃ t f,ob= .cells (Go.Lib.pow10Tab.map fun z=>Value.int .u64 z).toArray t f)],none,fun t=>(look MU t).isSome⟩
def F_:List (Nat×Nat):= [(24,136),(25,64),(26,88),(27,144),(37,1),(38,16),(39,64),(42,24),(46,48),(63,32),(64,128),(107,128),(108,88),(122,64)]
def af (t:Nat):Nat:=(look F_ t).getD 1
theorem zA:ct S:=⟨fun | 0=>rfl | 1=>rfl | 2=>rfl | 3=>rfl | 4=>rfl | 5=>rfl | 6=>rfl | 7=>rfl | 8=>rfl | 9=>rfl | 10=>rfl | 11=>rfl | 12=>rfl | 13=>rfl | 14=>rfl | 15=>rfl | 16=>rfl | 17=>rfl | 18=>rfl | 19=>rfl | _+20=>rfl,fun | 0,_=>rfl | 1,_=>rfl | 2,_=>rfl | 3,_=>rfl | 4,_=>rfl | 5,_=>rfl | 6,_=>rfl | 7,_=>rfl | 8,_=>rfl | 9,_=>rfl | 10,_=>rfl | 11,_=>rfl | 12,_=>rfl | 13,_=>rfl | 14,_=>rfl | 15,_=>rfl | 16,_=>rfl | 17,_=>rfl | 18,_=>rfl | 19,_=>rfl | _+20,_=>rfl⟩
theorem NO:bu Tryd.prog S af 2 (.int .i64):=rL rfl (by kernel_rfl) (by kernel_rfl) (by kernel_rfl)
theorem NW:bu Tryd.prog S af 3 (.int .i64):=rL rfl (by kernel_rfl) (by kernel_rfl) (by kernel_rfl)
theorem N4:bu Tryd.prog S af 4 (.bool):=Om rfl (by kernel_rfl) (by kernel_rfl) (by kernel_rfl)
theorem N9:bu Tryd.prog S af 5 (.int .u8):=rL rfl (by kernel_rfl) (by kernel_rfl) (by kernel_rfl)
theorem Oi:bu Tryd.prog S af 9 (.str):=On rfl (by kernel_rfl) (by kernel_rfl) (by kernel_rfl)
theorem NP:bu Tryd.prog S af 22 (.st 0):=ER rfl (by kernel_rfl) rfl (by kernel_rfl) (by kernel_rfl) rfl (by kernel_rfl) Tryd.underlying22 rfl rfl rfl (by kernel_rfl) (fun _=>rfl) rfl
theorem NQ:bu Tryd.prog S af 23 (.st 1):=ER rfl (by kernel_rfl) rfl (by kernel_rfl) (by kernel_rfl) rfl (by kernel_rfl) Tryd.underlying23 rfl rfl rfl (by kernel_rfl) (fun _=>rfl) rfl
theorem NR:bu Tryd.prog S af 24 (.sl (.st 3)):=fM rfl (by kernel_rfl) (by kernel_rfl) Tryd.underlying24 rfl rfl (by kernel_rfl) (by kernel_rfl)
theorem NS:bu Tryd.prog S af 25 (.sl (.st 9)):=fM rfl (by kernel_rfl) (by kernel_rfl) Tryd.underlying25 rfl rfl (by kernel_rfl) (by kernel_rfl)
theorem NT:bu Tryd.prog S af 26 (.sl (.st 10)):=fM rfl (by kernel_rfl) (by kernel_rfl) Tryd.underlying26 rfl rfl (by kernel_rfl) (by kernel_rfl)
theorem NU:bu Tryd.prog S af 27 (.sl (.st 11)):=fM rfl (by kernel_rfl) (by kernel_rfl) Tryd.underlying27 rfl rfl (by kernel_rfl) (by kernel_rfl)
theorem NV:bu Tryd.prog S af 29 (.st 2):=eH (l:=er 2) rfl (by kernel_rfl) rfl (by kernel_rfl) (by kernel_rfl) rfl (by kernel_rfl) Tryd.underlying29 (by kernel_rfl) (fun _=>rfl) rfl
theorem NX:bu Tryd.prog S af 30 (.int .i64):=rL rfl (by kernel_rfl) (by kernel_rfl) (by kernel_rfl)
theorem NY:bu Tryd.prog S af 32 (.st 13):=eH (l:=er 13) rfl (by kernel_rfl) rfl (by kernel_rfl) (by kernel_rfl) rfl (by kernel_rfl) Tryd.underlying32 (by kernel_rfl) (fun _=>rfl) rfl
theorem NZ:bu Tryd.prog S af 37 (.sl (.int .u8)):=fM rfl (by kernel_rfl) (by kernel_rfl) Tryd.underlying37 rfl rfl (by kernel_rfl) (by kernel_rfl)
theorem N0:bu Tryd.prog S af 38 (.sl .str):=fM rfl (by kernel_rfl) (by kernel_rfl) Tryd.underlying38 rfl rfl (by kernel_rfl) (by kernel_rfl)
theorem N3:bu Tryd.prog S af 39 (.sl (.st 12)):=fM rfl (by kernel_rfl) (by kernel_rfl) Tryd.underlying39 rfl rfl (by kernel_rfl) (by kernel_rfl)
theorem N5:bu Tryd.prog S af 41 (.st 11):=eH (l:=er 11) rfl (by kernel_rfl) rfl (by kernel_rfl) (by kernel_rfl) rfl (by kernel_rfl) Tryd.underlying41 (by kernel_rfl) (fun _=>rfl) rfl
theorem N6:bu Tryd.prog S af 42 (.sl (.sl .str)):=fM rfl (by kernel_rfl) (by kernel_rfl) Tryd.underlying42 rfl rfl (by kernel_rfl) (by kernel_rfl)
theorem N7:bu Tryd.prog S af 44 (.st 12):=eH (l:=er 12) rfl (by kernel_rfl) rfl (by kernel_rfl) (by kernel_rfl) rfl (by kernel_rfl) Tryd.underlying44 (by kernel_rfl) (fun _=>rfl) rfl
theorem N8:bu Tryd.prog S af 46 (.sl (.st 14)):=fM rfl (by kernel_rfl) (by kernel_rfl) Tryd.underlying46 rfl rfl (by kernel_rfl) (by kernel_rfl)
theorem N_:bu Tryd.prog S af 51 (.st 15):=eH (l:=er 15) rfl (by kernel_rfl) rfl (by kernel_rfl) (by kernel_rfl) rfl (by kernel_rfl) Tryd.underlying51 (by kernel_rfl) (fun _=>rfl) rfl
theorem Oa:bu Tryd.prog S af 53 (.st 16):=eH (l:=er 16) rfl (by kernel_rfl) rfl (by kernel_rfl) (by kernel_rfl) rfl (by kernel_rfl) Tryd.underlying53 (by kernel_rfl) (fun _=>rfl) rfl
theorem Ob:bu Tryd.prog S af 57 (.st 14):=eH (l:=er 14) rfl (by kernel_rfl) rfl (by kernel_rfl) (by kernel_rfl) rfl (by kernel_rfl) Tryd.underlying57 (by kernel_rfl) (fun _=>rfl) rfl
theorem Oc:bu Tryd.prog S af 63 (.sl (.st 4)):=fM rfl (by kernel_rfl) (by kernel_rfl) Tryd.underlying63 rfl rfl (by kernel_rfl) (by kernel_rfl)
theorem Od:bu Tryd.prog S af 64 (.sl (.st 5)):=fM rfl (by kernel_rfl) (by kernel_rfl) Tryd.underlying64 rfl rfl (by kernel_rfl) (by kernel_rfl)
theorem Oe:bu Tryd.prog S af 66 (.st 3):=eH (l:=er 3) rfl (by kernel_rfl) rfl (by kernel_rfl) (by kernel_rfl) rfl (by kernel_rfl) Tryd.underlying66 (by kernel_rfl) (fun _=>rfl) rfl
theorem Of:bu Tryd.prog S af 71 (.st 9):=eH (l:=er 9) rfl (by kernel_rfl) rfl (by kernel_rfl) (by kernel_rfl) rfl (by kernel_rfl) Tryd.underlying71 (by kernel_rfl) (fun _=>rfl) rfl
theorem Og:bu Tryd.prog S af 74 (.st 10):=eH (l:=er 10) rfl (by kernel_rfl) rfl (by kernel_rfl) (by kernel_rfl) rfl (by kernel_rfl) Tryd.underlying74 (by kernel_rfl) (fun _=>rfl) rfl
theorem Oh:bu Tryd.prog S af 86 (.st 17):=eH (l:=er 17) rfl (by kernel_rfl) rfl (by kernel_rfl) (by kernel_rfl) rfl (by kernel_rfl) Tryd.underlying86 (by kernel_rfl) (fun _=>rfl) rfl
theorem ND:bu Tryd.prog S af 100 (.st 4):=eH (l:=er 4) rfl (by kernel_rfl) rfl (by kernel_rfl) (by kernel_rfl) rfl (by kernel_rfl) Tryd.underlying100 (by kernel_rfl) (fun _=>rfl) rfl
theorem NF:bu Tryd.prog S af 107 (.sl (.st 6)):=fM rfl (by kernel_rfl) (by kernel_rfl) Tryd.underlying107 rfl rfl (by kernel_rfl) (by kernel_rfl)
theorem NG:bu Tryd.prog S af 108 (.sl (.st 8)):=fM rfl (by kernel_rfl) (by kernel_rfl) Tryd.underlying108 rfl rfl (by kernel_rfl) (by kernel_rfl)
theorem NH:bu Tryd.prog S af 110 (.st 5):=eH (l:=er 5) rfl (by kernel_rfl) rfl (by kernel_rfl) (by kernel_rfl) rfl (by kernel_rfl) Tryd.underlying110 (by kernel_rfl) (fun _=>rfl) rfl
theorem NI:bu Tryd.prog S af 122 (.sl (.st 7)):=fM rfl (by kernel_rfl) (by kernel_rfl) Tryd.underlying122 rfl rfl (by kernel_rfl) (by kernel_rfl)
theorem NJ:bu Tryd.prog S af 124 (.st 8):=eH (l:=er 8) rfl (by kernel_rfl) rfl (by kernel_rfl) (by kernel_rfl) rfl (by kernel_rfl) Tryd.underlying124 (by kernel_rfl) (fun _=>rfl) rfl
theorem NK:bu Tryd.prog S af 137 (.st 7):=eH (l:=er 7) rfl (by kernel_rfl) rfl (by kernel_rfl) (by kernel_rfl) rfl (by kernel_rfl) Tryd.underlying137 (by kernel_rfl) (fun _=>rfl) rfl
theorem NL:bu Tryd.prog S af 149 (.st 18):=eH (l:=er 18) rfl (by kernel_rfl) rfl (by kernel_rfl) (by kernel_rfl) rfl (by kernel_rfl) Tryd.underlying149 (by kernel_rfl) (fun _=>rfl) rfl
theorem NM:bu Tryd.prog S af 152 (.st 19):=eH (l:=er 19) rfl (by kernel_rfl) rfl (by kernel_rfl) (by kernel_rfl) rfl (by kernel_rfl) Tryd.underlying152 (by kernel_rfl) (fun _=>rfl) rfl
theorem NN:bu Tryd.prog S af 156 (.st 6):=eH (l:=er 6) rfl (by kernel_rfl) rfl (by kernel_rfl) (by kernel_rfl) rfl (by kernel_rfl) Tryd.underlying156 (by kernel_rfl) (fun _=>rfl) rfl
theorem yQ:aO Tryd.prog S af:=⟨zA,fun t T h0=>by
 have h:=jd (show look zW t=some T from h0)
 simp only [zW,List.mem_cons,Prod.mk.injEq,List.not_mem_nil,or_false] at h
 rcases h with ⟨rfl,rfl⟩ | ⟨rfl,rfl⟩ | ⟨rfl,rfl⟩ | ⟨rfl,rfl⟩ | ⟨rfl,rfl⟩ | ⟨rfl,rfl⟩ | ⟨rfl,rfl⟩ | ⟨rfl,rfl⟩ | ⟨rfl,rfl⟩ | ⟨rfl,rfl⟩ | ⟨rfl,rfl⟩ | ⟨rfl,rfl⟩ | ⟨rfl,rfl⟩ | ⟨rfl,rfl⟩ | ⟨rfl,rfl⟩ | ⟨rfl,rfl⟩ | ⟨rfl,rfl⟩ | ⟨rfl,rfl⟩ | ⟨rfl,rfl⟩ | ⟨rfl,rfl⟩ | ⟨rfl,rfl⟩ | ⟨rfl,rfl⟩ | ⟨rfl,rfl⟩ | ⟨rfl,rfl⟩ | ⟨rfl,rfl⟩ | ⟨rfl,rfl⟩ | ⟨rfl,rfl⟩ | ⟨rfl,rfl⟩ | ⟨rfl,rfl⟩ | ⟨rfl,rfl⟩ | ⟨rfl,rfl⟩ | ⟨rfl,rfl⟩ | ⟨rfl,rfl⟩ | ⟨rfl,rfl⟩ | ⟨rfl,rfl⟩ | ⟨rfl,rfl⟩ | ⟨rfl,rfl⟩ | ⟨rfl,rfl⟩ | ⟨rfl,rfl⟩ | ⟨rfl,rfl⟩
 · exact NO
 · exact NW
 · exact N4
 · exact N9
 · exact Oi
 · exact NP
 · exact NQ
 · exact NR
 · exact NS
 · exact NT
 · exact NU
 · exact NV
 · exact NX
 · exact NY
 · exact NZ
 · exact N0
 · exact N3
 · exact N5
 · exact N6
 · exact N7
 · exact N8
 · exact N_
 · exact Oa
 · exact Ob
 · exact Oc
 · exact Od
 · exact Oe
 · exact Of
 · exact Og
 · exact Oh
 · exact ND
 · exact NF
 · exact NG
 · exact NH
 · exact NI
 · exact NJ
 · exact NK
 · exact NL
 · exact NM
 · exact NN,fun t h=>by
 have h2: ∃ u,look yR t=some u:=Option.isSome_iff_exists.1 h
 obtain ⟨u,h2⟩:=h2
 have h:=jd h2
 simp [yR] at h,fun t h=>by
 have h2: ∃ u,look wP t=some u:=Option.isSome_iff_exists.1 h
 obtain ⟨u,h2⟩:=h2
 have h:=jd h2
 simp only [wP,List.mem_cons,Prod.mk.injEq,List.not_mem_nil,or_false] at h
 rcases h with ⟨rfl,_⟩
 · exact ⟨13,rfl,⟨_,Tryd.underlying32,wN (by kernel_rfl)⟩,by kernel_rfl,by kernel_rfl⟩,fun t h=>by
 have h2: ∃ u,look x4 t=some u:=Option.isSome_iff_exists.1 h
 obtain ⟨u,h2⟩:=h2
 have h:=jd h2
 simp only [x4,List.mem_cons,Prod.mk.injEq,List.not_mem_nil,or_false] at h
 rcases h with ⟨rfl,_⟩
 · exact ⟨_,Tryd.underlying95⟩,fun p h=>nomatch h⟩
theorem pk:aO Tryd.prog S af∧Tryd.prog.follows .mixedOrders=true:=⟨yQ,by kernel_rfl⟩
abbrev q0:Sy.K:= .val (.data .str)
abbrev q1:Sy.K:= .val (.data (.int .i64))
abbrev q2:Sy.K:= .val (.data (.int .u8))
abbrev q3:Sy.K:= .val (.data .bool)
abbrev q4:Sy.K:= .val (.data (.st 14))
abbrev q5:Sy.K:= .val (.aT (.st 14))
abbrev q6:Sy.K:= .val (.data (.st 13))
abbrev q7:Sy.K:= .obj [.data (.int .i64), .data (.int .i64)]
abbrev q8:Sy.K:= .obj [.data (.st 16)]
abbrev q9:Sy.K:= .obj [.data (.st 17)]
abbrev K2:Sy.K:= .val (.data (.st 4))
abbrev Dl:Sy.K:= .val (.aT (.st 4))
abbrev ey:Sy.K:= .obj [.data (.sl (.st 14)), .data (.int .i64), .data (.int .i64), .data (.int .i64)]
abbrev fu:Sy.K:= .obj [.data (.st 18)]
abbrev gv:Sy.K:= .obj [.data (.st 19)]
abbrev tO:Sy.K:= .val (.data (.st 7))
abbrev yS:Sy.K:= .obj [.data (.sl (.st 14)), .data (.int .i64), .data (.int .i64), .data (.int .i64), .data (.int .i64)]
abbrev K3:Sy.K:= .obj [.data (.int .i64), .data (.int .i64), .data .str, .aH (.st 7), .data (.int .i64)]
abbrev K4:Sy.K:= .obj [.data (.int .i64), .data (.int .i64), .data .str, .data (.sl (.st 7)), .data (.int .i64)]
abbrev yT:Sy.K:= .val (.data (.sl (.st 14)))
abbrev yU:Sy.K:= .val (.data (.sl (.st 7)))
abbrev yV:Sy.K:= .val (.data (.st 6))
abbrev tP:Sy.K:= .val (.aT (.st 6))
abbrev K5:Sy.K:= .val (.data (.st 8))
abbrev nT:Sy.K:= .obj [.data .str, .aH (.st 7), .data .str, .aH (.st 6), .data (.int .i64)]
abbrev qF:Sy.K:= .obj [.data (.int .i64), .data .str, .data (.sl (.st 6)), .data (.sl (.st 6)), .aT (.st 8), .data (.sl (.st 5)), .data (.int .i64)]
abbrev Dm:Sy.K:= .val (.aT (.st 5))
abbrev Dn:Sy.K:= .val (.data (.st 3))
abbrev Dp:Sy.K:= .obj [.data .str, .data (.int .i64), .data (.int .i64), .aH (.st 4), .aH (.st 4), .aH (.st 4), .aH (.st 5), .data (.int .i64)]
abbrev K6:Sy.K:= .val (.data (.st 9))
abbrev K7:Sy.K:= .val (.data (.st 10))
abbrev Dq:Sy.K:= .val (.aH .str)
abbrev K8:Sy.K:= .val (.data (.st 12))
abbrev nU:Sy.K:= .obj [.data (.int .i64), .aH (.sl .str), .aH (.sl .str), .data (.int .i64)]
abbrev K9:Sy.K:= .val (.aT .str)
abbrev K_:Sy.K:= .val (.data (.st 11))
abbrev Dr:Sy.K:= .obj [.data .str, .data .str, .data .str, .data .str, .aH .str, .aH .str, .aH (.st 12), .data (.int .i64)]
abbrev Ds:Sy.K:= .val (.data (.st 2))
abbrev kQ:Sy.K:= .obj [.data (.int .i64), .aH (.st 3), .aH (.st 9), .aH (.st 10), .aH (.st 11)]
abbrev yW:Sy.K:= .val (.data (.sl (.int .u8)))
abbrev Lc:Sy.K:= .obj [.data (.int .i64), .data (.sl (.st 3)), .data (.sl (.st 9)), .data (.sl (.st 10)), .data (.sl (.st 11))]
abbrev Ld:Sy.K:= .err
def bz (e:Ty):Nat:=if e= .int .u8 then 1 else 1
def g_:List (Nat×Ty):= [(5, .int .u8),(37, .sl (.int .u8))]
def Aq:List (Nat×(Nat×Ty)):= []
abbrev SA:aN:=S.rO (look g_) (fun _=>false) (look Aq) (fun _=>false)
theorem Ol:bu Tryd.prog SA af 5 (.int .u8):=rL rfl (by kernel_rfl) (by kernel_rfl) (by kernel_rfl)
theorem Oj:bu Tryd.prog SA af 37 (.sl (.int .u8)):=fM rfl (by kernel_rfl) (by kernel_rfl) Tryd.underlying37 rfl rfl (by kernel_rfl) (by kernel_rfl)
theorem MH:ct SA:=⟨zA.flat,zA.ni⟩
theorem KZ:aO Tryd.prog SA af:=⟨MH,fun t e h0=>by
 have h:=jd (show look g_ t=some (e) from h0)
 simp only [g_,List.mem_cons,Prod.mk.injEq,List.not_mem_nil,or_false] at h
 rcases h with ⟨rfl,h⟩ | ⟨rfl,h⟩
 · subst h; exact Ol
 · subst h; exact Oj,fun t h=>(nomatch h),fun t h=>(nomatch h),yQ.kK,yQ.bt⟩
theorem hbz: ∀ t e,SA.ty t=some (.sl e)→af t=bz e:=fun t e h0=>by
 have h:=jd (show look g_ t=some (.sl e) from h0)
 simp only [g_,List.mem_cons,Prod.mk.injEq,List.not_mem_nil,or_false] at h
 rcases h with ⟨rfl,h⟩ | ⟨rfl,h⟩
 · exact (nomatch h)
 · cases h; decide
theorem MR:vH SA:=⟨fun t e h0=>by
 have h:=jd (show look g_ t=some (.sl e) from h0)
 simp only [g_,List.mem_cons,Prod.mk.injEq,List.not_mem_nil,or_false] at h
 rcases h with ⟨rfl,h⟩ | ⟨rfl,h⟩
 · exact (nomatch h)
 · cases h; decide,fun t h0=>by
 have h:=jd (show look g_ t=some (.pt) from h0)
 simp only [g_,List.mem_cons,Prod.mk.injEq,List.not_mem_nil,or_false] at h
 rcases h with ⟨rfl,h⟩ | ⟨rfl,h⟩
 · exact (nomatch h)
 · exact (nomatch h)⟩
theorem MX:vJ Tryd.prog SA:=fun t e h0=>by
 have h:=jd (show look g_ t=some (.st e) from h0)
 simp only [g_,List.mem_cons,Prod.mk.injEq,List.not_mem_nil,or_false] at h
 rcases h with ⟨rfl,h⟩ | ⟨rfl,h⟩
 · exact (nomatch h)
 · exact (nomatch h)
abbrev uY:List UInt8:= [32,9,10,13]
abbrev D0:List UInt8:= [45,62,32,61,61,32,33,61,32,60,61,32,62,61,32,38,38,32,124,124]
abbrev gU:List UInt8:= [123,125,40,41,91,93,59,44,46,58,61,60,62,43,45,42,47,37,33,36]
abbrev k8:List UInt8:= [115,121,115,116,101,109]
abbrev k6:List UInt8:= [97,103,101]
abbrev cY:List UInt8:= [59]
abbrev oa:List UInt8:= [99,104,97,114,116]
abbrev u5:List UInt8:= [115,116,101,112,115]
abbrev uI:List UInt8:= [102,117,101,108]
abbrev u7:List UInt8:= [118,97,114]
abbrev uS:List UInt8:= [112,111,114,116]
abbrev u6:List UInt8:= [116,105,109,101,114]
abbrev u0:List UInt8:= [115,116,97,116,101]
abbrev uQ:List UInt8:= [112,97,114,97,108,108,101,108]
abbrev uL:List UInt8:= [104,105,115,116,111,114,121]
abbrev uC:List UInt8:= [100,101,101,112]
abbrev uE:List UInt8:= [101,110,116,114,121]
abbrev uG:List UInt8:= [101,120,105,116]
abbrev rz:List UInt8:= [111,110]
abbrev ri:List UInt8:= [97,117,116,111]
abbrev uU:List UInt8:= [114,97,105,115,101]
abbrev uW:List UInt8:= [115,101,110,100]
abbrev uw:List UInt8:= [97,114,109]
abbrev uz:List UInt8:= [99,97,110,99,101,108]
abbrev rm:List UInt8:= [105,102]
abbrev uD:List UInt8:= [101,108,115,101]
abbrev ry:List UInt8:= [108,111,111,112]
abbrev rq:List UInt8:= [105,110]
abbrev oc:List UInt8:= [105,110,115,116]
abbrev uT:List UInt8:= [113,117,97,110,116,117,109]
abbrev uH:List UInt8:= [101,120,116]
abbrev rA:List UInt8:= [112,114,105,111]
abbrev n_:List UInt8:= [99,104,97,110]
abbrev uA:List UInt8:= [99,97,112]
abbrev j8:List UInt8:= [99,101,114,116]
abbrev ru:List UInt8:= [105,110,115,116,115]
abbrev rj:List UInt8:= [99,104,97,110,115]
abbrev mA:List UInt8:= [99,101,108,108]
abbrev oe:List UInt8:= [111,102,102]
abbrev j9:List UInt8:= [123]
abbrev DZ:List UInt8:= [61]
abbrev mC:List UInt8:= [45]
abbrev iL:List UInt8:= [125]
abbrev DX:List UInt8:= [33]
abbrev DY:List UInt8:= [36]
abbrev mB:List UInt8:= [40]
abbrev rB:List UInt8:= [41]
abbrev uy:List UInt8:= [124,124]
abbrev uv:List UInt8:= [38,38]
abbrev uN:List UInt8:= [60]
abbrev uO:List UInt8:= [60,61]
abbrev uJ:List UInt8:= [62]
abbrev uK:List UInt8:= [62,61]
abbrev uF:List UInt8:= [61,61]
abbrev ux:List UInt8:= [33,61]
abbrev mD:List UInt8:= [43]
abbrev uZ:List UInt8:= [42]
abbrev uX:List UInt8:= [47]
abbrev uR:List UInt8:= [37]
abbrev uM:List UInt8:= [91]
abbrev rC:List UInt8:= [93]
abbrev uP:List UInt8:= [45,62]
abbrev uB:List UInt8:= [58]
abbrev zw:List UInt8:= [46]
abbrev k7:List UInt8:= [44]
abbrev zx:List UInt8:= [115,121,115,116,101,109,32,97,103,101,32,49,59]
abbrev zy:List UInt8:= [115,121,115,116,101,109,32,97,103,101,32,49]
abbrev jt:List UInt8:= [115,121,115,116,101,109,32,97,103,101,32,49,59,10,99,101,114,116,32,99,32,58,32,97,46,120,32,45,62,32,121,32,123,10,32,32,105,110,115,116,115,32,97,44,32,98,59,10,32,32,99,104,97,110,115,32,107,59,10]
abbrev eU:List UInt8:= [55]
abbrev iJ:List UInt8:= [48]
abbrev cz:List UInt8:= [32,32,99,101,108,108,32]
abbrev eY:List UInt8:= [32,123,32,120,43,122,44,32,111,102,102,59,32,91,101,32,102,32,101,93,32,125,10]
abbrev uV:List UInt8:= [125,10]
abbrev ME:List UInt8:= [122]
end
end Go.Sy.Ex
namespace Go.Sy.Ex
open Go.Sy Go.Proofs
theorem HH {w:World} {M:St} (h:fO S w M):(∃ m,w.cell? ⟨0,0,none⟩=some (.int .i64 m)):=by
 obtain ⟨_,_,v0,c0,m,rfl⟩:=h.1 (((0,0),fun v=> ∃ m,v= .int .i64 m)) (by simp)
 exact ⟨m,c0⟩
theorem HI {w:World} {M:St} (h:fO S w M):(∃ e,w.cell? ⟨2,0,none⟩=some e∧(e= .nilIface∨ ∃ t p,e= .iface t p)):=by
 obtain ⟨_,_,v1,c1,p1⟩:=h.1 (((2,0),fun v=>v= .nilIface∨ ∃ t p,v= .iface t p)) (by simp)
 exact ⟨v1,c1,p1⟩
theorem HJ {w:World} {M:St} (h:fO S w M):(∃ e,w.cell? ⟨1,0,none⟩=some e∧(e= .nilIface∨ ∃ t p,e= .iface t p)):=by
 obtain ⟨_,_,v1,c1,p1⟩:=h.1 (((1,0),fun v=>v= .nilIface∨ ∃ t p,v= .iface t p)) (by simp)
 exact ⟨v1,c1,p1⟩
theorem GI {w w':World} {M:St} (h:RowKit.Below w.heap.size w w'):aW w w' M:=by
 obtain ⟨a,b,c,d,e⟩:=h
 exact ⟨a,b,c,d,fun k hk _=>e k hk,fun k o hk _=>cell_of_heap (e k hk),fun k o hk hs=>by rw [cell_of_heap (e k hk)]; exact hs,fun k o hk _=>w6 (e k hk)⟩
theorem Eg (l:List UInt8):(⟨l.toArray⟩:ByteArray).size=l.length:=by show l.toArray.size=_; simp
noncomputable def kO (s:List UInt8) (c:Int):Option Int:=some (Lib.indexByte s c.toNat.toUInt8)
theorem Dg:aD Tryd.prog S ⟨22,[.val (.data .str), .val (.data (.int .u8))],[.val (.data (.int .i64))],fun x=>kO x.1 x.2⟩:=by
 refine ⟨⟨Tryd.f22,Tryd.func22,by kernel_rfl,by kernel_rfl⟩,fun w s M (x:List UInt8×Int) args r hx hs hG hr=> ?_⟩
 obtain ⟨x,y⟩:=x
 obtain ⟨M1,M2,v,rr,_,rfl,⟨⟨_,n,h1⟩,h2⟩,M3,M4,v',DR,_,rfl,⟨⟨_,n',h3⟩,h4⟩,_,rfl⟩:=hx
 have hv:=kA (w:=w) (s:=s) ⟨h2,n,h1⟩
 have fE:=oR (w:=w) (s:=s) ⟨h4,n',h3⟩
 subst hv fE
 cases hr
 refine (Tryd.strings_IndexByte _ _ w).mono ?_
 rintro e w' ⟨rfl,rfl⟩
 exact ⟨[.int .i64 _],fun _ _=>False,fun _ _=>False,rfl,aW.refl _ _,⟨_,_,_,_,yB,rfl,⟨⟨fun _ _ h=>h,1,rfl⟩,rfl⟩,fun _ _ h=>h,rfl⟩,fun _ _ h=>h.elim,fun _ _ h=>h.elim⟩
noncomputable def nP (s sub:List UInt8):Option Bool:=if s.length<4294967281 then some (Lib.contains s sub) else none
theorem KI:aD Tryd.prog S ⟨37,[.val (.data .str), .val (.data .str)],[.val (.data .bool)],fun x=>nP x.1 x.2⟩:=by
 refine ⟨⟨Tryd.f37,Tryd.func37,by kernel_rfl,by kernel_rfl⟩,fun w s M (x:List UInt8×List UInt8) args r hx hs hG hr=> ?_⟩
 obtain ⟨x,y⟩:=x
 obtain ⟨M1,M2,v,rr,_,rfl,⟨⟨_,n,h1⟩,h2⟩,M3,M4,v',DR,_,rfl,⟨⟨_,n',h3⟩,h4⟩,_,rfl⟩:=hx
 have hv:=kA (w:=w) (s:=s) ⟨h2,n,h1⟩
 have fE:=kA (w:=w) (s:=s) ⟨h4,n',h3⟩
 subst hv fE
 obtain ⟨m,hm⟩:=HH hG
 replace hr:nP x y=some r:=hr
 unfold nP at hr
 split at hr
 · rename_i hl
   cases hr
   refine (Tryd.strings_Contains ⟨x.toArray⟩ ⟨y.toArray⟩ m w (Nat.lt_of_le_of_lt (Nat.le_of_eq (Eg _)) hl) hm).mono ?_
   rintro e w' ⟨rfl,rfl⟩
   exact ⟨[.bool _],fun _ _=>False,fun _ _=>False,rfl,aW.refl _ _,⟨_,_,_,_,yB,rfl,⟨⟨fun _ _ h=>h,1,rfl⟩,rfl⟩,fun _ _ h=>h,rfl⟩,fun _ _ h=>h.elim,fun _ _ h=>h.elim⟩
 · cases hr
noncomputable def kP (s:List UInt8) (b z:Int):Option (Int×Bool):=if s.length≤281474976710656∧b=10∧z=64 then some (match Lib.parseIntB 64 s with
 | .ok v=>(v,true)
 | .range=>(Lib.intSat 64 s,false)
 | _=>(0,false)) else none
theorem Ju {w:World} {s M:St} (hM:fA M) (v:Int) (b:Bool) (e:Value) (he:oO b e):bL Tryd.prog S w s M [.val (.data (.int .i64)), .err] (v,b) [.int .i64 v,e]:=
 ⟨_,_,_,_,MV M,rfl,⟨⟨hM,1,rfl⟩,rfl⟩,_,_,_,_,yB,rfl,⟨fun _ _ h=>h,he⟩,fun _ _ h=>h,rfl⟩
theorem KJ:aD Tryd.prog S ⟨36,[.val (.data .str), .val (.data (.int .i64)), .val (.data (.int .i64))],[.val (.data (.int .i64)), .err],fun x=>kP x.1 x.2.1 x.2.2⟩:=by
 refine ⟨⟨Tryd.f36,Tryd.func36,by kernel_rfl,by kernel_rfl⟩,fun w s M (x:List UInt8×Int×Int) args r hx hs hG hr=> ?_⟩
 obtain ⟨x,y,z⟩:=x
 obtain ⟨M1,M2,v,rr,_,rfl,⟨⟨_,n,h1⟩,h2⟩,M3,M4,v',DR,_,rfl,⟨⟨_,n',h3⟩,h4⟩,M5,M6,v'',Pd,_,rfl,⟨⟨_,Km,h5⟩,h6⟩,_,rfl⟩:=hx
 have hv:=kA (w:=w) (s:=s) ⟨h2,n,h1⟩
 have fE:=oR (w:=w) (s:=s) ⟨h4,n',h3⟩
 have Je:=oR (w:=w) (s:=s) ⟨h6,Km,h5⟩
 subst hv fE Je
 obtain ⟨e1,c1,k1⟩:=HI hG
 obtain ⟨e0,c0,k0⟩:=HJ hG
 replace hr:kP x y z=some r:=hr
 unfold kP at hr
 split at hr
 · rename_i hl
   obtain ⟨hl,rfl,rfl⟩:=hl
   have hsz:(⟨x.toArray⟩:ByteArray).size≤281474976710656:=Nat.le_trans (Nat.le_of_eq (Eg x)) hl
   have xF: ∀ (r0:Int×Bool) (e:Value) (w':World),oO r0.2 e→RowKit.Below w.heap.size w w'→ ∃ us s' M',Ending.returned (Value.tuple #[.int .i64 r0.1,e])= .returned (gT us)∧aW w w' M∧bL Tryd.prog S w' s' M' [.val (.data (.int .i64)), .err] r0 (us++ [])∧
    (∀ b o,s' b o→b<w'.heap.size∧ ¬ M' b o∧(s b o∨M b o∨w.heap.size≤b))∧ ∀ b o,M' b o→M b o∨w.heap.size≤b:=fun r0 e w' he hb=>
    ⟨[.int .i64 r0.1,e],fun _ _=>False,fun _ _=>False,rfl,GI hb,Ju (fun _ _ h=>h) _ _ _ he,fun _ _ h=>h.elim,fun _ _ h=>h.elim⟩
   cases hp:Lib.parseIntB 64 x with
   | ok v=>
    rw [hp] at hr
    cases hr
    refine (Tryd.strconv_ParseInt_10_at64_ok ⟨x.toArray⟩ (by omega) v hp w).mono ?_
    rintro e w' ⟨rfl,hw⟩
    refine xF (v,true) .nilIface w' rfl ?_
    rcases hw with rfl | ⟨t,rfl⟩
    · exact RowKit.Below.refl _ _
    · exact ⟨rfl,rfl,rfl,by rw [Lib.bytesWorld_size]; omega,fun j hj=>Lib.bytesWorld_at_old w 5 t j hj⟩
   | range=>
    rw [hp] at hr
    cases hr
    refine (Tryd.strconv_ParseInt_10_at64_range ⟨x.toArray⟩ hsz hp e1 w c1 k1).mono ?_
    rintro e w' ⟨N,rfl,_,_,hb⟩
    exact xF (_,false) _ w' ⟨_,_,rfl⟩ hb
   | _=>
    rw [hp] at hr
    cases hr
    refine (Any.strconv_ParseInt_10_at64_syntax Tryd.yg ⟨x.toArray⟩ hsz hp e0 w c0 k0).mono ?_
    rintro e w' ⟨N,rfl,_,_,hb⟩
    exact xF (0,false) _ w' ⟨_,_,rfl⟩ hb
 · cases hr
end Go.Sy.Ex
set_option maxRecDepth 100000
namespace Go.Sy.Ex
open Go.Sy Go.Proofs
noncomputable section
abbrev Bj:Entry S:=⟨22,[q0,q2],[q1],fun x=>kO x.1 x.2⟩
abbrev G1:Entry S:=⟨36,[q0,q1,q1],[q1,Ld],fun x=>kP x.1 x.2.1 x.2.2⟩
abbrev G2:Entry S:=⟨37,[q0,q0],[q3],fun x=>nP x.1 x.2⟩
abbrev JZ:=(List UInt8)→Int→Option Int
abbrev C0 (f:JZ):Entry S:=⟨10,[q0,q1],[q1],fun x=>f x.1 x.2⟩
mutual
def jc:Nat→(List UInt8)→Int→Option Int
 | 0,_,_=>none
 | k+1,text,aE=>if aE<(text.length:Int) then
  if 0≤aE then
  if aE<(text.length:Int) then
  (kO uY ((text.getD aE.toNat 0).toNat:Int)).bind fun r1=>
  if 0≤r1 then
  jc k text (aJ (aE+1)) else
  if 0≤aE then
  if aE<(text.length:Int) then
  if ((text.getD aE.toNat 0).toNat:Int)=35 then
  kM k text aE else
  some aE else none else none else none else none else
  some aE
def kM:Nat→(List UInt8)→Int→Option Int
 | 0,_,_=>none
 | k+1,text,aE=>if aE<(text.length:Int) then
  if 0≤aE then
  if aE<(text.length:Int) then
  if ((text.getD aE.toNat 0).toNat:Int)≠10 then
  kM k text (aJ (aE+1)) else
  jc k text aE else none else none else
  jc k text aE
end
def CZ (k:Nat) (text:List UInt8) (aE:Int):Option Int:=jc k text aE
def qy  (text:List UInt8) (aE:Int):Option Int:=dn (fun k (x:List UInt8×Int)=>CZ k x.1 x.2) (text,aE)
theorem JY:aD Tryd.prog S (C0 (qy)):=gA (fun k x=>CZ k x.1 x.2) (fun _=>rfl) fun k=>
 fC pk [Bj] ⟨Dg,trivial⟩ Tryd.func10 [] k (fun k=> [(0,⟨[0,1],[q0,q1],fun x=>jc k x.1 x.2,false⟩),(2,⟨[0,1],[q0,q1],fun x=>kM k x.1 x.2,false⟩)]) ⟨fun _=>rfl,fun _=>rfl,trivial⟩ (fun _=>by kernel_rfl) (fun _=>by kernel_rfl) (by kernel_rfl)
abbrev JT:=Int→Option (Bool×Bool)
abbrev yp (f:JT):Entry S:=⟨23,[q2],[q3,q3],fun x=>f x⟩
def kL  (c:Int):Option (Bool×Bool):=if 48≤c then
 if c≤57 then
 some (true,true) else
 if 97≤c then
 if c≤122 then
 if c≤122 then
 some (true,false) else
 some (false,false) else
 if 65≤c then
 if c≤90 then
 if c≤90 then
 some (true,false) else
 some (false,false) else
 if c=95 then
 some (true,false) else
 some (false,false) else
 if c=95 then
 some (true,false) else
 some (false,false) else
 if 65≤c then
 if c≤90 then
 if c≤90 then
 some (true,false) else
 some (false,false) else
 if c=95 then
 some (true,false) else
 some (false,false) else
 if c=95 then
 some (true,false) else
 some (false,false) else
 if 97≤c then
 if c≤122 then
 if c≤122 then
 some (true,false) else
 some (false,false) else
 if 65≤c then
 if c≤90 then
 if c≤90 then
 some (true,false) else
 some (false,false) else
 if c=95 then
 some (true,false) else
 some (false,false) else
 if c=95 then
 some (true,false) else
 some (false,false) else
 if 65≤c then
 if c≤90 then
 if c≤90 then
 some (true,false) else
 some (false,false) else
 if c=95 then
 some (true,false) else
 some (false,false) else
 if c=95 then
 some (true,false) else
 some (false,false)
theorem CW:aD Tryd.prog S (yp (kL)):=
 aZ pk [] trivial Tryd.func23 (by kernel_rfl) (fun _=>by kernel_rfl) (by kernel_rfl)
abbrev JS:=(List UInt8)→Int→Option Int
abbrev CV (f:JS):Entry S:=⟨24,[q0,q1],[q1],fun x=>f x.1 x.2⟩
def l_:Nat→(List UInt8)→Int→Bool→Option Int
 | 0,_,_,_=>none
 | k+1,text,aE,number=>if aE<(text.length:Int) then
  if 0≤aE then
  if aE<(text.length:Int) then
  (kL ((text.getD aE.toNat 0).toNat:Int)).bind fun r2=>
  bif !r2.1 then
  some aE else
  bif number then
  bif !r2.2 then
  some aE else
  l_ k text (aJ (aE+1)) number else
  l_ k text (aJ (aE+1)) number else none else none else
  some aE
def yo (k:Nat) (text:List UInt8) (aE:Int):Option Int:=if 0≤aE then
 if aE<(text.length:Int) then
 (kL ((text.getD aE.toNat 0).toNat:Int)).bind fun r1=>
 l_ k text aE r1.2 else none else none
def qv  (text:List UInt8) (aE:Int):Option Int:=dn (fun k (x:List UInt8×Int)=>yo k x.1 x.2) (text,aE)
theorem JR:aD Tryd.prog S (CV (qv)):=gA (fun k x=>yo k x.1 x.2) (fun _=>rfl) fun k=>
 fC pk [yp kL] ⟨CW,trivial⟩ Tryd.func24 [] k (fun k=> [(0,⟨[0,1,6],[q0,q1,q3],fun x=>l_ k x.1 x.2.1 x.2.2,false⟩)]) ⟨fun _=>rfl,trivial⟩ (fun _=>by kernel_rfl) (fun _=>by kernel_rfl) (by kernel_rfl)
abbrev JV:=(List UInt8)→Option (Int×Int)
abbrev CX (f:JV):Entry S:=⟨25,[q0],[q1,q1],fun x=>f x⟩
def qw  (s:List UInt8):Option (Int×Int):=if 1<(s.length:Int) then
 if (0:Int)≤0 then
 if 0<(s.length:Int) then
 if ((s.getD (0:Int).toNat 0).toNat:Int)=48 then
 some (0,11) else
 (kP s 10 64).bind fun r1=>
 bif !r1.2 then
 some (0,16) else
 some (r1.1,0) else none else none else
 (kP s 10 64).bind fun r2=>
 bif !r2.2 then
 some (0,16) else
 some (r2.1,0)
theorem JU:aD Tryd.prog S (CX (qw)):=
 aZ pk [G1] ⟨KJ,trivial⟩ Tryd.func25 (by kernel_rfl) (fun _=>by kernel_rfl) (by kernel_rfl)
abbrev JX:=(List UInt8)→Int→Option Int
abbrev CY (f:JX):Entry S:=⟨26,[q0,q1],[q1],fun x=>f x.1 x.2⟩
def qx  (text:List UInt8) (aE:Int):Option Int:=if (aJ (aE+1))<(text.length:Int) then
 if 0≤(aJ (aE+1)) then
 if (aJ (aE+1))<(text.length:Int) then
 if ((text.getD (aJ (aE+1)).toNat 0).toNat:Int)≠32 then
 if 0≤(aJ (aE+2)) then
 if (aJ (aE+2))≤(text.length:Int) then
 if 0≤aE then
 if aE≤(aJ (aE+2)) then
 (nP D0 (cut text aE (aJ (aE+2)))).bind fun r1=>
 bif r1 then
 some (aJ (aE+2)) else
 if 0≤aE then
 if aE<(text.length:Int) then
 (kO gU ((text.getD aE.toNat 0).toNat:Int)).bind fun r2=>
 if 0≤r2 then
 some (aJ (aE+1)) else
 some aE else none else none else none else none else none else none else
 if 0≤aE then
 if aE<(text.length:Int) then
 (kO gU ((text.getD aE.toNat 0).toNat:Int)).bind fun r3=>
 if 0≤r3 then
 some (aJ (aE+1)) else
 some aE else none else none else none else none else
 if 0≤aE then
 if aE<(text.length:Int) then
 (kO gU ((text.getD aE.toNat 0).toNat:Int)).bind fun r4=>
 if 0≤r4 then
 some (aJ (aE+1)) else
 some aE else none else none
theorem JW:aD Tryd.prog S (CY (qx)):=
 aZ pk [G2,Bj] ⟨KI,Dg,trivial⟩ Tryd.func26 (by kernel_rfl) (fun _=>by kernel_rfl) (by kernel_rfl)
abbrev J1:=(List UInt8)→Int→Option (an×Int)
abbrev C1 (f:J1):Entry S:=⟨11,[q0,q1],[q4,q1],fun x=>f x.1 x.2⟩
def qz  (text:List UInt8) (aE:Int):Option (an×Int):=if 0≤aE then
 if aE<(text.length:Int) then
 (kL ((text.getD aE.toNat 0).toNat:Int)).bind fun r1=>
 bif r1.2 then
 (qv text aE).bind fun r2=>
 if 0≤r2 then
 if r2≤(text.length:Int) then
 if 0≤aE then
 if aE≤r2 then
 (qw (cut text aE r2)).bind fun r3=>
 if r3.2≠0 then
 some (an.mk 0 0 0 [] 0,r3.2) else
 if 0≤r2 then
 if r2≤(text.length:Int) then
 if 0≤aE then
 if aE≤r2 then
 some (an.mk 2 aE r2 (cut text aE r2) r3.1,0) else none else none else none else none else none else none else none else none else
 bif r1.1 then
 (qv text aE).bind fun r4=>
 if 24<(aJ (r4 - aE)) then
 some (an.mk 0 0 0 [] 0,13) else
 if 0≤r4 then
 if r4≤(text.length:Int) then
 if 0≤aE then
 if aE≤r4 then
 some (an.mk 1 aE r4 (cut text aE r4) 0,0) else none else none else none else none else
 (qx text aE).bind fun r5=>
 if r5=aE then
 some (an.mk 0 0 0 [] 0,10) else
 if 0≤r5 then
 if r5≤(text.length:Int) then
 if 0≤aE then
 if aE≤r5 then
 some (an.mk 3 aE r5 (cut text aE r5) 0,0) else none else none else none else none else none else none
theorem J0:aD Tryd.prog S (C1 (qz)):=
 aZ pk [yp kL,CV qv,CX qw,CY qx] ⟨CW,JR,JU,JW,trivial⟩ Tryd.func11 (by kernel_rfl) (fun _=>by kernel_rfl) (by kernel_rfl)
abbrev JP:=(List UInt8)→Option (List an×aS)
abbrev CU (f:JP):Entry S:=⟨7,[q0],[q5,q6],fun x=>f x⟩
def l9:Nat→(List UInt8)→Int→Int→(List an)→Int→Option (List an×aS)
 | 0,_,_,_,_,_=>none
 | k+1,text,OJ,OI,l,aE=>if aE<(text.length:Int) then
  (qz text aE).bind fun r2=>
  if r2.2≠0 then
  some ([],aS.mk r2.2 aE) else
  if (l.length+ [r2.1].length)*48≤140737488355328 then
  (qy text r2.1.End).bind fun r3=>
  l9 k text OJ OI (l++ [r2.1]) r3 else none else
  if (l.length+ [an.mk 4 aE aE [] 0].length)*48≤140737488355328 then
  some (l++ [an.mk 4 aE aE [] 0],aS.mk 0 0) else none
def ym (k:Nat) (text:List UInt8):Option (List an×aS):=if 16384<(text.length:Int) then
 some ([],aS.mk 13 16384) else
 (qy text 0).bind fun r1=>
 l9 k text 0 0 [] r1
def tI  (text:List UInt8):Option (List an×aS):=dn (fun k (x:List UInt8)=>ym k x) text
theorem JO:aD Tryd.prog S (CU (tI)):=gA (fun k x=>ym k x) (fun _=>rfl) fun k=>
 fC pk [C0 qy,C1 qz] ⟨JY,J0,trivial⟩ Tryd.func7 [] k (fun k=> [(0,⟨[0,3,4,5],[q0,q7,q5,q1],fun x=>l9 k x.1 x.2.1.1 x.2.1.2 x.2.2.1 x.2.2.2,false⟩)]) ⟨fun _=>rfl,trivial⟩ (fun _=>by kernel_rfl) (fun _=>by kernel_rfl) (by kernel_rfl)
abbrev LR:=au→Option (Bool×au)
abbrev uc (f:LR):Entry S:=⟨9,[q8],[q3],fun x=>f x⟩
def jl  (r_:au):Option (Bool×au):=some (decide (r_.Row.ak.Code=0),r_)
theorem zi:aD Tryd.prog S (uc (jl)):=
 aZ pk [] trivial Tryd.func9 (by kernel_rfl) (fun _=>by kernel_rfl) (by kernel_rfl)
abbrev LA:=au→Option (an×au)
abbrev iG (f:LA):Entry S:=⟨20,[q8],[q4],fun x=>f x⟩
def dy  (r_:au):Option (an×au):=(jl r_).bind fun r1=>
 bif !r1.1 then
 some (an.mk 4 0 0 [] 0,r1.2) else
 if r1.2.Row.At<0 then
 some (an.mk 4 0 0 [] 0,r1.2) else
 if (r1.2.Row.L.length:Int)≤r1.2.Row.At then
 some (an.mk 4 0 0 [] 0,r1.2) else
 if 0≤r1.2.Row.At then
 if r1.2.Row.At<(r1.2.Row.L.length:Int) then
 some (r1.2.Row.L.getD r1.2.Row.At.toNat an.z,r1.2) else none else none
theorem jj:aD Tryd.prog S (iG (dy)):=
 aZ pk [uc jl] ⟨zi,trivial⟩ Tryd.func20 (by kernel_rfl) (fun _=>by kernel_rfl) (by kernel_rfl)
abbrev Lv:=au→(List UInt8)→Option (Bool×au)
abbrev zd (f:Lv):Entry S:=⟨28,[q8,q0],[q3],fun x=>f x.1 x.2⟩
def gQ  (r_:au) (s:List UInt8):Option (Bool×au):=(dy r_).bind fun r1=>
 if r1.1.Kind=3 then
 some (decide (r1.1.Text=s),r1.2) else
 if r1.1.Kind=1 then
 some (decide (r1.1.Text=s),r1.2) else
 some (false,r1.2)
theorem DD:aD Tryd.prog S (zd (gQ)):=
 aZ pk [iG dy] ⟨jj,trivial⟩ Tryd.func28 (by kernel_rfl) (fun _=>by kernel_rfl) (by kernel_rfl)
abbrev LW:=au→(List UInt8)→Option (Bool×au)
abbrev qT (f:LW):Entry S:=⟨27,[q8,q0],[q3],fun x=>f x.1 x.2⟩
def eF  (r_:au) (s:List UInt8):Option (Bool×au):=(gQ r_ s).bind fun r1=>
 bif r1.1 then
 some (r1.1,au.mk (aX.mk r1.2.Row.L (aJ (r1.2.Row.At+1)) r1.2.Row.ak)) else
 some (r1.1,r1.2)
theorem ud:aD Tryd.prog S (qT (eF)):=
 aZ pk [zd gQ] ⟨DD,trivial⟩ Tryd.func27 (by kernel_rfl) (fun _=>by kernel_rfl) (by kernel_rfl)
abbrev Lm:=au→Int→Int→Option au
abbrev tS (f:Lm):Entry S:=⟨16,[q8,q1,q1],[],fun x=>f x.1 x.2.1 x.2.2⟩
def ga  (r_:au) (code:Int) (aE:Int):Option au:=(jl r_).bind fun r1=>
 bif r1.1 then
 some (au.mk (aX.mk r1.2.Row.L r1.2.Row.At (aS.mk code aE))) else
 some r1.2
theorem y7:aD Tryd.prog S (tS (ga)):=
 aZ pk [uc jl] ⟨zi,trivial⟩ Tryd.func16 (by kernel_rfl) (fun _=>by kernel_rfl) (by kernel_rfl)
abbrev L5:=au→Option au
abbrev qY (f:L5):Entry S:=⟨21,[q8],[],fun x=>f x⟩
def gz  (r_:au):Option au:=(dy r_).bind fun r1=>
 if r1.1.Kind=4 then
 (ga r1.2 12 r1.1.At).bind fun r2=>
 some r2 else
 (ga r1.2 11 r1.1.At).bind fun r3=>
 some r3
theorem uk:aD Tryd.prog S (qY (gz)):=
 aZ pk [iG dy,tS ga] ⟨jj,y7,trivial⟩ Tryd.func21 (by kernel_rfl) (fun _=>by kernel_rfl) (by kernel_rfl)
abbrev L1:=au→(List UInt8)→Option au
abbrev kY (f:L1):Entry S:=⟨12,[q8,q0],[],fun x=>f x.1 x.2⟩
def b8  (r_:au) (s:List UInt8):Option au:=(eF r_ s).bind fun r1=>
 bif !r1.1 then
 (gz r1.2).bind fun r2=>
 some r2 else
 some r1.2
theorem mh:aD Tryd.prog S (kY (b8)):=
 aZ pk [qT eF,qY gz] ⟨ud,uk,trivial⟩ Tryd.func12 (by kernel_rfl) (fun _=>by kernel_rfl) (by kernel_rfl)
abbrev LM:=au→Option (Int×au)
abbrev zg (f:LM):Entry S:=⟨13,[q8],[q1],fun x=>f x⟩
def mg  (r_:au):Option (Int×au):=(dy r_).bind fun r1=>
 if r1.1.Kind≠2 then
 (gz r1.2).bind fun r2=>
 some (0,r2) else
 some (r1.1.N,au.mk (aX.mk r1.2.Row.L (aJ (r1.2.Row.At+1)) r1.2.Row.ak))
theorem DI:aD Tryd.prog S (zg (mg)):=
 aZ pk [iG dy,qY gz] ⟨jj,uk,trivial⟩ Tryd.func13 (by kernel_rfl) (fun _=>by kernel_rfl) (by kernel_rfl)
abbrev Nj:=au→(List UInt8)→Int→Int→Option (Bool×au)
abbrev zR (f:Nj):Entry S:=⟨14,[q8,q0,q1,q1],[q3],fun x=>f x.1 x.2.1 x.2.2.1 x.2.2.2⟩
def gC  (r_:au) (word:List UInt8) (Ov:Int) (most:Int):Option (Bool×au):=(gQ r_ word).bind fun r1=>
 bif r1.1 then
 if Ov=most then
 (dy r1.2).bind fun r2=>
 (ga r2.2 15 r2.1.At).bind fun r3=>
 (gQ r3 word).bind fun r4=>
 some (r4.1,r4.2) else
 (gQ r1.2 word).bind fun r5=>
 some (r5.1,r5.2) else
 (gQ r1.2 word).bind fun r6=>
 some (r6.1,r6.2)
theorem Em:aD Tryd.prog S (zR (gC)):=
 aZ pk [zd gQ,iG dy,tS ga] ⟨DD,jj,y7,trivial⟩ Tryd.func14 (by kernel_rfl) (fun _=>by kernel_rfl) (by kernel_rfl)
abbrev LQ:=aA→Option (Bool×aA)
abbrev qQ (f:LQ):Entry S:=⟨9,[q9],[q3],fun x=>f x⟩
def jZ  (r_:aA):Option (Bool×aA):=some (decide (r_.Row.ak.Code=0),r_)
theorem t_:aD Tryd.prog S (qQ (jZ)):=
 aZ pk [] trivial Tryd.func9 (by kernel_rfl) (fun _=>by kernel_rfl) (by kernel_rfl)
abbrev Lz:=aA→Option (an×aA)
abbrev jY (f:Lz):Entry S:=⟨20,[q9],[q4],fun x=>f x⟩
def eS  (r_:aA):Option (an×aA):=(jZ r_).bind fun r1=>
 bif !r1.1 then
 some (an.mk 4 0 0 [] 0,r1.2) else
 if r1.2.Row.At<0 then
 some (an.mk 4 0 0 [] 0,r1.2) else
 if (r1.2.Row.L.length:Int)≤r1.2.Row.At then
 some (an.mk 4 0 0 [] 0,r1.2) else
 if 0≤r1.2.Row.At then
 if r1.2.Row.At<(r1.2.Row.L.length:Int) then
 some (r1.2.Row.L.getD r1.2.Row.At.toNat an.z,r1.2) else none else none
theorem kV:aD Tryd.prog S (jY (eS)):=
 aZ pk [qQ jZ] ⟨t_,trivial⟩ Tryd.func20 (by kernel_rfl) (fun _=>by kernel_rfl) (by kernel_rfl)
abbrev Lu:=aA→(List UInt8)→Option (Bool×aA)
abbrev qM (f:Lu):Entry S:=⟨28,[q9,q0],[q3],fun x=>f x.1 x.2⟩
def gw  (r_:aA) (s:List UInt8):Option (Bool×aA):=(eS r_).bind fun r1=>
 if r1.1.Kind=3 then
 some (decide (r1.1.Text=s),r1.2) else
 if r1.1.Kind=1 then
 some (decide (r1.1.Text=s),r1.2) else
 some (false,r1.2)
theorem tV:aD Tryd.prog S (qM (gw)):=
 aZ pk [jY eS] ⟨kV,trivial⟩ Tryd.func28 (by kernel_rfl) (fun _=>by kernel_rfl) (by kernel_rfl)
abbrev LV:=aA→(List UInt8)→Option (Bool×aA)
abbrev n6 (f:LV):Entry S:=⟨27,[q9,q0],[q3],fun x=>f x.1 x.2⟩
def fJ  (r_:aA) (s:List UInt8):Option (Bool×aA):=(gw r_ s).bind fun r1=>
 bif r1.1 then
 some (r1.1,aA.mk (aX.mk r1.2.Row.L (aJ (r1.2.Row.At+1)) r1.2.Row.ak)) else
 some (r1.1,r1.2)
theorem qS:aD Tryd.prog S (n6 (fJ)):=
 aZ pk [qM gw] ⟨tV,trivial⟩ Tryd.func27 (by kernel_rfl) (fun _=>by kernel_rfl) (by kernel_rfl)
abbrev Ll:=aA→Int→Int→Option aA
abbrev tR (f:Ll):Entry S:=⟨16,[q9,q1,q1],[],fun x=>f x.1 x.2.1 x.2.2⟩
def kS  (r_:aA) (code:Int) (aE:Int):Option aA:=(jZ r_).bind fun r1=>
 bif r1.1 then
 some (aA.mk (aX.mk r1.2.Row.L r1.2.Row.At (aS.mk code aE))) else
 some r1.2
theorem y6:aD Tryd.prog S (tR (kS)):=
 aZ pk [qQ jZ] ⟨t_,trivial⟩ Tryd.func16 (by kernel_rfl) (fun _=>by kernel_rfl) (by kernel_rfl)
abbrev L4:=aA→Option aA
abbrev uh (f:L4):Entry S:=⟨21,[q9],[],fun x=>f x⟩
def mm  (r_:aA):Option aA:=(eS r_).bind fun r1=>
 if r1.1.Kind=4 then
 (kS r1.2 12 r1.1.At).bind fun r2=>
 some r2 else
 (kS r1.2 11 r1.1.At).bind fun r3=>
 some r3
theorem zl:aD Tryd.prog S (uh (mm)):=
 aZ pk [jY eS,tR kS] ⟨kV,y6,trivial⟩ Tryd.func21 (by kernel_rfl) (fun _=>by kernel_rfl) (by kernel_rfl)
abbrev L0:=aA→(List UInt8)→Option aA
abbrev n7 (f:L0):Entry S:=⟨12,[q9,q0],[],fun x=>f x.1 x.2⟩
def dW  (r_:aA) (s:List UInt8):Option aA:=(fJ r_ s).bind fun r1=>
 bif !r1.1 then
 (mm r1.2).bind fun r2=>
 some r2 else
 some r1.2
theorem qW:aD Tryd.prog S (n7 (dW)):=
 aZ pk [n6 fJ,uh mm] ⟨qS,zl,trivial⟩ Tryd.func12 (by kernel_rfl) (fun _=>by kernel_rfl) (by kernel_rfl)
abbrev JQ:=(List UInt8)→Option Bool
abbrev qu (f:JQ):Entry S:=⟨48,[q0],[q3],fun x=>f x⟩
def iB  (s:List UInt8):Option Bool:=if s=k8 then
 if s=k8 then
 some true else
 some false else
 if s=k6 then
 if s=k6 then
 some true else
 some false else
 if s=oa then
 if s=oa then
 some true else
 some false else
 if s=u5 then
 if s=u5 then
 some true else
 some false else
 if s=uI then
 if s=uI then
 some true else
 some false else
 if s=u7 then
 if s=u7 then
 some true else
 some false else
 if s=uS then
 if s=uS then
 some true else
 some false else
 if s=u6 then
 if s=u6 then
 some true else
 some false else
 if s=u0 then
 if s=u0 then
 some true else
 some false else
 if s=uQ then
 if s=uQ then
 some true else
 some false else
 if s=uL then
 if s=uL then
 some true else
 some false else
 if s=uC then
 if s=uC then
 some true else
 some false else
 if s=uE then
 if s=uE then
 some true else
 some false else
 if s=uG then
 if s=uG then
 some true else
 some false else
 if s=rz then
 if s=rz then
 some true else
 some false else
 if s=ri then
 if s=ri then
 some true else
 some false else
 if s=uU then
 if s=uU then
 some true else
 some false else
 if s=uW then
 if s=uW then
 some true else
 some false else
 if s=uw then
 if s=uw then
 some true else
 some false else
 if s=uz then
 if s=uz then
 some true else
 some false else
 if s=rm then
 if s=rm then
 some true else
 some false else
 if s=uD then
 if s=uD then
 some true else
 some false else
 if s=ry then
 if s=ry then
 some true else
 some false else
 if s=rq then
 if s=rq then
 some true else
 some false else
 if s=oc then
 if s=oc then
 some true else
 some false else
 if s=uT then
 if s=uT then
 some true else
 some false else
 if s=uH then
 if s=uH then
 some true else
 some false else
 if s=rA then
 if s=rA then
 some true else
 some false else
 if s=n_ then
 if s=n_ then
 some true else
 some false else
 if s=uA then
 if s=uA then
 some true else
 some false else
 if s=j8 then
 if s=j8 then
 some true else
 some false else
 if s=ru then
 if s=ru then
 some true else
 some false else
 if s=rj then
 if s=rj then
 some true else
 some false else
 if s=mA then
 if s=mA then
 some true else
 some false else
 if s=oe then
 some true else
 some false
theorem tJ:aD Tryd.prog S (qu (iB)):=
 aZ pk [] trivial Tryd.func48 (by kernel_rfl) (fun _=>by kernel_rfl) (by kernel_rfl)
abbrev Lq:=aA→Option (Bool×aA)
abbrev DA (f:Lq):Entry S:=⟨41,[q9],[q3],fun x=>f x⟩
def y_  (r_:aA):Option (Bool×aA):=(eS r_).bind fun r1=>
 if r1.1.Kind=1 then
 (iB r1.1.Text).bind fun r2=>
 some (!r2,r1.2) else
 some (false,r1.2)
theorem Lp:aD Tryd.prog S (DA (y_)):=
 aZ pk [jY eS,qu iB] ⟨kV,tJ,trivial⟩ Tryd.func41 (by kernel_rfl) (fun _=>by kernel_rfl) (by kernel_rfl)
abbrev LF:=aA→Option (List UInt8×aA)
abbrev qO (f:LF):Entry S:=⟨30,[q9],[q0],fun x=>f x⟩
def jk  (r_:aA):Option (List UInt8×aA):=(y_ r_).bind fun r1=>
 bif !r1.1 then
 (mm r1.2).bind fun r2=>
 some ([],r2) else
 if 0≤(aJ ((aJ (r1.2.Row.At+1)) - 1)) then
 if (aJ ((aJ (r1.2.Row.At+1)) - 1))<(r1.2.Row.L.length:Int) then
 some ((r1.2.Row.L.getD (aJ ((aJ (r1.2.Row.At+1)) - 1)).toNat an.z).Text,aA.mk (aX.mk r1.2.Row.L (aJ (r1.2.Row.At+1)) r1.2.Row.ak)) else none else none
theorem tY:aD Tryd.prog S (qO (jk)):=
 aZ pk [DA y_,uh mm] ⟨Lp,zl,trivial⟩ Tryd.func30 (by kernel_rfl) (fun _=>by kernel_rfl) (by kernel_rfl)
abbrev LK:=aA→Option (Int×aA)
abbrev DH (f:LK):Entry S:=⟨13,[q9],[q1],fun x=>f x⟩
def qP  (r_:aA):Option (Int×aA):=(eS r_).bind fun r1=>
 if r1.1.Kind≠2 then
 (mm r1.2).bind fun r2=>
 some (0,r2) else
 some (r1.1.N,aA.mk (aX.mk r1.2.Row.L (aJ (r1.2.Row.At+1)) r1.2.Row.ak))
theorem LJ:aD Tryd.prog S (DH (qP)):=
 aZ pk [jY eS,uh mm] ⟨kV,zl,trivial⟩ Tryd.func13 (by kernel_rfl) (fun _=>by kernel_rfl) (by kernel_rfl)
abbrev GA:=aA→Option (cV×aA)
abbrev wA (f:GA):Entry S:=⟨38,[q9],[K2],fun x=>f x⟩
def o8  (r_:aA):Option (cV×aA):=(eS r_).bind fun r1=>
 (jk r1.2).bind fun r2=>
 some (cV.mk r2.1 0 r1.1.At,r2.2)
theorem A3:aD Tryd.prog S (wA (o8)):=
 aZ pk [jY eS,qO jk] ⟨kV,tY,trivial⟩ Tryd.func38 (by kernel_rfl) (fun _=>by kernel_rfl) (by kernel_rfl)
abbrev GC:=aA→(List UInt8)→Option (List cV×aA)
abbrev A5 (f:GC):Entry S:=⟨39,[q9,q0],[Dl],fun x=>f x.1 x.2⟩
def wB:Nat→(List an)→Int→Int→Int→(List UInt8)→(List cV)→Option (List cV×aA)
 | 0,_,_,_,_,_,_=>none
 | k+1,bK,bH,bJ,bI,word,l=>(fJ (aA.mk (aX.mk bK bH (aS.mk bJ bI))) word).bind fun r1=>
  bif r1.1 then
  (o8 r1.2).bind fun r2=>
  if (l.length+ [r2.1].length)*32≤140737488355328 then
  (dW r2.2 cY).bind fun r3=>
  wB k r3.Row.L r3.Row.At r3.Row.ak.Code r3.Row.ak.At word (l++ [r2.1]) else none else
  some (l,r1.2)
def A4 (k:Nat) (r_:aA) (word:List UInt8):Option (List cV×aA):=wB k r_.Row.L r_.Row.At r_.Row.ak.Code r_.Row.ak.At word []
def sE  (r_:aA) (word:List UInt8):Option (List cV×aA):=dn (fun k (x:aA×List UInt8)=>A4 k x.1 x.2) (r_,word)
theorem GB:aD Tryd.prog S (A5 (sE)):=gA (fun k x=>A4 k x.1 x.2) (fun _=>rfl) fun k=>
 fC pk [n6 fJ,wA o8,n7 dW] ⟨qS,A3,qW,trivial⟩ Tryd.func39 [] k (fun k=> [(0,⟨[0,1,5],[ey,q0,Dl],fun x=>wB k x.1.1 x.1.2.1 x.1.2.2.1 x.1.2.2.2 x.2.1 x.2.2,false⟩)]) ⟨fun _=>rfl,trivial⟩ (fun _=>by kernel_rfl) (fun _=>by kernel_rfl) (by kernel_rfl)
abbrev Gt:=aA→Option (Int×aA)
abbrev AW (f:Gt):Entry S:=⟨46,[q9],[q1],fun x=>f x⟩
def mZ  (r_:aA):Option (Int×aA):=(gw r_ u0).bind fun r1=>
 bif r1.1 then
 some (1,r1.2) else
 (gw r1.2 uQ).bind fun r2=>
 bif r2.1 then
 some (2,r2.2) else
 (gw r2.2 uL).bind fun r3=>
 bif r3.1 then
 some (3,r3.2) else
 (gw r3.2 uC).bind fun r4=>
 bif r4.1 then
 some (4,r4.2) else
 some (0,r4.2)
theorem Gs:aD Tryd.prog S (AW (mZ)):=
 aZ pk [qM gw] ⟨tV,trivial⟩ Tryd.func46 (by kernel_rfl) (fun _=>by kernel_rfl) (by kernel_rfl)
abbrev LS:=aM→Option (Bool×aM)
abbrev n4 (f:LS):Entry S:=⟨9,[fu],[q3],fun x=>f x⟩
def iH  (r_:aM):Option (Bool×aM):=some (decide (r_.Row.ak.Code=0),r_)
theorem qR:aD Tryd.prog S (n4 (iH)):=
 aZ pk [] trivial Tryd.func9 (by kernel_rfl) (fun _=>by kernel_rfl) (by kernel_rfl)
abbrev LB:=aM→Option (an×aM)
abbrev mc (f:LB):Entry S:=⟨20,[fu],[q4],fun x=>f x⟩
def gx  (r_:aM):Option (an×aM):=(iH r_).bind fun r1=>
 bif !r1.1 then
 some (an.mk 4 0 0 [] 0,r1.2) else
 if r1.2.Row.At<0 then
 some (an.mk 4 0 0 [] 0,r1.2) else
 if (r1.2.Row.L.length:Int)≤r1.2.Row.At then
 some (an.mk 4 0 0 [] 0,r1.2) else
 if 0≤r1.2.Row.At then
 if r1.2.Row.At<(r1.2.Row.L.length:Int) then
 some (r1.2.Row.L.getD r1.2.Row.At.toNat an.z,r1.2) else none else none
theorem nY:aD Tryd.prog S (mc (gx)):=
 aZ pk [n4 iH] ⟨qR,trivial⟩ Tryd.func20 (by kernel_rfl) (fun _=>by kernel_rfl) (by kernel_rfl)
abbrev Lw:=aM→(List UInt8)→Option (Bool×aM)
abbrev qN (f:Lw):Entry S:=⟨28,[fu,q0],[q3],fun x=>f x.1 x.2⟩
def ji  (r_:aM) (s:List UInt8):Option (Bool×aM):=(gx r_).bind fun r1=>
 if r1.1.Kind=3 then
 some (decide (r1.1.Text=s),r1.2) else
 if r1.1.Kind=1 then
 some (decide (r1.1.Text=s),r1.2) else
 some (false,r1.2)
theorem tW:aD Tryd.prog S (qN (ji)):=
 aZ pk [mc gx] ⟨nY,trivial⟩ Tryd.func28 (by kernel_rfl) (fun _=>by kernel_rfl) (by kernel_rfl)
abbrev Ln:=aM→Int→Int→Option aM
abbrev tT (f:Ln):Entry S:=⟨16,[fu,q1,q1],[],fun x=>f x.1 x.2.1 x.2.2⟩
def kR  (r_:aM) (code:Int) (aE:Int):Option aM:=(iH r_).bind fun r1=>
 bif r1.1 then
 some (aM.mk (aX.mk r1.2.Row.L r1.2.Row.At (aS.mk code aE)) r1.2.cU) else
 some r1.2
theorem y8:aD Tryd.prog S (tT (kR)):=
 aZ pk [n4 iH] ⟨qR,trivial⟩ Tryd.func16 (by kernel_rfl) (fun _=>by kernel_rfl) (by kernel_rfl)
abbrev LX:=aM→(List UInt8)→Option (Bool×aM)
abbrev qU (f:LX):Entry S:=⟨27,[fu,q0],[q3],fun x=>f x.1 x.2⟩
def gy  (r_:aM) (s:List UInt8):Option (Bool×aM):=(ji r_ s).bind fun r1=>
 bif r1.1 then
 some (r1.1,aM.mk (aX.mk r1.2.Row.L (aJ (r1.2.Row.At+1)) r1.2.Row.ak) r1.2.cU) else
 some (r1.1,r1.2)
theorem ue:aD Tryd.prog S (qU (gy)):=
 aZ pk [qN ji] ⟨tW,trivial⟩ Tryd.func27 (by kernel_rfl) (fun _=>by kernel_rfl) (by kernel_rfl)
abbrev L6:=aM→Option aM
abbrev qZ (f:L6):Entry S:=⟨21,[fu],[],fun x=>f x⟩
def jm  (r_:aM):Option aM:=(gx r_).bind fun r1=>
 if r1.1.Kind=4 then
 (kR r1.2 12 r1.1.At).bind fun r2=>
 some r2 else
 (kR r1.2 11 r1.1.At).bind fun r3=>
 some r3
theorem um:aD Tryd.prog S (qZ (jm)):=
 aZ pk [mc gx,tT kR] ⟨nY,y8,trivial⟩ Tryd.func21 (by kernel_rfl) (fun _=>by kernel_rfl) (by kernel_rfl)
abbrev L2:=aM→(List UInt8)→Option aM
abbrev qX (f:L2):Entry S:=⟨12,[fu,q0],[],fun x=>f x.1 x.2⟩
def eT  (r_:aM) (s:List UInt8):Option aM:=(gy r_ s).bind fun r1=>
 bif !r1.1 then
 (jm r1.2).bind fun r2=>
 some r2 else
 some r1.2
theorem uf:aD Tryd.prog S (qX (eT)):=
 aZ pk [qU gy,qZ jm] ⟨ue,um,trivial⟩ Tryd.func12 (by kernel_rfl) (fun _=>by kernel_rfl) (by kernel_rfl)
abbrev Ls:=aM→Option (Bool×aM)
abbrev zb (f:Ls):Entry S:=⟨41,[fu],[q3],fun x=>f x⟩
def qK  (r_:aM):Option (Bool×aM):=(gx r_).bind fun r1=>
 if r1.1.Kind=1 then
 (iB r1.1.Text).bind fun r2=>
 some (!r2,r1.2) else
 some (false,r1.2)
theorem DC:aD Tryd.prog S (zb (qK)):=
 aZ pk [mc gx,qu iB] ⟨nY,tJ,trivial⟩ Tryd.func41 (by kernel_rfl) (fun _=>by kernel_rfl) (by kernel_rfl)
abbrev LI:=aM→Option (List UInt8×aM)
abbrev DG (f:LI):Entry S:=⟨30,[fu],[q0],fun x=>f x⟩
def kW  (r_:aM):Option (List UInt8×aM):=(qK r_).bind fun r1=>
 bif !r1.1 then
 (jm r1.2).bind fun r2=>
 some ([],r2) else
 if 0≤(aJ ((aJ (r1.2.Row.At+1)) - 1)) then
 if (aJ ((aJ (r1.2.Row.At+1)) - 1))<(r1.2.Row.L.length:Int) then
 some ((r1.2.Row.L.getD (aJ ((aJ (r1.2.Row.At+1)) - 1)).toNat an.z).Text,aM.mk (aX.mk r1.2.Row.L (aJ (r1.2.Row.At+1)) r1.2.Row.ak) r1.2.cU) else none else none
theorem LH:aD Tryd.prog S (DG (kW)):=
 aZ pk [zb qK,qZ jm] ⟨DC,um,trivial⟩ Tryd.func30 (by kernel_rfl) (fun _=>by kernel_rfl) (by kernel_rfl)
abbrev LP:=aP→Option (Bool×aP)
abbrev tZ (f:LP):Entry S:=⟨9,[gv],[q3],fun x=>f x⟩
def kX  (r_:aP):Option (Bool×aP):=some (decide (r_.Row.ak.Code=0),r_)
theorem zh:aD Tryd.prog S (tZ (kX)):=
 aZ pk [] trivial Tryd.func9 (by kernel_rfl) (fun _=>by kernel_rfl) (by kernel_rfl)
abbrev Ly:=aP→Option (an×aP)
abbrev mb (f:Ly):Entry S:=⟨20,[gv],[q4],fun x=>f x⟩
def fI  (r_:aP):Option (an×aP):=(kX r_).bind fun r1=>
 bif !r1.1 then
 some (an.mk 4 0 0 [] 0,r1.2) else
 if r1.2.Row.At<0 then
 some (an.mk 4 0 0 [] 0,r1.2) else
 if (r1.2.Row.L.length:Int)≤r1.2.Row.At then
 some (an.mk 4 0 0 [] 0,r1.2) else
 if 0≤r1.2.Row.At then
 if r1.2.Row.At<(r1.2.Row.L.length:Int) then
 some (r1.2.Row.L.getD r1.2.Row.At.toNat an.z,r1.2) else none else none
theorem nX:aD Tryd.prog S (mb (fI)):=
 aZ pk [tZ kX] ⟨zh,trivial⟩ Tryd.func20 (by kernel_rfl) (fun _=>by kernel_rfl) (by kernel_rfl)
abbrev Lt:=aP→(List UInt8)→Option (Bool×aP)
abbrev tU (f:Lt):Entry S:=⟨28,[gv,q0],[q3],fun x=>f x.1 x.2⟩
def kU  (r_:aP) (s:List UInt8):Option (Bool×aP):=(fI r_).bind fun r1=>
 if r1.1.Kind=3 then
 some (decide (r1.1.Text=s),r1.2) else
 if r1.1.Kind=1 then
 some (decide (r1.1.Text=s),r1.2) else
 some (false,r1.2)
theorem zc:aD Tryd.prog S (tU (kU)):=
 aZ pk [mb fI] ⟨nX,trivial⟩ Tryd.func28 (by kernel_rfl) (fun _=>by kernel_rfl) (by kernel_rfl)
abbrev Lj:=aP→Int→Int→Option aP
abbrev y5 (f:Lj):Entry S:=⟨16,[gv,q1,q1],[],fun x=>f x.1 x.2.1 x.2.2⟩
def nW  (r_:aP) (code:Int) (aE:Int):Option aP:=(kX r_).bind fun r1=>
 bif r1.1 then
 some (aP.mk (aX.mk r1.2.Row.L r1.2.Row.At (aS.mk code aE)) r1.2.cU) else
 some r1.2
theorem Dy:aD Tryd.prog S (y5 (nW)):=
 aZ pk [tZ kX] ⟨zh,trivial⟩ Tryd.func16 (by kernel_rfl) (fun _=>by kernel_rfl) (by kernel_rfl)
abbrev G_:=aP→Int→Option (Bool×aP)
abbrev wR (f:G_):Entry S:=⟨85,[gv,q1],[q3],fun x=>f x.1 x.2⟩
def nj  (r_:aP) (aE:Int):Option (Bool×aP):=if r_.cU=12 then
 (nW r_ 14 aE).bind fun r1=>
 some (false,r1) else
 some (true,aP.mk (aX.mk r_.Row.L (aJ (r_.Row.At+1)) r_.Row.ak) (aJ (r_.cU+1)))
theorem Bz:aD Tryd.prog S (wR (nj)):=
 aZ pk [y5 nW] ⟨Dy,trivial⟩ Tryd.func85 (by kernel_rfl) (fun _=>by kernel_rfl) (by kernel_rfl)
abbrev LU:=aP→(List UInt8)→Option (Bool×aP)
abbrev zj (f:LU):Entry S:=⟨27,[gv,q0],[q3],fun x=>f x.1 x.2⟩
def n5  (r_:aP) (s:List UInt8):Option (Bool×aP):=(kU r_ s).bind fun r1=>
 bif r1.1 then
 some (r1.1,aP.mk (aX.mk r1.2.Row.L (aJ (r1.2.Row.At+1)) r1.2.Row.ak) r1.2.cU) else
 some (r1.1,r1.2)
theorem DK:aD Tryd.prog S (zj (n5)):=
 aZ pk [tU kU] ⟨zc,trivial⟩ Tryd.func27 (by kernel_rfl) (fun _=>by kernel_rfl) (by kernel_rfl)
abbrev Lo:=aP→Option (Bool×aP)
abbrev y9 (f:Lo):Entry S:=⟨41,[gv],[q3],fun x=>f x⟩
def qL  (r_:aP):Option (Bool×aP):=(fI r_).bind fun r1=>
 if r1.1.Kind=1 then
 (iB r1.1.Text).bind fun r2=>
 some (!r2,r1.2) else
 some (false,r1.2)
theorem Dz:aD Tryd.prog S (y9 (qL)):=
 aZ pk [mb fI,qu iB] ⟨nX,tJ,trivial⟩ Tryd.func41 (by kernel_rfl) (fun _=>by kernel_rfl) (by kernel_rfl)
abbrev L3:=aP→Option aP
abbrev ug (f:L3):Entry S:=⟨21,[gv],[],fun x=>f x⟩
def mj  (r_:aP):Option aP:=(fI r_).bind fun r1=>
 if r1.1.Kind=4 then
 (nW r1.2 12 r1.1.At).bind fun r2=>
 some r2 else
 (nW r1.2 11 r1.1.At).bind fun r3=>
 some r3
theorem zk:aD Tryd.prog S (ug (mj)):=
 aZ pk [mb fI,y5 nW] ⟨nX,Dy,trivial⟩ Tryd.func21 (by kernel_rfl) (fun _=>by kernel_rfl) (by kernel_rfl)
abbrev LD:=aP→Option (List UInt8×aP)
abbrev DE (f:LD):Entry S:=⟨30,[gv],[q0],fun x=>f x⟩
def tX  (r_:aP):Option (List UInt8×aP):=(qL r_).bind fun r1=>
 bif !r1.1 then
 (mj r1.2).bind fun r2=>
 some ([],r2) else
 if 0≤(aJ ((aJ (r1.2.Row.At+1)) - 1)) then
 if (aJ ((aJ (r1.2.Row.At+1)) - 1))<(r1.2.Row.L.length:Int) then
 some ((r1.2.Row.L.getD (aJ ((aJ (r1.2.Row.At+1)) - 1)).toNat an.z).Text,aP.mk (aX.mk r1.2.Row.L (aJ (r1.2.Row.At+1)) r1.2.Row.ak) r1.2.cU) else none else none
theorem LC:aD Tryd.prog S (DE (tX)):=
 aZ pk [y9 qL,ug mj] ⟨Dz,zk,trivial⟩ Tryd.func30 (by kernel_rfl) (fun _=>by kernel_rfl) (by kernel_rfl)
abbrev LZ:=aP→(List UInt8)→Option aP
abbrev DL (f:LZ):Entry S:=⟨12,[gv,q0],[],fun x=>f x.1 x.2⟩
def qV  (r_:aP) (s:List UInt8):Option aP:=(n5 r_ s).bind fun r1=>
 bif !r1.1 then
 (mj r1.2).bind fun r2=>
 some r2 else
 some r1.2
theorem LY:aD Tryd.prog S (DL (qV)):=
 aZ pk [zj n5,ug mj] ⟨DK,zk,trivial⟩ Tryd.func12 (by kernel_rfl) (fun _=>by kernel_rfl) (by kernel_rfl)
abbrev iu:=aP→Int→Option (aR×aP)
abbrev jJ (f:iu):Entry S:=⟨71,[gv,q1],[tO],fun x=>f x.1 x.2⟩
abbrev Hh:=aP→Option (aR×aP)
abbrev BA (f:Hh):Entry S:=⟨84,[gv],[tO],fun x=>f x⟩
def wT (b9:iu)  (r_:aP):Option (aR×aP):=(fI r_).bind fun r1=>
 if r1.1.Kind=2 then
 some (aR.mk 1 r1.1.N [] [] r1.1.At,aP.mk (aX.mk r1.2.Row.L (aJ (r1.2.Row.At+1)) r1.2.Row.ak) r1.2.cU) else
 (n5 r1.2 DY).bind fun r2=>
 bif r2.1 then
 some (aR.mk 3 0 [] [] r1.1.At,r2.2) else
 (qL r2.2).bind fun r3=>
 bif r3.1 then
 (tX r3.2).bind fun r4=>
 some (aR.mk 2 0 r4.1 [] r1.1.At,r4.2) else
 (n5 r3.2 rq).bind fun r5=>
 bif r5.1 then
 (qV r5.2 mB).bind fun r6=>
 (tX r6).bind fun r7=>
 (qV r7.2 rB).bind fun r8=>
 some (aR.mk 4 0 r7.1 [] r1.1.At,r8) else
 (kU r5.2 mB).bind fun r9=>
 bif !r9.1 then
 (mj r9.2).bind fun bB=>
 some (aR.mk 0 0 [] [] 0,bB) else
 (nj r9.2 r1.1.At).bind fun cW=>
 bif !cW.1 then
 some (aR.mk 0 0 [] [] 0,cW.2) else
 (b9 cW.2 1).bind fun cD=>
 (qV cD.2 rB).bind fun cK=>
 some (aR.mk cD.1.Kind cD.1.N cD.1.Name cD.1.Kids cD.1.At,aP.mk cK.Row (aJ (cK.cU - 1)))
theorem Hg (b9:iu) (kH:aD Tryd.prog S (jJ b9)):aD Tryd.prog S (BA (wT b9)):=
 aZ pk [mb fI,zj n5,y9 qL,DE tX,DL qV,tU kU,ug mj,wR nj,jJ b9] ⟨nX,DK,Dz,LC,LY,zc,zk,Bz,kH,trivial⟩ Tryd.func84 (by kernel_rfl) (fun _=>by kernel_rfl) (by kernel_rfl)
abbrev wU:=aP→Option (aR×aP)
abbrev pI (f:wU):Entry S:=⟨74,[gv],[tO],fun x=>f x⟩
def BB (og:wU) (b9:iu) (k:Nat) (r_:aP):Option (aR×aP):=(fI r_).bind fun r1=>
 (kU r1.2 mC).bind fun r2=>
 bif r2.1 then
 (nj r2.2 r1.1.At).bind fun r3=>
 bif !r3.1 then
 some (aR.mk 0 0 [] [] 0,r3.2) else
 (og r3.2).bind fun r4=>
 some (aR.mk 5 0 [] [aR.mk r4.1.Kind r4.1.N r4.1.Name r4.1.Kids r4.1.At] r1.1.At,aP.mk r4.2.Row (aJ (r4.2.cU - 1))) else
 (kU r2.2 DX).bind fun r5=>
 bif r5.1 then
 (nj r5.2 r1.1.At).bind fun r6=>
 bif !r6.1 then
 some (aR.mk 0 0 [] [] 0,r6.2) else
 (og r6.2).bind fun r7=>
 some (aR.mk 6 0 [] [aR.mk r7.1.Kind r7.1.N r7.1.Name r7.1.Kids r7.1.At] r1.1.At,aP.mk r7.2.Row (aJ (r7.2.cU - 1))) else
 (wT b9 r5.2).bind fun r8=>
 some (aR.mk r8.1.Kind r8.1.N r8.1.Name r8.1.Kids r8.1.At,r8.2)
def pH (b9:iu):Nat→aP→Option (aR×aP)
 | 0,_=>none
 | k+1,x0=>BB (pH b9 k) b9 k x0
def pG (b9:iu)  (r_:aP):Option (aR×aP):=dn (fun k (x:aP)=>pH b9 k x) r_
theorem Hj (og:wU) (b9:iu) (k:Nat) (HX:aD Tryd.prog S (pI og)) (kH:aD Tryd.prog S (jJ b9)):aD Tryd.prog S (pI (BB og b9 k)):=
 aZ pk [mb fI,tU kU,wR nj,pI og,BA (wT b9)] ⟨nX,zc,Bz,HX,Hg b9 kH,trivial⟩ Tryd.func74 (by kernel_rfl) (fun _=>by kernel_rfl) (by kernel_rfl)
theorem Hi (b9:iu) (kH:aD Tryd.prog S (jJ b9)):aD Tryd.prog S (pI (pG b9)):=ve (fun k x=>pH b9 k x) (fun _=>rfl) Tryd.func74 (by kernel_rfl) (fun _=>rfl) fun k h=>Hj (pH b9 k) b9 k h kH
abbrev Ho:=(List UInt8)→Option (Int×Int)
abbrev BC (f:Ho):Entry S:=⟨75,[q0],[q1,q1],fun x=>f x⟩
def pJ  (text:List UInt8):Option (Int×Int):=if text=uy then
 some (19,1) else
 if text=uv then
 some (18,2) else
 if text=uN then
 some (12,3) else
 if text=uO then
 some (13,3) else
 if text=uJ then
 some (14,3) else
 if text=uK then
 some (15,3) else
 if text=uF then
 some (16,3) else
 if text=ux then
 some (17,3) else
 if text=mD then
 some (10,4) else
 if text=mC then
 some (11,4) else
 if text=uZ then
 some (7,5) else
 if text=uX then
 some (8,5) else
 if text=uR then
 some (9,5) else
 some (0,0)
theorem Hl:aD Tryd.prog S (BC (pJ)):=
 aZ pk [] trivial Tryd.func75 (by kernel_rfl) (fun _=>by kernel_rfl) (by kernel_rfl)
def pF (b9:iu):Nat→(List an)→Int→Int→Int→Int→Int→Int→Int→(List UInt8)→(List aR)→Int→Int→Int→(List UInt8)→(List aR)→Int→Option (aR×aP)
 | 0,_,_,_,_,_,_,_,_,_,_,_,_,_,_,_,_=>none
 | k+1,bK,bH,bJ,bI,qJ,level,OM,ON,OO,OL,OK,sO,sP,sQ,sN,sM=>(fI (aP.mk (aX.mk bK bH (aS.mk bJ bI)) qJ)).bind fun r3=>
  (pJ r3.1.Text).bind fun r4=>
  if r3.1.Kind≠3 then
  some (aR.mk sO sP sQ sN sM,r3.2) else
  if r4.2≠level then
  some (aR.mk sO sP sQ sN sM,r3.2) else
  (b9 (aP.mk (aX.mk r3.2.Row.L (aJ (r3.2.Row.At+1)) r3.2.Row.ak) r3.2.cU) (aJ (level+1))).bind fun r5=>
  if level=3 then
  some (aR.mk r4.1 0 [] [aR.mk sO sP sQ sN sM,aR.mk r5.1.Kind r5.1.N r5.1.Name r5.1.Kids r5.1.At] r3.1.At,r5.2) else
  pF b9 k r5.2.Row.L r5.2.Row.At r5.2.Row.ak.Code r5.2.Row.ak.At r5.2.cU level OM ON OO OL OK r4.1 0 [] [aR.mk sO sP sQ sN sM,aR.mk r5.1.Kind r5.1.N r5.1.Name r5.1.Kids r5.1.At] r3.1.At
def nk (b9:iu) (k:Nat) (r_:aP) (level:Int):Option (aR×aP):=if level=6 then
 (pG b9 r_).bind fun r1=>
 some (aR.mk r1.1.Kind r1.1.N r1.1.Name r1.1.Kids r1.1.At,r1.2) else
 (b9 r_ (aJ (level+1))).bind fun r2=>
 pF b9 k r2.2.Row.L r2.2.Row.At r2.2.Row.ak.Code r2.2.Row.ak.At r2.2.cU level 0 0 [] [] 0 r2.1.Kind r2.1.N r2.1.Name r2.1.Kids r2.1.At
def fB:Nat→aP→Int→Option (aR×aP)
 | 0,_,_=>none
 | k+1,x0,x1=>nk (fB k) k x0 x1
def wS  (r_:aP) (level:Int):Option (aR×aP):=dn (fun k (x:aP×Int)=>fB k x.1 x.2) (r_,level)
theorem Hf (b9:iu) (k:Nat) (kH:aD Tryd.prog S (jJ b9)):aD Tryd.prog S (jJ (nk b9 k)):=
 fC pk [pI (pG b9),jJ b9,mb fI,BC pJ] ⟨Hi b9 kH,kH,nX,Hl,trivial⟩ Tryd.func71 [] k (fun k=> [(0,⟨[0,1,4,5],[yS,q1,K3,K4],fun x=>pF b9 k x.1.1 x.1.2.1 x.1.2.2.1 x.1.2.2.2.1 x.1.2.2.2.2 x.2.1 x.2.2.1.1 x.2.2.1.2.1 x.2.2.1.2.2.1 x.2.2.1.2.2.2.1 x.2.2.1.2.2.2.2 x.2.2.2.1 x.2.2.2.2.1 x.2.2.2.2.2.1 x.2.2.2.2.2.2.1 x.2.2.2.2.2.2.2,false⟩)]) ⟨fun _=>rfl,trivial⟩ (fun _=>by kernel_rfl) (fun _=>by kernel_rfl) (by kernel_rfl)
theorem He:aD Tryd.prog S (jJ (wS)):=ve (fun k x=>fB k x.1 x.2) (fun _=>rfl) Tryd.func71 (by kernel_rfl) (fun _=>rfl) fun k h=>Hf (fB k) k h
abbrev G9:=(List an)→Int→Option (aR×Int×aS)
abbrev wQ (f:G9):Entry S:=⟨67,[yT,q1],[tO,q1,q6],fun x=>f x.1 x.2⟩
def pE  (l:List an) (aE:Int):Option (aR×Int×aS):=(wS (aP.mk (aX.mk l aE (aS.mk 0 0)) 0) 1).bind fun r1=>
 (kX r1.2).bind fun r2=>
 bif !r2.1 then
 some (aR.mk 0 0 [] [] 0,0,r2.2.Row.ak) else
 some (aR.mk r1.1.Kind r1.1.N r1.1.Name r1.1.Kids r1.1.At,r2.2.Row.At,aS.mk 0 0)
theorem By:aD Tryd.prog S (wQ (pE)):=
 aZ pk [jJ wS,tZ kX] ⟨He,zh,trivial⟩ Tryd.func67 (by kernel_rfl) (fun _=>by kernel_rfl) (by kernel_rfl)
abbrev FF:=aM→Option (List aR×aM)
abbrev vP (f:FF):Entry S:=⟨80,[fu],[yU],fun x=>f x⟩
def oU  (r_:aM):Option (List aR×aM):=(iH r_).bind fun r1=>
 bif !r1.1 then
 some ([],r1.2) else
 (pE r1.2.Row.L r1.2.Row.At).bind fun r2=>
 (kR r1.2 r2.2.2.Code r2.2.2.At).bind fun r3=>
 some ([aR.mk r2.1.Kind r2.1.N r2.1.Name r2.1.Kids r2.1.At],aM.mk (aX.mk r3.Row.L r2.2.1 r3.Row.ak) r3.cU)
theorem Am:aD Tryd.prog S (vP (oU)):=
 aZ pk [n4 iH,wQ pE,tT kR] ⟨qR,By,y8,trivial⟩ Tryd.func80 (by kernel_rfl) (fun _=>by kernel_rfl) (by kernel_rfl)
abbrev FG:=aM→Option (List aR×aM)
abbrev sn (f:FG):Entry S:=⟨82,[fu],[yU],fun x=>f x⟩
def lN  (r_:aM):Option (List aR×aM):=(eT r_ mB).bind fun r1=>
 (oU r1).bind fun r2=>
 (eT r2.2 rB).bind fun r3=>
 some (r2.1,r3)
theorem vQ:aD Tryd.prog S (sn (lN)):=
 aZ pk [qX eT,vP oU] ⟨uf,Am,trivial⟩ Tryd.func82 (by kernel_rfl) (fun _=>by kernel_rfl) (by kernel_rfl)
abbrev FI:=aM→Option (List aR×aM)
abbrev An (f:FI):Entry S:=⟨81,[fu],[yU],fun x=>f x⟩
def sr  (r_:aM):Option (List aR×aM):=(ji r_ mB).bind fun r1=>
 bif !r1.1 then
 some ([],r1.2) else
 (lN r1.2).bind fun r2=>
 some (r2.1,r2.2)
theorem FH:aD Tryd.prog S (An (sr)):=
 aZ pk [qN ji,sn lN] ⟨tW,vQ,trivial⟩ Tryd.func81 (by kernel_rfl) (fun _=>by kernel_rfl) (by kernel_rfl)
abbrev LO:=aM→Option (Int×aM)
abbrev DJ (f:LO):Entry S:=⟨13,[fu],[q1],fun x=>f x⟩
def zf  (r_:aM):Option (Int×aM):=(gx r_).bind fun r1=>
 if r1.1.Kind≠2 then
 (jm r1.2).bind fun r2=>
 some (0,r2) else
 some (r1.1.N,aM.mk (aX.mk r1.2.Row.L (aJ (r1.2.Row.At+1)) r1.2.Row.ak) r1.2.cU)
theorem LN:aD Tryd.prog S (DJ (zf)):=
 aZ pk [mc gx,qZ jm] ⟨nY,um,trivial⟩ Tryd.func13 (by kernel_rfl) (fun _=>by kernel_rfl) (by kernel_rfl)
abbrev jD:=aM→Option (List aQ×aM)
abbrev lM (f:jD):Entry S:=⟨70,[fu],[tP],fun x=>f x⟩
abbrev FK:=aM→aQ→Option (aQ×aM)
abbrev Ao (f:FK):Entry S:=⟨83,[fu,yV],[yV],fun x=>f x.1 x.2⟩
def su (cE:jD)  (r_:aM) (a:aQ):Option (aQ×aM):=(gy r_ ry).bind fun r1=>
 bif r1.1 then
 (zf r1.2).bind fun r2=>
 (cE r2.2).bind fun r3=>
 some (aQ.mk 7 a.Name a.Event a.X r2.1 r3.1 a.lG a.At,r3.2) else
 (eT r1.2 rm).bind fun r4=>
 (lN r4).bind fun r5=>
 (cE r5.2).bind fun r6=>
 (gy r6.2 uD).bind fun r7=>
 bif r7.1 then
 (cE r7.2).bind fun r8=>
 some (aQ.mk 6 a.Name a.Event r5.1 a.N r6.1 r8.1 a.At,r8.2) else
 some (aQ.mk 6 a.Name a.Event r5.1 a.N r6.1 a.lG a.At,r7.2)
theorem FJ (cE:jD) (pS:aD Tryd.prog S (lM cE)):aD Tryd.prog S (Ao (su cE)):=
 aZ pk [qU gy,DJ zf,lM cE,qX eT,sn lN] ⟨ue,LN,pS,uf,vQ,trivial⟩ Tryd.func83 (by kernel_rfl) (fun _=>by kernel_rfl) (by kernel_rfl)
abbrev FC:=aM→Option (aQ×aM)
abbrev Ak (f:FC):Entry S:=⟨73,[fu],[yV],fun x=>f x⟩
def vM (cE:jD)  (r_:aM):Option (aQ×aM):=(gx r_).bind fun r1=>
 (qK r1.2).bind fun r2=>
 bif r2.1 then
 (kW r2.2).bind fun r3=>
 (eT r3.2 DZ).bind fun r4=>
 (oU r4).bind fun r5=>
 (eT r5.2 cY).bind fun r6=>
 some (aQ.mk 1 r3.1 [] r5.1 0 [] [] r1.1.At,r6) else
 (gy r2.2 uU).bind fun r7=>
 bif r7.1 then
 (kW r7.2).bind fun r8=>
 (sr r8.2).bind fun r9=>
 (eT r9.2 cY).bind fun bB=>
 some (aQ.mk 2 [] r8.1 r9.1 0 [] [] r1.1.At,bB) else
 (gy r7.2 uW).bind fun cW=>
 bif cW.1 then
 (kW cW.2).bind fun cD=>
 (kW cD.2).bind fun cK=>
 (sr cK.2).bind fun eE=>
 (eT eE.2 cY).bind fun jh=>
 some (aQ.mk 3 cD.1 cK.1 eE.1 0 [] [] r1.1.At,jh) else
 (gy cW.2 uw).bind fun r16=>
 bif r16.1 then
 (kW r16.2).bind fun qG=>
 (lN qG.2).bind fun qH=>
 (eT qH.2 cY).bind fun yX=>
 some (aQ.mk 4 qG.1 [] qH.1 0 [] [] r1.1.At,yX) else
 (gy r16.2 uz).bind fun yY=>
 bif yY.1 then
 (kW yY.2).bind fun Dt=>
 (eT Dt.2 cY).bind fun Le=>
 some (aQ.mk 5 Dt.1 [] [] 0 [] [] r1.1.At,Le) else
 (ji yY.2 rm).bind fun qI=>
 bif qI.1 then
 bif qI.1 then
 (su cE qI.2 (aQ.mk 0 [] [] [] 0 [] [] r1.1.At)).bind fun jW=>
 some (aQ.mk jW.1.Kind jW.1.Name jW.1.Event jW.1.X jW.1.N jW.1.oT jW.1.lG jW.1.At,jW.2) else
 (jm qI.2).bind fun Lf=>
 (eT Lf cY).bind fun Lg=>
 some (aQ.mk 0 [] [] [] 0 [] [] r1.1.At,Lg) else
 (ji qI.2 ry).bind fun yZ=>
 bif yZ.1 then
 (su cE yZ.2 (aQ.mk 0 [] [] [] 0 [] [] r1.1.At)).bind fun jX=>
 some (aQ.mk jX.1.Kind jX.1.Name jX.1.Event jX.1.X jX.1.N jX.1.oT jX.1.lG jX.1.At,jX.2) else
 (jm yZ.2).bind fun Lh=>
 (eT Lh cY).bind fun Li=>
 some (aQ.mk 0 [] [] [] 0 [] [] r1.1.At,Li)
theorem FB (cE:jD) (pS:aD Tryd.prog S (lM cE)):aD Tryd.prog S (Ak (vM cE)):=
 aZ pk [mc gx,zb qK,DG kW,qX eT,vP oU,qU gy,An sr,sn lN,qN ji,Ao (su cE),qZ jm] ⟨nY,DC,LH,uf,Am,ue,FH,vQ,tW,FJ cE pS,um,trivial⟩ Tryd.func73 (by kernel_rfl) (fun _=>by kernel_rfl) (by kernel_rfl)
def vO (cE:jD):Nat→(List an)→Int→Int→Int→Int→(List aQ)→Option (List aQ×aM)
 | 0,_,_,_,_,_,_=>none
 | k+1,bK,bH,bJ,bI,qJ,l=>(iH (aM.mk (aX.mk bK bH (aS.mk bJ bI)) qJ)).bind fun r5=>
  bif r5.1 then
  (gy r5.2 iL).bind fun r6=>
  bif !r6.1 then
  (vM cE r6.2).bind fun r7=>
  if (l.length+ [r7.1].length)*128≤140737488355328 then
  vO cE k r7.2.Row.L r7.2.Row.At r7.2.Row.ak.Code r7.2.Row.ak.At r7.2.cU (l++ [r7.1]) else none else
  some (l,aM.mk r6.2.Row (aJ (r6.2.cU - 1))) else
  some (l,aM.mk r5.2.Row (aJ (r5.2.cU - 1)))
def si (cE:jD):Nat→(List an)→Int→Int→Int→Int→Option (List aQ×aM)
 | 0,_,_,_,_,_=>none
 | k+1,bK,bH,bJ,bI,qJ=>(eT (aM.mk (aX.mk bK bH (aS.mk bJ bI)) qJ) j9).bind fun r4=>
  vO cE k r4.Row.L r4.Row.At r4.Row.ak.Code r4.Row.ak.At (aJ (r4.cU+1)) []
def Al (cE:jD) (k:Nat) (r_:aM):Option (List aQ×aM):=(ji r_ j9).bind fun r1=>
 bif r1.1 then
 if r1.2.cU=4 then
 (gx r1.2).bind fun r2=>
 (kR r2.2 14 r2.1.At).bind fun r3=>
 si cE k r3.Row.L r3.Row.At r3.Row.ak.Code r3.Row.ak.At r3.cU else
 si cE k r1.2.Row.L r1.2.Row.At r1.2.Row.ak.Code r1.2.Row.ak.At r1.2.cU else
 si cE k r1.2.Row.L r1.2.Row.At r1.2.Row.ak.Code r1.2.Row.ak.At r1.2.cU
def sj:Nat→aM→Option (List aQ×aM)
 | 0,_=>none
 | k+1,x0=>Al (sj k) k x0
def vN  (r_:aM):Option (List aQ×aM):=dn (fun k (x:aM)=>sj k x) r_
theorem FE (cE:jD) (k:Nat) (pS:aD Tryd.prog S (lM cE)):aD Tryd.prog S (lM (Al cE k)):=
 fC pk [qN ji,mc gx,tT kR,qX eT,n4 iH,qU gy,Ak (vM cE)] ⟨tW,nY,y8,uf,qR,ue,FB cE pS,trivial⟩ Tryd.func70 [1] k (fun k=> [(1,⟨[0],[yS],fun x=>si cE k x.1 x.2.1 x.2.2.1 x.2.2.2.1 x.2.2.2.2,false⟩),(0,⟨[0,3],[yS,tP],fun x=>vO cE k x.1.1 x.1.2.1 x.1.2.2.1 x.1.2.2.2.1 x.1.2.2.2.2 x.2,false⟩)]) ⟨fun _=>rfl,fun _=>rfl,trivial⟩ (fun _=>by kernel_rfl) (fun _=>by kernel_rfl) (by kernel_rfl)
theorem FD:aD Tryd.prog S (lM (vN)):=ve (fun k x=>sj k x) (fun _=>rfl) Tryd.func70 (by kernel_rfl) (fun _=>rfl) fun k h=>FE (sj k) k h
abbrev FA:=(List an)→Int→Option (List aQ×Int×aS)
abbrev Aj (f:FA):Entry S:=⟨65,[yT,q1],[tP,q1,q6],fun x=>f x.1 x.2⟩
def vL  (l:List an) (aE:Int):Option (List aQ×Int×aS):=(vN (aM.mk (aX.mk l aE (aS.mk 0 0)) 0)).bind fun r1=>
 (iH r1.2).bind fun r2=>
 bif !r2.1 then
 some ([],0,r2.2.Row.ak) else
 some (r1.1,r2.2.Row.At,aS.mk 0 0)
theorem Fz:aD Tryd.prog S (Aj (vL)):=
 aZ pk [lM vN,n4 iH] ⟨FD,qR,trivial⟩ Tryd.func65 (by kernel_rfl) (fun _=>by kernel_rfl) (by kernel_rfl)
abbrev Gz:=aA→Int→aS→Option aA
abbrev wz (f:Gz):Entry S:=⟨66,[q9,q1,q6],[],fun x=>f x.1 x.2.1 x.2.2⟩
def o7  (r_:aA) (aE:Int) (f:aS):Option aA:=(kS r_ f.Code f.At).bind fun r1=>
 some (aA.mk (aX.mk r1.Row.L aE r1.Row.ak))
theorem A2:aD Tryd.prog S (wz (o7)):=
 aZ pk [tR kS] ⟨y6,trivial⟩ Tryd.func66 (by kernel_rfl) (fun _=>by kernel_rfl) (by kernel_rfl)
abbrev Gu:=aA→Option (List aQ×aA)
abbrev wj (f:Gu):Entry S:=⟨55,[q9],[tP],fun x=>f x⟩
def m_  (r_:aA):Option (List aQ×aA):=(jZ r_).bind fun r1=>
 bif !r1.1 then
 some ([],r1.2) else
 (vL r1.2.Row.L r1.2.Row.At).bind fun r2=>
 (o7 r1.2 r2.2.1 r2.2.2).bind fun r3=>
 some (r2.1,r3)
theorem AX:aD Tryd.prog S (wj (m_)):=
 aZ pk [qQ jZ,Aj vL,wz o7] ⟨t_,Fz,A2,trivial⟩ Tryd.func55 (by kernel_rfl) (fun _=>by kernel_rfl) (by kernel_rfl)
abbrev GH:=aA→Option (cF×aA)
abbrev A8 (f:GH):Entry S:=⟨56,[q9],[K5],fun x=>f x⟩
def wG:Nat→(List an)→Int→Int→Int→(List UInt8)→(List aR)→(List UInt8)→(List aQ)→Int→(List UInt8)→(List aR)→(List UInt8)→(List aQ)→Int→Option (cF×aA)
 | 0,_,_,_,_,_,_,_,_,_,_,_,_,_,_=>none
 | k+1,bK,bH,bJ,bI,oF,oG,oH,oE,ep,lp,mL,mM,mK,lg=>(gw (aA.mk (aX.mk bK bH (aS.mk bJ bI))) j9).bind fun cW=>
  bif cW.1 then
  (m_ cW.2).bind fun cD=>
  some (cF.mk lp mL mM cD.1 lg,cD.2) else
  (dW cW.2 cY).bind fun cK=>
  some (cF.mk lp mL mM mK lg,cK)
def wF:Nat→(List an)→Int→Int→Int→(List UInt8)→(List aR)→(List UInt8)→(List aQ)→Int→(List UInt8)→(List aR)→(List UInt8)→(List aQ)→Int→Option (cF×aA)
 | 0,_,_,_,_,_,_,_,_,_,_,_,_,_,_=>none
 | k+1,bK,bH,bJ,bI,oF,oG,oH,oE,ep,lp,mL,mM,mK,lg=>(fJ (aA.mk (aX.mk bK bH (aS.mk bJ bI))) uP).bind fun r9=>
  bif r9.1 then
  (jk r9.2).bind fun bB=>
  wG k bB.2.Row.L bB.2.Row.At bB.2.Row.ak.Code bB.2.Row.ak.At oF oG oH oE ep lp mL bB.1 mK lg else
  wG k r9.2.Row.L r9.2.Row.At r9.2.Row.ak.Code r9.2.Row.ak.At oF oG oH oE ep lp mL mM mK lg
def wE:Nat→(List an)→Int→Int→Int→(List UInt8)→(List aR)→(List UInt8)→(List aQ)→Int→(List UInt8)→(List aR)→(List UInt8)→(List aQ)→Int→Option (cF×aA)
 | 0,_,_,_,_,_,_,_,_,_,_,_,_,_,_=>none
 | k+1,bK,bH,bJ,bI,oF,oG,oH,oE,ep,lp,mL,mM,mK,lg=>(fJ (aA.mk (aX.mk bK bH (aS.mk bJ bI))) uM).bind fun r5=>
  bif r5.1 then
  (pE r5.2.Row.L r5.2.Row.At).bind fun r6=>
  (o7 r5.2 r6.2.1 r6.2.2).bind fun r7=>
  (dW r7 rC).bind fun r8=>
  wF k r8.Row.L r8.Row.At r8.Row.ak.Code r8.Row.ak.At oF oG oH oE ep lp [aR.mk r6.1.Kind r6.1.N r6.1.Name r6.1.Kids r6.1.At] mM mK lg else
  wF k r5.2.Row.L r5.2.Row.At r5.2.Row.ak.Code r5.2.Row.ak.At oF oG oH oE ep lp mL mM mK lg
def A7 (k:Nat) (r_:aA):Option (cF×aA):=(eS r_).bind fun r1=>
 (fJ r1.2 rz).bind fun r2=>
 bif r2.1 then
 (jk r2.2).bind fun r3=>
 wE k r3.2.Row.L r3.2.Row.At r3.2.Row.ak.Code r3.2.Row.ak.At [] [] [] [] 0 r3.1 [] [] [] r1.1.At else
 (dW r2.2 ri).bind fun r4=>
 wE k r4.Row.L r4.Row.At r4.Row.ak.Code r4.Row.ak.At [] [] [] [] 0 [] [] [] [] r1.1.At
def wD  (r_:aA):Option (cF×aA):=dn (fun k (x:aA)=>A7 k x) r_
theorem GG:aD Tryd.prog S (A8 (wD)):=gA (fun k x=>A7 k x) (fun _=>rfl) fun k=>
 fC pk [jY eS,n6 fJ,qO jk,n7 dW,wQ pE,wz o7,qM gw,wj m_] ⟨kV,qS,tY,qW,By,A2,tV,AX,trivial⟩ Tryd.func56 [2,4,9] k (fun k=> [(1,⟨[0,2,3],[ey,nT,nT],fun x=>wE k x.1.1 x.1.2.1 x.1.2.2.1 x.1.2.2.2 x.2.1.1 x.2.1.2.1 x.2.1.2.2.1 x.2.1.2.2.2.1 x.2.1.2.2.2.2 x.2.2.1 x.2.2.2.1 x.2.2.2.2.1 x.2.2.2.2.2.1 x.2.2.2.2.2.2,false⟩),(3,⟨[0,2,3],[ey,nT,nT],fun x=>wF k x.1.1 x.1.2.1 x.1.2.2.1 x.1.2.2.2 x.2.1.1 x.2.1.2.1 x.2.1.2.2.1 x.2.1.2.2.2.1 x.2.1.2.2.2.2 x.2.2.1 x.2.2.2.1 x.2.2.2.2.1 x.2.2.2.2.2.1 x.2.2.2.2.2.2,false⟩),(5,⟨[0,2,3],[ey,nT,nT],fun x=>wG k x.1.1 x.1.2.1 x.1.2.2.1 x.1.2.2.2 x.2.1.1 x.2.1.2.1 x.2.1.2.2.1 x.2.1.2.2.2.1 x.2.1.2.2.2.2 x.2.2.1 x.2.2.2.1 x.2.2.2.2.1 x.2.2.2.2.2.1 x.2.2.2.2.2.2,false⟩)]) ⟨fun _=>rfl,fun _=>rfl,fun _=>rfl,trivial⟩ (fun _=>by kernel_rfl) (fun _=>by kernel_rfl) (by kernel_rfl)
abbrev ij:=aA→Int→Option (List bY×aA)
abbrev nc (f:ij):Entry S:=⟨40,[q9,q1],[Dm],fun x=>f x.1 x.2⟩
abbrev Gy:=aA→(Int×List UInt8×List aQ×List aQ×List cF×List bY×Int)→Int→Option (aA×(Int×List UInt8×List aQ×List aQ×List cF×List bY×Int))
abbrev A1 (f:Gy):Entry S:=⟨47,[q9,qF,q1],[],fun x=>f x.1 x.2.1 x.2.2⟩
mutual
def wu (bX:ij):Nat→(List an)→Int→Int→Int→Int→(List UInt8)→(List aQ)→(List aQ)→(List cF)→(List bY)→Int→Int→Option (aA×(Int×List UInt8×List aQ×List aQ×List cF×List bY×Int))
 | 0,_,_,_,_,_,_,_,_,_,_,_,_=>none
 | k+1,bK,bH,bJ,bI,jr,js,jq,j6,iK,j7,jo,deep=>(gw (aA.mk (aX.mk bK bH (aS.mk bJ bI))) rz).bind fun r6=>
  bif r6.1 then
  wq bX k r6.2.Row.L r6.2.Row.At r6.2.Row.ak.Code r6.2.Row.ak.At jr js jq j6 iK j7 jo deep else
  (gw r6.2 ri).bind fun r7=>
  bif r7.1 then
  wq bX k r7.2.Row.L r7.2.Row.At r7.2.Row.ak.Code r7.2.Row.ak.At jr js jq j6 iK j7 jo deep else
  (bX r7.2 (aJ (deep+1))).bind fun r8=>
  (dW r8.2 iL).bind fun r9=>
  some (r9,(jr,js,jq,j6,iK,r8.1,jo))
def wq (bX:ij):Nat→(List an)→Int→Int→Int→Int→(List UInt8)→(List aQ)→(List aQ)→(List cF)→(List bY)→Int→Int→Option (aA×(Int×List UInt8×List aQ×List aQ×List cF×List bY×Int))
 | 0,_,_,_,_,_,_,_,_,_,_,_,_=>none
 | k+1,bK,bH,bJ,bI,jr,js,jq,j6,iK,j7,jo,deep=>(wD (aA.mk (aX.mk bK bH (aS.mk bJ bI)))).bind fun bB=>
  if (iK.length+ [bB.1].length)*88≤140737488355328 then
  wu bX k bB.2.Row.L bB.2.Row.At bB.2.Row.ak.Code bB.2.Row.ak.At jr js jq j6 (iK++ [bB.1]) j7 jo deep else none
end
def wo (bX:ij):Nat→(List an)→Int→Int→Int→Int→(List UInt8)→(List aQ)→(List aQ)→(List cF)→(List bY)→Int→Int→Option (aA×(Int×List UInt8×List aQ×List aQ×List cF×List bY×Int))
 | 0,_,_,_,_,_,_,_,_,_,_,_,_=>none
 | k+1,bK,bH,bJ,bI,jr,js,jq,j6,iK,j7,jo,deep=>wu bX k bK bH bJ bI jr js jq j6 iK j7 jo deep
def wm (bX:ij):Nat→(List an)→Int→Int→Int→Int→(List UInt8)→(List aQ)→(List aQ)→(List cF)→(List bY)→Int→Int→Option (aA×(Int×List UInt8×List aQ×List aQ×List cF×List bY×Int))
 | 0,_,_,_,_,_,_,_,_,_,_,_,_=>none
 | k+1,bK,bH,bJ,bI,jr,js,jq,j6,iK,j7,jo,deep=>(fJ (aA.mk (aX.mk bK bH (aS.mk bJ bI))) uG).bind fun r4=>
  bif r4.1 then
  (m_ r4.2).bind fun r5=>
  wo bX k r5.2.Row.L r5.2.Row.At r5.2.Row.ak.Code r5.2.Row.ak.At jr js jq r5.1 iK j7 jo deep else
  wo bX k r4.2.Row.L r4.2.Row.At r4.2.Row.ak.Code r4.2.Row.ak.At jr js jq j6 iK j7 jo deep
def A0 (bX:ij) (k:Nat) (r_:aA) (s:Int×List UInt8×List aQ×List aQ×List cF×List bY×Int) (deep:Int):Option (aA×(Int×List UInt8×List aQ×List aQ×List cF×List bY×Int)):=(dW r_ j9).bind fun r1=>
 (fJ r1 uE).bind fun r2=>
 bif r2.1 then
 (m_ r2.2).bind fun r3=>
 wm bX k r3.2.Row.L r3.2.Row.At r3.2.Row.ak.Code r3.2.Row.ak.At s.1 s.2.1 r3.1 s.2.2.2.1 s.2.2.2.2.1 s.2.2.2.2.2.1 s.2.2.2.2.2.2 deep else
 wm bX k r2.2.Row.L r2.2.Row.At r2.2.Row.ak.Code r2.2.Row.ak.At s.1 s.2.1 s.2.2.1 s.2.2.2.1 s.2.2.2.2.1 s.2.2.2.2.2.1 s.2.2.2.2.2.2 deep
def sD (bX:ij)  (r_:aA) (s:Int×List UInt8×List aQ×List aQ×List cF×List bY×Int) (deep:Int):Option (aA×(Int×List UInt8×List aQ×List aQ×List cF×List bY×Int)):=dn (fun k (x:aA×(Int×List UInt8×List aQ×List aQ×List cF×List bY×Int)×Int)=>A0 bX k x.1 x.2.1 x.2.2) (r_,s,deep)
theorem Gx (bX:ij) (xd:aD Tryd.prog S (nc bX)):aD Tryd.prog S (A1 (sD bX)):=gA (fun k x=>A0 bX k x.1 x.2.1 x.2.2) (fun _=>rfl) fun k=>
 fC pk [n7 dW,n6 fJ,wj m_,qM gw,nc bX,A8 wD] ⟨qW,qS,AX,tV,xd,GG,trivial⟩ Tryd.func47 [1,3,6] k (fun k=> [(1,⟨[0,1,2],[ey,qF,q1],fun x=>wm bX k x.1.1 x.1.2.1 x.1.2.2.1 x.1.2.2.2 x.2.1.1 x.2.1.2.1 x.2.1.2.2.1 x.2.1.2.2.2.1 x.2.1.2.2.2.2.1 x.2.1.2.2.2.2.2.1 x.2.1.2.2.2.2.2.2 x.2.2,false⟩),(3,⟨[0,1,2],[ey,qF,q1],fun x=>wo bX k x.1.1 x.1.2.1 x.1.2.2.1 x.1.2.2.2 x.2.1.1 x.2.1.2.1 x.2.1.2.2.1 x.2.1.2.2.2.1 x.2.1.2.2.2.2.1 x.2.1.2.2.2.2.2.1 x.2.1.2.2.2.2.2.2 x.2.2,false⟩),(0,⟨[0,1,2],[ey,qF,q1],fun x=>wu bX k x.1.1 x.1.2.1 x.1.2.2.1 x.1.2.2.2 x.2.1.1 x.2.1.2.1 x.2.1.2.2.1 x.2.1.2.2.2.1 x.2.1.2.2.2.2.1 x.2.1.2.2.2.2.2.1 x.2.1.2.2.2.2.2.2 x.2.2,false⟩),(5,⟨[0,1,2],[ey,qF,q1],fun x=>wq bX k x.1.1 x.1.2.1 x.1.2.2.1 x.1.2.2.2 x.2.1.1 x.2.1.2.1 x.2.1.2.2.1 x.2.1.2.2.2.1 x.2.1.2.2.2.2.1 x.2.1.2.2.2.2.2.1 x.2.1.2.2.2.2.2.2 x.2.2,false⟩)]) ⟨fun _=>rfl,fun _=>rfl,fun _=>rfl,fun _=>rfl,trivial⟩ (fun _=>by kernel_rfl) (fun _=>by kernel_rfl) (by kernel_rfl)
def o9 (bX:ij):Nat→(List an)→Int→Int→Int→Int→(List bY)→Int→Option (List bY×aA)
 | 0,_,_,_,_,_,_,_=>none
 | k+1,bK,bH,bJ,bI,deep,l,kind=>if kind≠0 then
  (eS (aA.mk (aX.mk bK bH (aS.mk bJ bI)))).bind fun r2=>
  if 12<deep then
  (kS r2.2 14 r2.1.At).bind fun r3=>
  some ([],r3) else
  (jk (aA.mk (aX.mk r2.2.Row.L (aJ (r2.2.Row.At+1)) r2.2.Row.ak))).bind fun r4=>
  if kind=1 then
  (sD bX r4.2 (kind,r4.1,[],[],[],[],r2.1.At) deep).bind fun r5=>
  if (l.length+ [bY.mk r5.2.1 r5.2.2.1 r5.2.2.2.1 r5.2.2.2.2.1 r5.2.2.2.2.2.1 r5.2.2.2.2.2.2.1 r5.2.2.2.2.2.2.2].length)*128≤140737488355328 then
  (mZ r5.1).bind fun r6=>
  o9 bX k r6.2.Row.L r6.2.Row.At r6.2.Row.ak.Code r6.2.Row.ak.At deep (l++ [bY.mk r5.2.1 r5.2.2.1 r5.2.2.2.1 r5.2.2.2.2.1 r5.2.2.2.2.2.1 r5.2.2.2.2.2.2.1 r5.2.2.2.2.2.2.2]) r6.1 else none else
  if kind=2 then
  (sD bX r4.2 (kind,r4.1,[],[],[],[],r2.1.At) deep).bind fun r7=>
  if (l.length+ [bY.mk r7.2.1 r7.2.2.1 r7.2.2.2.1 r7.2.2.2.2.1 r7.2.2.2.2.2.1 r7.2.2.2.2.2.2.1 r7.2.2.2.2.2.2.2].length)*128≤140737488355328 then
  (mZ r7.1).bind fun r8=>
  o9 bX k r8.2.Row.L r8.2.Row.At r8.2.Row.ak.Code r8.2.Row.ak.At deep (l++ [bY.mk r7.2.1 r7.2.2.1 r7.2.2.2.1 r7.2.2.2.2.1 r7.2.2.2.2.2.1 r7.2.2.2.2.2.2.1 r7.2.2.2.2.2.2.2]) r8.1 else none else
  (dW r4.2 cY).bind fun r9=>
  if (l.length+ [bY.mk kind r4.1 [] [] [] [] r2.1.At].length)*128≤140737488355328 then
  (mZ r9).bind fun bB=>
  o9 bX k bB.2.Row.L bB.2.Row.At bB.2.Row.ak.Code bB.2.Row.ak.At deep (l++ [bY.mk kind r4.1 [] [] [] [] r2.1.At]) bB.1 else none else
  some (l,aA.mk (aX.mk bK bH (aS.mk bJ bI)))
def A6 (bX:ij) (k:Nat) (r_:aA) (deep:Int):Option (List bY×aA):=(mZ r_).bind fun r1=>
 o9 bX k r1.2.Row.L r1.2.Row.At r1.2.Row.ak.Code r1.2.Row.ak.At deep [] r1.1
def sF:Nat→aA→Int→Option (List bY×aA)
 | 0,_,_=>none
 | k+1,x0,x1=>A6 (sF k) k x0 x1
def wC  (r_:aA) (deep:Int):Option (List bY×aA):=dn (fun k (x:aA×Int)=>sF k x.1 x.2) (r_,deep)
theorem GF (bX:ij) (k:Nat) (xd:aD Tryd.prog S (nc bX)):aD Tryd.prog S (nc (A6 bX k)):=
 fC pk [AW mZ,jY eS,tR kS,qO jk,A1 (sD bX),n7 dW] ⟨Gs,kV,y6,tY,Gx bX xd,qW,trivial⟩ Tryd.func40 [] k (fun k=> [(0,⟨[0,1,5,6],[ey,q1,Dm,q1],fun x=>o9 bX k x.1.1 x.1.2.1 x.1.2.2.1 x.1.2.2.2 x.2.1 x.2.2.1 x.2.2.2,false⟩)]) ⟨fun _=>rfl,trivial⟩ (fun _=>by kernel_rfl) (fun _=>by kernel_rfl) (by kernel_rfl)
theorem GD:aD Tryd.prog S (nc (wC)):=ve (fun k x=>sF k x.1 x.2) (fun _=>rfl) Tryd.func40 (by kernel_rfl) (fun _=>rfl) fun k h=>GF (sF k) k h
abbrev Gw:=aA→Option (cN×aA)
abbrev AZ (f:Gw):Entry S:=⟨29,[q9],[Dn],fun x=>f x⟩
def sC:Nat→(List an)→Int→Int→Int→(List UInt8)→Int→Int→(List cV)→(List cV)→(List cV)→(List bY)→Int→(List UInt8)→Int→Int→(List cV)→(List cV)→(List cV)→(List bY)→Int→Option (cN×aA)
 | 0,_,_,_,_,_,_,_,_,_,_,_,_,_,_,_,_,_,_,_,_=>none
 | k+1,bK,bH,bJ,bI,vn,E6,E3,E8,E4,E7,E5,ep,mY,vZ,vY,oZ,AG,AK,AJ,e_=>(fJ (aA.mk (aX.mk bK bH (aS.mk bJ bI))) u7).bind fun r9=>
  bif r9.1 then
  (o8 r9.2).bind fun bB=>
  (dW bB.2 DZ).bind fun cW=>
  (fJ cW mC).bind fun cD=>
  (qP cD.2).bind fun cK=>
  bif cD.1 then
  (dW cK.2 cY).bind fun eE=>
  if (oZ.length+ [cV.mk bB.1.Name (aJ (0 - cK.1)) bB.1.At].length)*32≤140737488355328 then
  sC k eE.Row.L eE.Row.At eE.Row.ak.Code eE.Row.ak.At vn E6 E3 E8 E4 E7 E5 ep mY vZ vY (oZ++ [cV.mk bB.1.Name (aJ (0 - cK.1)) bB.1.At]) AG AK AJ e_ else none else
  (dW cK.2 cY).bind fun jh=>
  if (oZ.length+ [cV.mk bB.1.Name cK.1 bB.1.At].length)*32≤140737488355328 then
  sC k jh.Row.L jh.Row.At jh.Row.ak.Code jh.Row.ak.At vn E6 E3 E8 E4 E7 E5 ep mY vZ vY (oZ++ [cV.mk bB.1.Name cK.1 bB.1.At]) AG AK AJ e_ else none else
  (sE r9.2 uS).bind fun r16=>
  (sE r16.2 u6).bind fun qG=>
  (wC qG.2 1).bind fun qH=>
  (dW qH.2 iL).bind fun yX=>
  some (cN.mk mY vZ vY oZ r16.1 qG.1 qH.1 e_,yX)
def AY (k:Nat) (r_:aA):Option (cN×aA):=(eS r_).bind fun r1=>
 (dW r1.2 oa).bind fun r2=>
 (jk r2).bind fun r3=>
 (dW r3.2 u5).bind fun r4=>
 (qP r4).bind fun r5=>
 (dW r5.2 uI).bind fun r6=>
 (qP r6).bind fun r7=>
 (dW r7.2 j9).bind fun r8=>
 sC k r8.Row.L r8.Row.At r8.Row.ak.Code r8.Row.ak.At [] 0 0 [] [] [] [] 0 r3.1 r5.1 r7.1 [] [] [] [] r1.1.At
def wk  (r_:aA):Option (cN×aA):=dn (fun k (x:aA)=>AY k x) r_
theorem Gv:aD Tryd.prog S (AZ (wk)):=gA (fun k x=>AY k x) (fun _=>rfl) fun k=>
 fC pk [jY eS,n7 dW,qO jk,DH qP,n6 fJ,wA o8,A5 sE,nc wC] ⟨kV,qW,tY,LJ,qS,A3,GB,GD,trivial⟩ Tryd.func29 [] k (fun k=> [(0,⟨[0,2,3],[ey,Dp,Dp],fun x=>sC k x.1.1 x.1.2.1 x.1.2.2.1 x.1.2.2.2 x.2.1.1 x.2.1.2.1 x.2.1.2.2.1 x.2.1.2.2.2.1 x.2.1.2.2.2.2.1 x.2.1.2.2.2.2.2.1 x.2.1.2.2.2.2.2.2.1 x.2.1.2.2.2.2.2.2.2 x.2.2.1 x.2.2.2.1 x.2.2.2.2.1 x.2.2.2.2.2.1 x.2.2.2.2.2.2.1 x.2.2.2.2.2.2.2.1 x.2.2.2.2.2.2.2.2.1 x.2.2.2.2.2.2.2.2.2,false⟩)]) ⟨fun _=>rfl,trivial⟩ (fun _=>by kernel_rfl) (fun _=>by kernel_rfl) (by kernel_rfl)
abbrev Gr:=(List an)→Int→Option (cN×Int×aS)
abbrev AV (f:Gr):Entry S:=⟨15,[yT,q1],[Dn,q1,q6],fun x=>f x.1 x.2⟩
def wh  (l:List an) (aE:Int):Option (cN×Int×aS):=(wk (aA.mk (aX.mk l aE (aS.mk 0 0)))).bind fun r1=>
 (jZ r1.2).bind fun r2=>
 bif !r2.1 then
 some (cN.mk [] 0 0 [] [] [] [] 0,0,r2.2.Row.ak) else
 some (r1.1,r2.2.Row.At,aS.mk 0 0)
theorem Gq:aD Tryd.prog S (AV (wh)):=
 aZ pk [AZ wk,qQ jZ] ⟨Gv,t_,trivial⟩ Tryd.func15 (by kernel_rfl) (fun _=>by kernel_rfl) (by kernel_rfl)
abbrev Lr:=au→Option (Bool×au)
abbrev za (f:Lr):Entry S:=⟨41,[q8],[q3],fun x=>f x⟩
def kT  (r_:au):Option (Bool×au):=(dy r_).bind fun r1=>
 if r1.1.Kind=1 then
 (iB r1.1.Text).bind fun r2=>
 some (!r2,r1.2) else
 some (false,r1.2)
theorem DB:aD Tryd.prog S (za (kT)):=
 aZ pk [iG dy,qu iB] ⟨jj,tJ,trivial⟩ Tryd.func41 (by kernel_rfl) (fun _=>by kernel_rfl) (by kernel_rfl)
abbrev LG:=au→Option (List UInt8×au)
abbrev me (f:LG):Entry S:=⟨30,[q8],[q0],fun x=>f x⟩
def ez  (r_:au):Option (List UInt8×au):=(kT r_).bind fun r1=>
 bif !r1.1 then
 (gz r1.2).bind fun r2=>
 some ([],r2) else
 if 0≤(aJ ((aJ (r1.2.Row.At+1)) - 1)) then
 if (aJ ((aJ (r1.2.Row.At+1)) - 1))<(r1.2.Row.L.length:Int) then
 some ((r1.2.Row.L.getD (aJ ((aJ (r1.2.Row.At+1)) - 1)).toNat an.z).Text,au.mk (aX.mk r1.2.Row.L (aJ (r1.2.Row.At+1)) r1.2.Row.ak)) else none else none
theorem nZ:aD Tryd.prog S (me (ez)):=
 aZ pk [za kT,qY gz] ⟨DB,uk,trivial⟩ Tryd.func30 (by kernel_rfl) (fun _=>by kernel_rfl) (by kernel_rfl)
abbrev Np:=au→(List UInt8)→Option (Int×au)
abbrev vi (f:Np):Entry S:=⟨31,[q8,q0],[q1],fun x=>f x.1 x.2⟩
def gZ  (r_:au) (word:List UInt8):Option (Int×au):=(b8 r_ word).bind fun r1=>
 (mg r1).bind fun r2=>
 some (r2.1,r2.2)
theorem zU:aD Tryd.prog S (vi (gZ)):=
 aZ pk [kY b8,zg mg] ⟨mh,DI,trivial⟩ Tryd.func31 (by kernel_rfl) (fun _=>by kernel_rfl) (by kernel_rfl)
abbrev Ni:=au→Option (dA×au)
abbrev El (f:Ni):Entry S:=⟨17,[q8],[K6],fun x=>f x⟩
def zQ  (r_:au):Option (dA×au):=(dy r_).bind fun r1=>
 (b8 r1.2 oc).bind fun r2=>
 (ez r2).bind fun r3=>
 (b8 r3.2 uB).bind fun r4=>
 (ez r4).bind fun r5=>
 (gZ r5.2 uT).bind fun r6=>
 (gZ r6.2 uH).bind fun r7=>
 (gZ r7.2 rA).bind fun r8=>
 (b8 r8.2 cY).bind fun r9=>
 some (dA.mk r3.1 r5.1 r6.1 r7.1 r8.1 r1.1.At,r9)
theorem Nh:aD Tryd.prog S (El (zQ)):=
 aZ pk [iG dy,kY b8,me ez,vi gZ] ⟨jj,mh,nZ,zU,trivial⟩ Tryd.func17 (by kernel_rfl) (fun _=>by kernel_rfl) (by kernel_rfl)
abbrev No:=au→Option (List UInt8×List UInt8×List UInt8×au)
abbrev zT (f:No):Entry S:=⟨32,[q8],[q0,q0,q0],fun x=>f x⟩
def mJ  (r_:au):Option (List UInt8×List UInt8×List UInt8×au):=(ez r_).bind fun r1=>
 (b8 r1.2 zw).bind fun r2=>
 (ez r2).bind fun r3=>
 (b8 r3.2 uP).bind fun r4=>
 (ez r4).bind fun r5=>
 some (r1.1,r3.1,r5.1,r5.2)
theorem Ep:aD Tryd.prog S (zT (mJ)):=
 aZ pk [me ez,kY b8] ⟨nZ,mh,trivial⟩ Tryd.func32 (by kernel_rfl) (fun _=>by kernel_rfl) (by kernel_rfl)
abbrev Ng:=au→Option (dz×au)
abbrev Ek (f:Ng):Entry S:=⟨18,[q8],[K7],fun x=>f x⟩
def zP  (r_:au):Option (dz×au):=(dy r_).bind fun r1=>
 (b8 r1.2 n_).bind fun r2=>
 (ez r2).bind fun r3=>
 (b8 r3.2 uB).bind fun r4=>
 (mJ r4).bind fun r5=>
 (gZ r5.2.2.2 uA).bind fun r6=>
 (gZ r6.2 rA).bind fun r7=>
 (b8 r7.2 cY).bind fun r8=>
 some (dz.mk r3.1 r5.1 r5.2.1 r5.2.2.1 r6.1 r7.1 r1.1.At,r8)
theorem Nf:aD Tryd.prog S (Ek (zP)):=
 aZ pk [iG dy,kY b8,me ez,zT mJ,vi gZ] ⟨jj,mh,nZ,Ep,zU,trivial⟩ Tryd.func18 (by kernel_rfl) (fun _=>by kernel_rfl) (by kernel_rfl)
abbrev Nk:=au→(List UInt8)→Option (List (List UInt8)×au)
abbrev zS (f:Nk):Entry S:=⟨33,[q8,q0],[Dq],fun x=>f x.1 x.2⟩
def ow:Nat→(List an)→Int→Int→Int→(List UInt8)→(List (List UInt8))→Option (List (List UInt8)×au)
 | 0,_,_,_,_,_,_=>none
 | k+1,bK,bH,bJ,bI,sign,l=>(eF (au.mk (aX.mk bK bH (aS.mk bJ bI))) sign).bind fun r2=>
  bif r2.1 then
  (ez r2.2).bind fun r3=>
  if (l.length+ [r3.1].length)*16≤140737488355328 then
  ow k r3.2.Row.L r3.2.Row.At r3.2.Row.ak.Code r3.2.Row.ak.At sign (l++ [r3.1]) else none else
  some (l,r2.2)
def ov (k:Nat) (r_:au) (sign:List UInt8):Option (List (List UInt8)×au):=(ez r_).bind fun r1=>
 ow k r1.2.Row.L r1.2.Row.At r1.2.Row.ak.Code r1.2.Row.ak.At sign [r1.1]
def lf  (r_:au) (sign:List UInt8):Option (List (List UInt8)×au):=dn (fun k (x:au×List UInt8)=>ov k x.1 x.2) (r_,sign)
theorem En:aD Tryd.prog S (zS (lf)):=gA (fun k x=>ov k x.1 x.2) (fun _=>rfl) fun k=>
 fC pk [me ez,qT eF] ⟨nZ,ud,trivial⟩ Tryd.func33 [] k (fun k=> [(0,⟨[0,1,5],[ey,q0,Dq],fun x=>ow k x.1.1 x.1.2.1 x.1.2.2.1 x.1.2.2.2 x.2.1 x.2.2,false⟩)]) ⟨fun _=>rfl,trivial⟩ (fun _=>by kernel_rfl) (fun _=>by kernel_rfl) (by kernel_rfl)
abbrev Nb:=au→Option (b_×au)
abbrev Ei (f:Nb):Entry S:=⟨34,[q8],[K8],fun x=>f x⟩
mutual
def rH:Nat→(List an)→Int→Int→Int→Int→(List (List (List UInt8)))→(List (List (List UInt8)))→Int→Int→(List (List (List UInt8)))→(List (List (List UInt8)))→Int→Option (b_×au)
 | 0,_,_,_,_,_,_,_,_,_,_,_,_=>none
 | k+1,bK,bH,bJ,bI,lD,lE,lC,ep,jH,ic,iV,e_=>(eF (au.mk (aX.mk bK bH (aS.mk bJ bI))) uM).bind fun r9=>
  bif r9.1 then
  mF k r9.2.Row.L r9.2.Row.At r9.2.Row.ak.Code r9.2.Row.ak.At lD lE lC ep jH ic iV e_ [] else
  (b8 r9.2 iL).bind fun bB=>
  some (b_.mk jH ic iV e_,bB)
def mF:Nat→(List an)→Int→Int→Int→Int→(List (List (List UInt8)))→(List (List (List UInt8)))→Int→Int→(List (List (List UInt8)))→(List (List (List UInt8)))→Int→(List (List UInt8))→Option (b_×au)
 | 0,_,_,_,_,_,_,_,_,_,_,_,_,_=>none
 | k+1,bK,bH,bJ,bI,lD,lE,lC,ep,jH,ic,iV,e_,l=>(kT (au.mk (aX.mk bK bH (aS.mk bJ bI)))).bind fun cW=>
  bif cW.1 then
  (ez cW.2).bind fun cD=>
  if (l.length+ [cD.1].length)*16≤140737488355328 then
  mF k cD.2.Row.L cD.2.Row.At cD.2.Row.ak.Code cD.2.Row.ak.At lD lE lC ep jH ic iV e_ (l++ [cD.1]) else none else
  (b8 cW.2 rC).bind fun cK=>
  if (iV.length+ [l].length)*24≤140737488355328 then
  rH k cK.Row.L cK.Row.At cK.Row.ak.Code cK.Row.ak.At lD lE lC ep jH ic (iV++ [l]) e_ else none
end
def mE:Nat→(List an)→Int→Int→Int→Int→(List (List (List UInt8)))→(List (List (List UInt8)))→Int→Int→(List (List (List UInt8)))→(List (List (List UInt8)))→Int→Bool→Option (b_×au)
 | 0,_,_,_,_,_,_,_,_,_,_,_,_,_=>none
 | k+1,bK,bH,bJ,bI,lD,lE,lC,ep,jH,ic,iV,e_,more=>bif more then
  (eF (au.mk (aX.mk bK bH (aS.mk bJ bI))) oe).bind fun r4=>
  bif !r4.1 then
  (lf r4.2 mD).bind fun r5=>
  if (ic.length+ [r5.1].length)*24≤140737488355328 then
  (eF r5.2 k7).bind fun r6=>
  mE k r6.2.Row.L r6.2.Row.At r6.2.Row.ak.Code r6.2.Row.ak.At lD lE lC ep jH (ic++ [r5.1]) iV e_ r6.1 else none else
  if (ic.length+([[]]:List (List (List UInt8))).length)*24≤140737488355328 then
  (eF r4.2 k7).bind fun r7=>
  mE k r7.2.Row.L r7.2.Row.At r7.2.Row.ak.Code r7.2.Row.ak.At lD lE lC ep jH (ic++([[]]:List (List (List UInt8)))) iV e_ r7.1 else none else
  (b8 (au.mk (aX.mk bK bH (aS.mk bJ bI))) cY).bind fun r8=>
  rH k r8.Row.L r8.Row.At r8.Row.ak.Code r8.Row.ak.At lD lE lC ep jH ic iV e_
def vh (k:Nat) (r_:au):Option (b_×au):=(dy r_).bind fun r1=>
 (gZ r1.2 mA).bind fun r2=>
 (b8 r2.2 j9).bind fun r3=>
 mE k r3.Row.L r3.Row.At r3.Row.ak.Code r3.Row.ak.At 0 [] [] 0 r2.1 [] [] r1.1.At true
def vg  (r_:au):Option (b_×au):=dn (fun k (x:au)=>vh k x) r_
theorem Na:aD Tryd.prog S (Ei (vg)):=gA (fun k x=>vh k x) (fun _=>rfl) fun k=>
 fC pk [iG dy,vi gZ,kY b8,qT eF,zS lf,za kT,me ez] ⟨jj,zU,mh,ud,En,DB,nZ,trivial⟩ Tryd.func34 [] k (fun k=> [(0,⟨[0,2,3,4],[ey,nU,nU,q3],fun x=>mE k x.1.1 x.1.2.1 x.1.2.2.1 x.1.2.2.2 x.2.1.1 x.2.1.2.1 x.2.1.2.2.1 x.2.1.2.2.2 x.2.2.1.1 x.2.2.1.2.1 x.2.2.1.2.2.1 x.2.2.1.2.2.2 x.2.2.2,false⟩),(2,⟨[0,2,3],[ey,nU,nU],fun x=>rH k x.1.1 x.1.2.1 x.1.2.2.1 x.1.2.2.2 x.2.1.1 x.2.1.2.1 x.2.1.2.2.1 x.2.1.2.2.2 x.2.2.1 x.2.2.2.1 x.2.2.2.2.1 x.2.2.2.2.2,false⟩),(4,⟨[0,2,3,6],[ey,nU,nU,K9],fun x=>mF k x.1.1 x.1.2.1 x.1.2.2.1 x.1.2.2.2 x.2.1.1 x.2.1.2.1 x.2.1.2.2.1 x.2.1.2.2.2 x.2.2.1.1 x.2.2.1.2.1 x.2.2.1.2.2.1 x.2.2.1.2.2.2 x.2.2.2,false⟩)]) ⟨fun _=>rfl,fun _=>rfl,fun _=>rfl,trivial⟩ (fun _=>by kernel_rfl) (fun _=>by kernel_rfl) (by kernel_rfl)
abbrev Nd:=au→Option (bF×au)
abbrev Ej (f:Nd):Entry S:=⟨19,[q8],[K_],fun x=>f x⟩
def ld:Nat→(List an)→Int→Int→Int→(List UInt8)→(List UInt8)→(List UInt8)→(List UInt8)→(List (List UInt8))→(List (List UInt8))→(List b_)→Int→(List UInt8)→(List UInt8)→(List UInt8)→(List UInt8)→(List (List UInt8))→(List (List UInt8))→(List b_)→Int→Option (bF×au)
 | 0,_,_,_,_,_,_,_,_,_,_,_,_,_,_,_,_,_,_,_,_=>none
 | k+1,bK,bH,bJ,bI,vn,OF,OG,OH,hO,hJ,OE,ep,mY,AD,AH,AI,AE,AB,sB,e_=>(gC (au.mk (aX.mk bK bH (aS.mk bJ bI))) mA (sB.length:Int) 64).bind fun cK=>
  bif cK.1 then
  (vg cK.2).bind fun eE=>
  if (sB.length+ [eE.1].length)*64≤140737488355328 then
  ld k eE.2.Row.L eE.2.Row.At eE.2.Row.ak.Code eE.2.Row.ak.At vn OF OG OH hO hJ OE ep mY AD AH AI AE AB (sB++ [eE.1]) e_ else none else
  (b8 cK.2 iL).bind fun jh=>
  some (bF.mk mY AD AH AI AE AB sB e_,jh)
def ou (k:Nat) (r_:au):Option (bF×au):=(dy r_).bind fun r1=>
 (b8 r1.2 j8).bind fun r2=>
 (ez r2).bind fun r3=>
 (b8 r3.2 uB).bind fun r4=>
 (mJ r4).bind fun r5=>
 (b8 r5.2.2.2 j9).bind fun r6=>
 (b8 r6 ru).bind fun r7=>
 (lf r7 k7).bind fun r8=>
 (b8 r8.2 cY).bind fun r9=>
 (eF r9 rj).bind fun bB=>
 bif bB.1 then
 (lf bB.2 k7).bind fun cW=>
 (b8 cW.2 cY).bind fun cD=>
 ld k cD.Row.L cD.Row.At cD.Row.ak.Code cD.Row.ak.At [] [] [] [] [] [] [] 0 r3.1 r5.1 r5.2.1 r5.2.2.1 r8.1 cW.1 [] r1.1.At else
 ld k bB.2.Row.L bB.2.Row.At bB.2.Row.ak.Code bB.2.Row.ak.At [] [] [] [] [] [] [] 0 r3.1 r5.1 r5.2.1 r5.2.2.1 r8.1 [] [] r1.1.At
def mG  (r_:au):Option (bF×au):=dn (fun k (x:au)=>ou k x) r_
theorem Nc:aD Tryd.prog S (Ej (mG)):=gA (fun k x=>ou k x) (fun _=>rfl) fun k=>
 fC pk [iG dy,kY b8,me ez,zT mJ,zS lf,qT eF,zR gC,Ei vg] ⟨jj,mh,nZ,Ep,En,ud,Em,Na,trivial⟩ Tryd.func19 [] k (fun k=> [(0,⟨[0,2,3],[ey,Dr,Dr],fun x=>ld k x.1.1 x.1.2.1 x.1.2.2.1 x.1.2.2.2 x.2.1.1 x.2.1.2.1 x.2.1.2.2.1 x.2.1.2.2.2.1 x.2.1.2.2.2.2.1 x.2.1.2.2.2.2.2.1 x.2.1.2.2.2.2.2.2.1 x.2.1.2.2.2.2.2.2.2 x.2.2.1 x.2.2.2.1 x.2.2.2.2.1 x.2.2.2.2.2.1 x.2.2.2.2.2.2.1 x.2.2.2.2.2.2.2.1 x.2.2.2.2.2.2.2.2.1 x.2.2.2.2.2.2.2.2.2,false⟩)]) ⟨fun _=>rfl,trivial⟩ (fun _=>by kernel_rfl) (fun _=>by kernel_rfl) (by kernel_rfl)
abbrev Nn:=au→Option (c8×au)
abbrev Eo (f:Nn):Entry S:=⟨8,[q8],[Ds],fun x=>f x⟩
def ke:Nat→(List an)→Int→Int→Int→Int→(List cN)→(List dA)→(List dz)→(List bF)→Int→(List cN)→(List dA)→(List dz)→(List bF)→Option (c8×au)
 | 0,_,_,_,_,_,_,_,_,_,_,_,_,_,_=>none
 | k+1,bK,bH,bJ,bI,jz,jB,hO,hJ,jA,fK,eW,eX,eV,cy=>(gC (au.mk (aX.mk bK bH (aS.mk bJ bI))) j8 (cy.length:Int) 4).bind fun cD=>
  bif cD.1 then
  (mG cD.2).bind fun cK=>
  if (cy.length+ [cK.1].length)*144≤140737488355328 then
  ke k cK.2.Row.L cK.2.Row.At cK.2.Row.ak.Code cK.2.Row.ak.At jz jB hO hJ jA fK eW eX eV (cy++ [cK.1]) else none else
  (dy cD.2).bind fun eE=>
  if eE.1.Kind≠4 then
  (gz eE.2).bind fun jh=>
  some (c8.mk fK eW eX eV cy,jh) else
  some (c8.mk fK eW eX eV cy,eE.2)
def mI:Nat→(List an)→Int→Int→Int→Int→(List cN)→(List dA)→(List dz)→(List bF)→Int→(List cN)→(List dA)→(List dz)→(List bF)→Option (c8×au)
 | 0,_,_,_,_,_,_,_,_,_,_,_,_,_,_=>none
 | k+1,bK,bH,bJ,bI,jz,jB,hO,hJ,jA,fK,eW,eX,eV,cy=>(gC (au.mk (aX.mk bK bH (aS.mk bJ bI))) n_ (eV.length:Int) 24).bind fun bB=>
  bif bB.1 then
  (zP bB.2).bind fun cW=>
  if (eV.length+ [cW.1].length)*88≤140737488355328 then
  mI k cW.2.Row.L cW.2.Row.At cW.2.Row.ak.Code cW.2.Row.ak.At jz jB hO hJ jA fK eW eX (eV++ [cW.1]) cy else none else
  ke k bB.2.Row.L bB.2.Row.At bB.2.Row.ak.Code bB.2.Row.ak.At jz jB hO hJ jA fK eW eX eV cy
def mH:Nat→(List an)→Int→Int→Int→Int→(List cN)→(List dA)→(List dz)→(List bF)→Int→(List cN)→(List dA)→(List dz)→(List bF)→Option (c8×au)
 | 0,_,_,_,_,_,_,_,_,_,_,_,_,_,_=>none
 | k+1,bK,bH,bJ,bI,jz,jB,hO,hJ,jA,fK,eW,eX,eV,cy=>(gC (au.mk (aX.mk bK bH (aS.mk bJ bI))) oc (eX.length:Int) 12).bind fun r8=>
  bif r8.1 then
  (zQ r8.2).bind fun r9=>
  if (eX.length+ [r9.1].length)*64≤140737488355328 then
  mH k r9.2.Row.L r9.2.Row.At r9.2.Row.ak.Code r9.2.Row.ak.At jz jB hO hJ jA fK eW (eX++ [r9.1]) eV cy else none else
  mI k r8.2.Row.L r8.2.Row.At r8.2.Row.ak.Code r8.2.Row.ak.At jz jB hO hJ jA fK eW eX eV cy
def j_:Nat→(List an)→Int→Int→Int→Int→(List cN)→(List dA)→(List dz)→(List bF)→Int→(List cN)→(List dA)→(List dz)→(List bF)→Option (c8×au)
 | 0,_,_,_,_,_,_,_,_,_,_,_,_,_,_=>none
 | k+1,bK,bH,bJ,bI,jz,jB,hO,hJ,jA,fK,eW,eX,eV,cy=>(gC (au.mk (aX.mk bK bH (aS.mk bJ bI))) oa (eW.length:Int) 8).bind fun r5=>
  bif r5.1 then
  (wh r5.2.Row.L r5.2.Row.At).bind fun r6=>
  (ga r5.2 r6.2.2.Code r6.2.2.At).bind fun r7=>
  if (eW.length+ [r6.1].length)*136≤140737488355328 then
  j_ k r7.Row.L r6.2.1 r7.Row.ak.Code r7.Row.ak.At jz jB hO hJ jA fK (eW++ [r6.1]) eX eV cy else none else
  mH k r5.2.Row.L r5.2.Row.At r5.2.Row.ak.Code r5.2.Row.ak.At jz jB hO hJ jA fK eW eX eV cy
def iN (k:Nat) (r_:au):Option (c8×au):=(b8 r_ k8).bind fun r1=>
 (b8 r1 k6).bind fun r2=>
 (mg r2).bind fun r3=>
 (b8 r3.2 cY).bind fun r4=>
 j_ k r4.Row.L r4.Row.At r4.Row.ak.Code r4.Row.ak.At 0 [] [] [] [] r3.1 [] [] [] []
def iM  (r_:au):Option (c8×au):=dn (fun k (x:au)=>iN k x) r_
theorem Nl:aD Tryd.prog S (Eo (iM)):=gA (fun k x=>iN k x) (fun _=>rfl) fun k=>
 fC pk [kY b8,zg mg,zR gC,AV wh,tS ga,El zQ,Ek zP,Ej mG,iG dy,qY gz] ⟨mh,DI,Em,Gq,y7,Nh,Nf,Nc,jj,uk,trivial⟩ Tryd.func8 [] k (fun k=> [(0,⟨[0,2,3],[ey,kQ,kQ],fun x=>j_ k x.1.1 x.1.2.1 x.1.2.2.1 x.1.2.2.2 x.2.1.1 x.2.1.2.1 x.2.1.2.2.1 x.2.1.2.2.2.1 x.2.1.2.2.2.2 x.2.2.1 x.2.2.2.1 x.2.2.2.2.1 x.2.2.2.2.2.1 x.2.2.2.2.2.2,false⟩),(2,⟨[0,2,3],[ey,kQ,kQ],fun x=>mH k x.1.1 x.1.2.1 x.1.2.2.1 x.1.2.2.2 x.2.1.1 x.2.1.2.1 x.2.1.2.2.1 x.2.1.2.2.2.1 x.2.1.2.2.2.2 x.2.2.1 x.2.2.2.1 x.2.2.2.2.1 x.2.2.2.2.2.1 x.2.2.2.2.2.2,false⟩),(4,⟨[0,2,3],[ey,kQ,kQ],fun x=>mI k x.1.1 x.1.2.1 x.1.2.2.1 x.1.2.2.2 x.2.1.1 x.2.1.2.1 x.2.1.2.2.1 x.2.1.2.2.2.1 x.2.1.2.2.2.2 x.2.2.1 x.2.2.2.1 x.2.2.2.2.1 x.2.2.2.2.2.1 x.2.2.2.2.2.2,false⟩),(6,⟨[0,2,3],[ey,kQ,kQ],fun x=>ke k x.1.1 x.1.2.1 x.1.2.2.1 x.1.2.2.2 x.2.1.1 x.2.1.2.1 x.2.1.2.2.1 x.2.1.2.2.2.1 x.2.1.2.2.2.2 x.2.2.1 x.2.2.2.1 x.2.2.2.2.1 x.2.2.2.2.2.1 x.2.2.2.2.2.2,false⟩)]) ⟨fun _=>rfl,fun _=>rfl,fun _=>rfl,fun _=>rfl,trivial⟩ (fun _=>by kernel_rfl) (fun _=>by kernel_rfl) (by kernel_rfl)
abbrev M9:=(List UInt8)→Option (c8×aS)
abbrev zO (f:M9):Entry S:=⟨5,[q0],[Ds,q6],fun x=>f x⟩
def gh  (text:List UInt8):Option (c8×aS):=(tI text).bind fun r1=>
 if r1.2.Code≠0 then
 some (c8.mk 0 [] [] [] [],r1.2) else
 (iM (au.mk (aX.mk r1.1 0 (aS.mk 0 0)))).bind fun r2=>
 (jl r2.2).bind fun r3=>
 bif !r3.1 then
 some (c8.mk 0 [] [] [] [],r3.2.Row.ak) else
 some (r2.1,aS.mk 0 0)
theorem Eh:aD Tryd.prog S (zO (gh)):=
 aZ pk [CU tI,Eo iM,uc jl] ⟨JO,Nl,zi,trivial⟩ Tryd.func5 (by kernel_rfl) (fun _=>by kernel_rfl) (by kernel_rfl)
abbrev JD:=Option Bool
abbrev CR (f:JD):Entry S:=⟨6,[],[q3],fun x=>f⟩
def nM:Option Bool:=(gh zx).bind fun r1=>
 (gh zy).bind fun r2=>
 if r1.2.Code=0 then
 if r1.1.vB=1 then
 if (r1.1.vD.length:Int)=0 then
 some (decide (r2.2.Code=12∧r2.2.At=12)) else
 some false else
 some false else
 some false
theorem JC:aD Tryd.prog S (CR (nM)):=
 aZ pk [zO gh] ⟨Eh,trivial⟩ Tryd.func6 (by kernel_rfl) (fun _=>by kernel_rfl) (by kernel_rfl)
abbrev JB:=Int→(List Int)→Option Bool
abbrev Jz (f:JB):Entry S:=⟨4,[q2,yW],[q3],fun x=>f x.1 x.2⟩
def l8:Nat→(List Int)→Int→Int→(List cN)→(List dA)→(List dz)→(List bF)→Int→Option Bool
 | 0,_,_,_,_,_,_,_,_=>none
 | k+1,aU,k_,fK,eW,eX,eV,cy,i=>if i<k_ then
  if (0:Int)≤0 then
  if 0<(cy.length:Int) then
  if 0≤i then
  if i<(((cy.getD (0:Int).toNat bF.z).Cells).length:Int) then
  if (((((cy.getD (0:Int).toNat bF.z).Cells).getD i.toNat b_.z).Sets).length:Int)≠2 then
  some false else
  if (0:Int)≤0 then
  if 0<(((((cy.getD (0:Int).toNat bF.z).Cells).getD i.toNat b_.z).Sets).length:Int) then
  if ((((((cy.getD (0:Int).toNat bF.z).Cells).getD i.toNat b_.z).Sets).getD (0:Int).toNat []).length:Int)≠2 then
  some false else
  if (0:Int)≤0 then
  if 0<(((((cy.getD (0:Int).toNat bF.z).Cells).getD i.toNat b_.z).Sets).length:Int) then
  if (0:Int)≤1 then
  if 1<((((((cy.getD (0:Int).toNat bF.z).Cells).getD i.toNat b_.z).Sets).getD (0:Int).toNat []).length:Int) then
  if ((((((cy.getD (0:Int).toNat bF.z).Cells).getD i.toNat b_.z).Sets).getD (0:Int).toNat []).getD (1:Int).toNat [])≠ME then
  some false else
  if (0:Int)≤1 then
  if 1<(((((cy.getD (0:Int).toNat bF.z).Cells).getD i.toNat b_.z).Sets).length:Int) then
  if ((((((cy.getD (0:Int).toNat bF.z).Cells).getD i.toNat b_.z).Sets).getD (1:Int).toNat []).length:Int)≠0 then
  some false else
  if (((((cy.getD (0:Int).toNat bF.z).Cells).getD i.toNat b_.z).oQ).length:Int)≠1 then
  some false else
  if (0:Int)≤0 then
  if 0<(((((cy.getD (0:Int).toNat bF.z).Cells).getD i.toNat b_.z).oQ).length:Int) then
  if ((((((cy.getD (0:Int).toNat bF.z).Cells).getD i.toNat b_.z).oQ).getD (0:Int).toNat []).length:Int)≠3 then
  some false else
  if i<(aU.length:Int) then
  if 0≤i then
  if i<(aU.length:Int) then
  if ¬ (2:Int)=0 then
  if (decide (((((cy.getD (0:Int).toNat bF.z).Cells).getD i.toNat b_.z).sg)=0))≠(decide (((aU.getD i.toNat 0).tmod 2)=0)) then
  some false else
  l8 k aU k_ fK eW eX eV cy (aJ (i+1)) else none else none else none else
  if (decide (((((cy.getD (0:Int).toNat bF.z).Cells).getD i.toNat b_.z).sg)=0))≠false then
  some false else
  l8 k aU k_ fK eW eX eV cy (aJ (i+1)) else none else none else none else none else none else none else none else none else none else none else none else none else none else none else
  (nM).bind fun r3=>
  some r3
def fX:Nat→(List Int)→(List UInt8)→Int→Int→Int→Option Bool
 | 0,_,_,_,_,_=>none
 | k+1,aU,text,k_,aE,i=>if i<k_ then
  if i=64 then
  if i<(aU.length:Int) then
  if 0≤i then
  if i<(aU.length:Int) then
  if ¬ (2:Int)=0 then
  if ((aU.getD i.toNat 0).tmod 2)=0 then
  if text.length+cz.length≤9223372036854775807 then
  if (text++cz).length+iJ.length≤9223372036854775807 then
  if ((text++cz)++iJ).length+eY.length≤9223372036854775807 then
  fX k aU (((text++cz)++iJ)++eY) k_ (aJ ((text.length:Int)+2)) (aJ (i+1)) else none else none else none else
  if text.length+cz.length≤9223372036854775807 then
  if (text++cz).length+eU.length≤9223372036854775807 then
  if ((text++cz)++eU).length+eY.length≤9223372036854775807 then
  fX k aU (((text++cz)++eU)++eY) k_ (aJ ((text.length:Int)+2)) (aJ (i+1)) else none else none else none else none else none else none else
  if text.length+cz.length≤9223372036854775807 then
  if (text++cz).length+eU.length≤9223372036854775807 then
  if ((text++cz)++eU).length+eY.length≤9223372036854775807 then
  fX k aU (((text++cz)++eU)++eY) k_ (aJ ((text.length:Int)+2)) (aJ (i+1)) else none else none else none else
  if i<(aU.length:Int) then
  if 0≤i then
  if i<(aU.length:Int) then
  if ¬ (2:Int)=0 then
  if ((aU.getD i.toNat 0).tmod 2)=0 then
  if text.length+cz.length≤9223372036854775807 then
  if (text++cz).length+iJ.length≤9223372036854775807 then
  if ((text++cz)++iJ).length+eY.length≤9223372036854775807 then
  fX k aU (((text++cz)++iJ)++eY) k_ aE (aJ (i+1)) else none else none else none else
  if text.length+cz.length≤9223372036854775807 then
  if (text++cz).length+eU.length≤9223372036854775807 then
  if ((text++cz)++eU).length+eY.length≤9223372036854775807 then
  fX k aU (((text++cz)++eU)++eY) k_ aE (aJ (i+1)) else none else none else none else none else none else none else
  if text.length+cz.length≤9223372036854775807 then
  if (text++cz).length+eU.length≤9223372036854775807 then
  if ((text++cz)++eU).length+eY.length≤9223372036854775807 then
  fX k aU (((text++cz)++eU)++eY) k_ aE (aJ (i+1)) else none else none else none else
  if text.length+uV.length≤9223372036854775807 then
  (gh (text++uV)).bind fun r1=>
  if 64<k_ then
  if r1.2.Code=15∧r1.2.At=aE then
  (nM).bind fun r2=>
  some r2 else
  some false else
  if r1.2.Code≠0 then
  some false else
  if (r1.1.oJ.length:Int)≠1 then
  some false else
  if (0:Int)≤0 then
  if 0<(r1.1.oJ.length:Int) then
  if (((r1.1.oJ.getD (0:Int).toNat bF.z).Cells).length:Int)≠k_ then
  some false else
  l8 k aU k_ r1.1.vB r1.1.vD r1.1.Insts r1.1.rW r1.1.oJ 0 else none else none else none
def tE (k:Nat) (n:Int) (aU:List Int):Option Bool:=if ¬ (70:Int)=0 then
 fX k aU jt ((aJ n).tmod 70) 0 0 else none
def yf  (n:Int) (aU:List Int):Option Bool:=dn (fun k (x:Int×List Int)=>tE k x.1 x.2) (n,aU)
theorem JA:aD Tryd.prog S (Jz (yf)):=gA (fun k x=>tE k x.1 x.2) (fun _=>rfl) fun k=>
 fC pk [zO gh,CR nM] ⟨Eh,JC,trivial⟩ Tryd.func4 [] k (fun k=> [(0,⟨[1,5,6,7,8],[yW,q0,q1,q1,q1],fun x=>fX k x.1 x.2.1 x.2.2.1 x.2.2.2.1 x.2.2.2.2,false⟩),(2,⟨[1,6,10,12],[yW,q1,Lc,q1],fun x=>l8 k x.1 x.2.1 x.2.2.1.1 x.2.2.1.2.1 x.2.2.1.2.2.1 x.2.2.1.2.2.2.1 x.2.2.1.2.2.2.2 x.2.2.2,false⟩)]) ⟨fun _=>rfl,fun _=>rfl,trivial⟩ (fun _=>by kernel_rfl) (fun _=>by kernel_rfl) (by kernel_rfl)
end
end Go.Sy.Ex
namespace Go.Sy.Ex
open Go Go.Sy Go.Proofs Go.Proofs.YtogpgblanenleaaDoor
abbrev L7:List (String×DataW Unit):= [("math/bits.deBruijn32tab",Rows.laid_math_bits_deBruijn32tab),("math/bits.deBruijn64tab",Rows.laid_math_bits_deBruijn64tab),("internal/strconv.uint64pow10",Rows.laid_internal_strconv_uint64pow10),("strconv.ErrRange",Rows.laid_strconv_ErrRange),("strconv.ErrSyntax",Rows.laid_strconv_ErrSyntax)]
theorem BS:Tryd.prog.globalNamed "strconv.ErrRange" =some 2:=by kernel_rfl
theorem BT:Tryd.prog.globalNamed "strconv.ErrSyntax" =some 1:=by kernel_rfl
theorem Nq:(Tryd.prog.globals[2]?).map (·.type)=some 95:=by kernel_rfl
theorem Nr:(Tryd.prog.globals[1]?).map (·.type)=some 95:=by kernel_rfl
theorem star: "*" ++ "errors.errorString" = "*errors.errorString" :=by decide
theorem DN (u:TypeId) (h:Tryd.prog.typeName? 3 u=some "*errors.errorString"):u=141:=
 typeName_ptr_named (nm:= "errors.errorString") (by rw [star]; kernel_rfl) (by kernel_rfl) (by decide) u (by rw [star]; exact h)
theorem BU:Tryd.prog.globalNamed "internal/strconv.uint64pow10" =some 3:=by kernel_rfl
theorem Ns:(Tryd.prog.globals[3]?).map (·.type)=some 170:=by kernel_rfl
theorem Ki {W:World} (h:W.ShapedOpen Tryd.prog): ∃ m,W.cell? ⟨0,0,none⟩=some (.int .i64 m):=
 cell_of_shapedOpen_int (t:=3) (zero:= #[.int .i64 0]) h (of_decide_eq_true (by kernel_rfl)) (by kernel_rfl) rfl (by kernel_rfl) (by kernel_rfl) Tryd.underlying3
theorem HG {W:World} {M:St} (hM:fA M) (hL:laidMetH Tryd.prog L7 W) (hsh:W.ShapedOpen Tryd.prog):fO S W M:=by
 rw [MakeChecks.laidMetH_plain _ _ _ (by kernel_rfl)] at hL
 have hT:Lib.TabIs Tryd.prog W "internal/strconv.uint64pow10" .u64 Lib.pow10Tab:=Lib.tabIs_of_head BU Ns Tryd.underlying170 Tryd.underlying114 (by kernel_rfl) (by kernel_rfl) hL.tail.tail
 obtain ⟨a0,s0,hv0, -, -, -⟩:=laid_sentinel hL.tail.tail.tail BS Nq Tryd.underlying95 DN Tryd.underlying141 Tryd.underlying143 rfl rfl Tryd.underlying9 (by kernel_rfl) (by kernel_rfl)
 have c1:=World.var?_cell BS hv0 0
 obtain ⟨a1,s1,hv1, -, -, -⟩:=laid_sentinel hL.tail.tail.tail.tail BT Nr Tryd.underlying95 DN Tryd.underlying141 Tryd.underlying143 rfl rfl Tryd.underlying9 (by kernel_rfl) (by kernel_rfl)
 have c0:=World.var?_cell BT hv1 0
 obtain ⟨m,c3⟩:=Ki hsh
 refine ⟨fun g hg=> ?_,fun g hg=> ?_⟩
 · simp only [List.mem_cons,List.not_mem_nil,or_false] at hg
   rcases hg with rfl | rfl | rfl
   · exact ⟨World.block_lt_of_cell? _ _ c3,hM _ _,_,c3,m,rfl⟩
   · exact ⟨World.block_lt_of_cell? _ _ (by simpa using c1),hM _ _,_,by simpa using c1, .inr ⟨_,_,rfl⟩⟩
   · exact ⟨World.block_lt_of_cell? _ _ (by simpa using c0),hM _ _,_,by simpa using c0, .inr ⟨_,_,rfl⟩⟩
 · simp only [List.mem_cons,List.not_mem_nil,or_false] at hg
   subst hg
   unfold Lib.TabIs World.var? at hT
   rw [BU] at hT
   simp only [Option.bind_some] at hT
   split at hT
   · rename_i cs t f hb
     cases hT
     exact ⟨(Array.getElem?_eq_some_iff.1 hb).1,fun o=>hM _ _,_,hb,t,f,rfl⟩
   · cases hT
end Go.Sy.Ex
namespace Go.Sy.Ex
open Go Go.Sy Go.Proofs Go.Proofs.YtogpgblanenleaaDoor Go.ChangeShapes Go.WideShapes Go.RowKit
theorem Mf {H:Type} {enc:TypeId×Value→H} {a:Assume} {C:Checked} {os:Os} {f:FuncId} {fn:Func} {s:ChangeSpec} {conds:List PathCond} {apart fresh handsOn again:Bool} {X:World→Array Value→Prop}
 (hX: ∀ (w w':World) (args:Array Value),w.heap=w'.heap→X w args→X w' args)
 (own:ownKnob C.prog.godebug=none) (started:os.Started) (noInit:C.prog.inits.idxOf? f=none) (hfn:C.prog.funcs[f]? =some fn)
 (witness: ∃ (w:World) (tape:Tape) (i:Input),w.os=os∧(w.forCall tape i).Shaped C.prog∧i.vars= []∧Input.okWide C.prog (w.forCall tape i) .any w.heap.size f i∧
  ((s.pre enc C.prog fn conds apart (w.forCall tape i).memory i.args∧X (w.forCall tape i).memory i.args)∧sizedMet enc C.prog fn (OpenSpec.ofChange s) apart (w.forCall tape i).memory i.args)∧a.holds C.prog (lone (Frame.enter C.prog f i.args .normal) [] (w.forCall tape i)))
 (contract: ∀ (W:World) (base:Nat) (args:Array Value) (ds gs:List (DataW H)) (before:List MemPlace),
  (∀ (j:Nat) t v,fn.params[j]? =some t→args[j]? =some v→Value.okWide C.prog W .any base t v)→
  DataW.Whole enc C.prog fn.params.toList s.vars apart W args.toList ds gs before→
  conds.all (PathCond.test C.prog ⟨fn.params.toList,ds,s.plain.varTypes C.prog,gs⟩)=true→
  (DataW.weightsEach C.prog (fn.params.toList++s.plain.varTypes C.prog) (ds++gs)).all (· ≤reachBytes)=true→X W args→W.ShapedOpen C.prog→
  a.holds C.prog (lone (Frame.enter C.prog f args .normal) [] W)→
  Calls C.prog f args W fun e W'=> ∃ v,e= .returned v∧s.post enc C.prog fn apart fresh handsOn again W args v W'):
 ReturnsInHanded a C os f .any (fun w args=>(s.pre enc C.prog fn conds apart w args∧X w args)∧sizedMet enc C.prog fn (OpenSpec.ofChange s) apart w args) (s.post enc C.prog fn apart fresh handsOn again):=by
 refine returnsInHanded_of_calls own started noInit witness ?_
 intro w tape i _ hsh _ hok hpre hholds
 obtain ⟨_,_,_,fn',Iy,_,_,_,_,hval⟩:=hok
 have e:fn'=fn:=Option.some.inj (Iy.symm.trans hfn)
 subst e
 obtain ⟨⟨⟨ds,gs,before,hw,hc⟩,hx⟩,hz⟩:=hpre
 have hw':=DataW.Whole.of_heap (w':=w.forCall tape i) (by rfl) hw
 refine (contract (w.forCall tape i) w.heap.size i.args ds gs before hval hw' hc (hz.weights hw) (hX _ _ _ (by rfl) hx) hsh hholds).mono fun e W' ⟨v,he,hp⟩=> ?_
 subst he
 exact ChangeSpec.post_blind hp
set_option maxRecDepth 100000 in
theorem GX (os:Os) (args:Array Value):laidMetH Tryd.prog L7 ((World.laidAll Tryd.prog os L7).forCall (fun _ _=>0) ⟨#[],args,[]⟩).memory:=by
 rw [MakeChecks.laidMetH_plain _ _ _ (by kernel_rfl)]
 exact laidMet_laidAll _ (by kernel_rfl) (by kernel_rfl)
end Go.Sy.Ex
namespace Go.Sy.Ex
open Go.Sy
theorem ES (b:UInt8):((b.toNat:Nat):Int).toNat.toUInt8=b:=by
 rw [Int.toNat_natCast]; exact UInt8.ofNat_toNat
theorem F4 (b:UInt8):(0≤Lib.indexByte uY b)↔((b.toNat:Int)=32∨(b.toNat:Int)=9∨(b.toNat:Int)=10∨(b.toNat:Int)=13):=by
 have h: ∀ n,n<256→((0≤Lib.indexByte uY (Nat.toUInt8 n))↔(((Nat.toUInt8 n).toNat:Int)=32∨((Nat.toUInt8 n).toNat:Int)=9∨((Nat.toUInt8 n).toNat:Int)=10∨((Nat.toUInt8 n).toNat:Int)=13)):=by decide+kernel
 have :=h b.toNat b.toNat_lt
 rwa [show Nat.toUInt8 b.toNat=b from UInt8.ofNat_toNat] at this
def isDigit (c:Int):Bool:=decide (48≤c∧c≤57)
def l6 (c:Int):Bool:=decide ((97≤c∧c≤122)∨(65≤c∧c≤90)∨c=95)
theorem ye (c:Int):kL c=some (l6 c||isDigit c,isDigit c):=by
 have fin: ∀ a b:Bool,((a=true)↔((97≤c∧c≤122)∨(65≤c∧c≤90)∨c=95)∨(48≤c∧c≤57))→((b=true)↔(48≤c∧c≤57))→some (a,b)=some (l6 c||isDigit c,isDigit c):=by
  intro a b ha hb
  have e1:a=(l6 c||isDigit c):=by
   rw [Bool.eq_iff_iff,ha]; simp [l6,isDigit]
  have e2:b=isDigit c:=by
   rw [Bool.eq_iff_iff,hb]; simp [isDigit]
  rw [e1,e2]
 unfold kL
 repeat' split
 all_goals
  refine fin _ _ ?_ ?_
  · constructor
    · intro h; first | omega | (cases h)
    · intro h; first | rfl | (exfalso; omega)
  · constructor
    · intro h; first | omega | (cases h)
    · intro h; first | rfl | (exfalso; omega)
def cl:Bool→List UInt8→Nat→Nat
 | _,[],n=>n
 | true,b::t,n=>if b=10 then cl false t (n+1) else cl true t (n+1)
 | false,b::t,n=>if b=32∨b=9∨b=10∨b=13 then cl false t (n+1) else if b=35 then cl true t (n+1) else n
theorem vb: ∀ (t:List UInt8) (r:Bool) (n:Nat),n≤cl r t n∧cl r t n≤n+t.length:=by
 intro t
 induction t with
 | nil=>intro r n; cases r <;> exact ⟨Nat.le_refl _,Nat.le_refl _⟩
 | cons b t ih=>
  intro r n
  have h1:=ih true (n+1)
  have h2:=ih false (n+1)
  cases r
  · simp only [cl,List.length_cons]
    split
    · omega
    · split
      · omega
      · omega
  · simp only [cl,List.length_cons]
    split <;> omega
theorem mO (b:UInt8) (n:Nat) (hn:n<256):((b.toNat:Int)=(n:Int))↔b=Nat.toUInt8 n:=by
 constructor
 · intro h
   refine UInt8.toNat_inj.1 ?_
   have :(Nat.toUInt8 n).toNat=n:=by
    show n % 256=n
    omega
   omega
 · rintro rfl
   have :(Nat.toUInt8 n).toNat=n:=by
    show n % 256=n
    omega
   omega
theorem MQ (t:List UInt8) (hl:t.length<200000000000000): ∀ m n,n+m=t.length→(∀ k,3*m+1≤k→jc k t ((n:Nat):Int)=some ((cl false (t.drop n) n:Nat):Int))∧ ∀ k,3*m+2≤k→kM k t ((n:Nat):Int)=some ((cl true (t.drop n) n:Nat):Int):=by
 intro m
 induction m with
 | zero=>
  intro n h
  have hd:t.drop n= []:=List.drop_eq_nil_of_le (by omega)
  have h0: ∀ k,1≤k→jc k t ((n:Nat):Int)=some ((cl false (t.drop n) n:Nat):Int):=by
   intro k hk
   obtain ⟨k,rfl⟩: ∃ j,k=j+1:=⟨k - 1,by omega⟩
   simp only [jc]
   rw [if_neg (by omega),hd]; rfl
  refine ⟨fun k hk=>h0 k (by omega),fun k hk=> ?_⟩
  obtain ⟨k,rfl⟩: ∃ j,k=j+1:=⟨k - 1,by omega⟩
  simp only [kM]
  rw [if_neg (by omega),h0 k (by omega),hd]; rfl
 | succ m ih=>
  intro n h
  have hlt:n<t.length:=by omega
  obtain ⟨i0,i1⟩:=ih (n+1) (by omega)
  have e:aJ ((n:Int)+1)=((n+1:Nat):Int):=by rw [gD (by omega) (by omega)]; omega
  have hd:t.drop n=t[n]::t.drop (n+1):=List.drop_eq_getElem_cons hlt
  have vX:((t[n].toNat:Nat):Int)=10↔t[n]=10:=mO t[n] 10 (by decide)
  have Gc:((t[n].toNat:Nat):Int)=32↔t[n]=32:=mO t[n] 32 (by decide)
  have c9:((t[n].toNat:Nat):Int)=9↔t[n]=9:=mO t[n] 9 (by decide)
  have Gb:((t[n].toNat:Nat):Int)=13↔t[n]=13:=mO t[n] 13 (by decide)
  have AA:((t[n].toNat:Nat):Int)=35↔t[n]=35:=mO t[n] 35 (by decide)
  have h0: ∀ k,3*(m+1)+1≤k→jc k t ((n:Nat):Int)=some ((cl false (t.drop n) n:Nat):Int):=by
   intro k hk
   obtain ⟨k,rfl⟩: ∃ j,k=j+1:=⟨k - 1,by omega⟩
   have g1:(n:Int)<(t.length:Int):=by omega
   have g0:0≤(n:Int):=by omega
   have l1:t[n]=35→kM k t ((n:Nat):Int)=some ((cl true (t.drop (n+1)) (n+1):Nat):Int):=by
    intro hb
    obtain ⟨k,rfl⟩: ∃ j,k=j+1:=⟨k - 1,by omega⟩
    simp only [kM]
    rw [if_pos g1,if_pos g0,if_pos g1,Int.toNat_natCast,iy _ hlt,if_pos (by rw [hb]; decide),e]
    exact i1 k (by omega)
   simp only [jc,kO,aq,ES]
   simp only [g0,g1,if_true,Int.toNat_natCast,iy _ hlt,e]
   rw [hd,i0 k (by omega)]
   simp only [cl]
   have hb:=F4 t[n]
   rw [Gc,c9,vX,Gb] at hb
   by_cases hx:0≤Lib.indexByte uY t[n]
   · rw [if_pos hx,if_pos (hb.1 hx)]
   · rw [if_neg hx,if_neg (fun q=>hx (hb.2 q))]
     by_cases oY:t[n]=35
     · rw [if_pos (AA.2 oY),if_pos oY,l1 oY]
     · rw [if_neg (fun q=>oY (AA.1 q)),if_neg oY]
  refine ⟨h0,fun k hk=> ?_⟩
  obtain ⟨k,rfl⟩: ∃ j,k=j+1:=⟨k - 1,by omega⟩
  simp only [kM]
  rw [if_pos (by omega),if_pos (by omega),if_pos (by omega),Int.toNat_natCast,iy _ hlt,e]
  by_cases oX:t[n]=10
  · rw [if_neg (fun q=>q (vX.2 oX)),h0 k (by omega),hd]
    simp only [cl]
    rw [if_pos (.inr (.inr (.inl oX))),if_pos oX]
  · rw [if_pos (fun q=>oX (vX.1 q)),i1 k (by omega),hd]
    simp only [cl]
    rw [if_neg oX]
def dg (b:UInt8):Bool:=isDigit (b.toNat:Int)
def lt (b:UInt8):Bool:=l6 (b.toNat:Int)
def nm (b:UInt8):Bool:=lt b||dg b
def cX (p:UInt8→Bool) (t:List UInt8) (n:Nat):Nat:=n+((t.drop n).takeWhile p).length
theorem Mh {p:UInt8→Bool} {t:List UInt8} {n:Nat} (h:t.length≤n):cX p t n=n:=by
 unfold cX; rw [List.drop_eq_nil_of_le h]; rfl
theorem zo {p:UInt8→Bool} {t:List UInt8} {n:Nat} (h:n<t.length) (hp:p t[n]=true):cX p t n=cX p t (n+1):=by
 unfold cX; rw [List.drop_eq_getElem_cons h,List.takeWhile_cons_of_pos hp]; simp only [List.length_cons]; omega
theorem Mg {p:UInt8→Bool} {t:List UInt8} {n:Nat} (h:n<t.length) (hp:p t[n]=false):cX p t n=n:=by
 unfold cX; rw [List.drop_eq_getElem_cons h,List.takeWhile_cons_of_neg (by simp [hp])]; rfl
theorem rJ (p:UInt8→Bool): ∀ l:List UInt8,(l.takeWhile p).length≤l.length:=fun l=>by
 induction l with
 | nil=>exact Nat.le_refl _
 | cons a l ih=>rw [List.takeWhile_cons]; split <;> simp <;> omega
theorem n9 (p:UInt8→Bool) (t:List UInt8) (n:Nat) (h:n≤t.length):n≤cX p t n∧cX p t n≤t.length:=by
 unfold cX
 have :=rJ p (t.drop n)
 rw [List.length_drop] at this
 omega
theorem sG (p:UInt8→Bool) (t:List UInt8) (n:Nat):cut t ((n:Nat):Int) ((cX p t n:Nat):Int)=(t.drop n).takeWhile p:=by
 unfold cut cX
 rw [Int.toNat_natCast,Int.toNat_natCast,List.drop_take,Nat.add_sub_cancel_left]
 generalize t.drop n=l
 induction l with
 | nil=>rfl
 | cons a l ih => rw [List.takeWhile_cons]; split
                  · rw [List.length_cons,List.take_succ_cons,ih]
                  · rfl
theorem G5 (t:List UInt8) (f:Bool) (hl:t.length<200000000000000): ∀ m n,n+m=t.length→ ∀ k,m+1≤k→l_ k t ((n:Nat):Int) f=some ((cX (fun b=>bif f then dg b else nm b) t n:Nat):Int):=by
 intro m
 induction m with
 | zero=>
  intro n h k hk
  obtain ⟨k,rfl⟩: ∃ j,k=j+1:=⟨k - 1,by omega⟩
  simp only [l_]
  rw [if_neg (by omega),Mh (by omega)]
 | succ m ih=>
  intro n h k hk
  obtain ⟨k,rfl⟩: ∃ j,k=j+1:=⟨k - 1,by omega⟩
  have hlt:n<t.length:=by omega
  have e:aJ ((n:Int)+1)=((n+1:Nat):Int):=by rw [gD (by omega) (by omega)]; omega
  simp only [l_,ye,aq]
  rw [if_pos (by omega),if_pos (by omega),if_pos (by omega),Int.toNat_natCast,iy _ hlt,e,ih (n+1) (by omega) k (by omega)]
  have key: ∀ a b:Bool,lt t[n]=a→dg t[n]=b→(bif !(a||b) then some ((n:Nat):Int) else bif f then bif !b then some ((n:Nat):Int) else some ((cX (fun b=>bif f then dg b else nm b) t (n+1):Nat):Int) else some ((cX (fun b=>bif f then dg b else nm b) t (n+1):Nat):Int))=some ((cX (fun b=>bif f then dg b else nm b) t n:Nat):Int):=by
   intro a b ha hb
   cases f <;> cases a <;> cases b <;> simp only [Bool.or_self,Bool.not_true,Bool.not_false,Bool.or_true,Bool.true_or,Bool.or_false,Bool.false_or,cond_true,cond_false]
   all_goals
    first
     | (rw [Mg hlt ?_]; simp [nm,ha,hb]; done)
     | (rw [zo hlt ?_]; simp [nm,ha,hb]; done)
  exact key _ _ rfl rfl
theorem G4 (t:List UInt8) (n:Nat) (hl:t.length<200000000000000) (h:n<t.length):qv t ((n:Nat):Int)=some ((cX (fun b=>bif dg t[n] then dg b else nm b) t n:Nat):Int):=by
 refine fY (t.length - n+1) fun k hk=> ?_
 simp only [yo,ye,aq]
 rw [if_pos (by omega),if_pos (by omega),Int.toNat_natCast,iy _ h]
 exact G5 t _ hl (t.length - n) n (by omega) k (by omega)
def oD (acc:Nat):List UInt8→Option Nat
 | []=>some acc
 | c::r=>if (9223372036854775807 - (c.toNat - 48)) / 10<acc then none else oD (10*acc+(c.toNat - 48)) r
theorem sL (b:UInt8):dg b=true↔48≤b.toNat∧b.toNat≤57:=by
 unfold dg isDigit
 rw [decide_eq_true_eq]
 omega
theorem F2: ∀ (l:List UInt8) (acc:Nat),(∀ c ∈ l,dg c=true)→9223372036854775808≤acc→Lib.parseUintM (2 ^ 64 - 1) acc l= .range∨ ∃ u,9223372036854775808≤u∧Lib.parseUintM (2 ^ 64 - 1) acc l= .ok u:=by
 intro l acc hd ha
 cases l with
 | nil=>exact .inr ⟨acc,ha,rfl⟩
 | cons c r=>
  refine .inl ?_
  have :=(sL c).1 (hd c (by simp))
  unfold Lib.parseUintM
  rw [if_pos this,if_pos (by omega)]
theorem Ow: ∀ (l:List UInt8) (acc:Nat),(∀ c ∈ l,dg c=true)→acc<9223372036854775808→
 (∀ v,oD acc l=some v→v<9223372036854775808∧Lib.parseUintM (2 ^ 64 - 1) acc l= .ok v)∧(oD acc l=none→Lib.parseUintM (2 ^ 64 - 1) acc l= .range∨ ∃ u,9223372036854775808≤u∧Lib.parseUintM (2 ^ 64 - 1) acc l= .ok u):=by
 intro l
 induction l with
 | nil=>intro acc _ ha; exact ⟨fun v h=>by cases h; exact ⟨ha,rfl⟩,fun h=>by cases h⟩
 | cons c r ih=>
  intro acc hd ha
  have hc:=(sL c).1 (hd c (by simp))
  have hr: ∀ c ∈ r,dg c=true:=fun x hx=>hd x (by simp [hx])
  unfold oD Lib.parseUintM
  rw [if_pos hc]
  by_cases h:(9223372036854775807 - (c.toNat - 48)) / 10<acc
  · rw [if_pos h]
    refine ⟨fun v h=>by (cases h),fun _=> ?_⟩
    by_cases h1:1844674407370955162≤acc
    · rw [if_pos h1]; exact .inl rfl
    · rw [if_neg h1]
      by_cases h2:2 ^ 64 - 1<acc*10+(c.toNat - 48)
      · rw [if_pos h2]; exact .inl rfl
      · rw [if_neg h2]
        exact F2 r _ hr (by omega)
  · rw [if_neg h,if_neg (by omega),if_neg (by omega),show acc*10+(c.toNat - 48)=10*acc+(c.toNat - 48) by omega]
    exact ih _ hr (by omega)
def jV (l:List UInt8):Int×Int:=if 1<l.length∧l.getD 0 0=48 then (0,11) else match oD 0 l with | some v=>((v:Int),0) | none=>(0,16)
def numOf (l:List UInt8):Int×Int:=
 if (1<l.length∧l.getD 0 0=48) then (0,11) else match Lib.parseIntB 64 l with
  | .ok v=>(v,0)
  | _=>(0,16)
theorem Ky (l:List UInt8) (hl:l.length≤281474976710656):qw l=some (numOf l):=by
 have key:((kP l 10 64).bind fun r1=>bif !r1.2 then some ((0:Int),(16:Int)) else some (r1.1,0))=some (match Lib.parseIntB 64 l with
  | .ok v=>(v,0)
  | _=>(0,16)):=by
  unfold kP
  rw [if_pos ⟨hl,rfl,rfl⟩,aq]
  cases Lib.parseIntB 64 l <;> rfl
 have h0:(((l.getD (0:Int).toNat 0).toNat:Nat):Int)=48↔l.getD 0 0=48:=mO _ 48 (by decide)
 unfold qw numOf
 by_cases h1:1<l.length
 · rw [if_pos (by omega),if_pos (by omega),if_pos (by omega)]
   by_cases h2:l.getD 0 0=48
   · rw [if_pos (h0.2 h2),if_pos ⟨h1,h2⟩]
   · rw [if_neg (fun q=>h2 (h0.1 q)),if_neg (fun q=>h2 q.2),key]
 · rw [if_neg (by omega),if_neg (fun q=>h1 q.1),key]
theorem C_ (l:List UInt8) (h0:l≠ []) (hd: ∀ c ∈ l,dg c=true):numOf l=jV l:=by
 unfold numOf jV
 by_cases h:1<l.length∧l.getD 0 0=48
 · rw [if_pos h,if_pos h]
 · rw [if_neg h,if_neg h]
   obtain ⟨c,r,rfl⟩: ∃ c r,l=c::r:=by cases l with
    | nil=>exact absurd rfl h0
    | cons c r=>exact ⟨c,r,rfl⟩
   have hc:=(sL c).1 (hd c (by simp))
   obtain ⟨v1,v2⟩:=Ow (c::r) 0 hd (by omega)
   have e:(∀ u,Lib.parseUintM (2 ^ 64 - 1) 0 (c::r)= .ok u→Lib.parseIntB 64 (c::r)=if 9223372036854775808≤u then .range else .ok (u:Int))∧(Lib.parseUintM (2 ^ 64 - 1) 0 (c::r)= .range→Lib.parseIntB 64 (c::r)= .range):=by
    unfold Lib.parseIntB Lib.parseUintB
    simp only []
    rw [if_neg (show ¬ (c.toNat=43∨c.toNat=45) by omega),if_neg (by simp)]
    constructor
    · intro u hu
      rw [hu]
      simp only [show ¬ c.toNat=45 by omega,not_false_eq_true,true_and,false_and,if_false]
    · intro hu
      rw [hu]
   cases hv:oD 0 (c::r) with
   | some v=>
    obtain ⟨a,b⟩:=v1 v hv
    rw [e.1 v b,if_neg (by omega)]
   | none=>
    rcases v2 hv with b | ⟨u,a,b⟩
    · rw [e.2 b]
    · rw [e.1 u b,if_pos a]
def gu:List (List UInt8):= [[45,62],[61,61],[33,61],[60,61],[62,61],[38,38],[124,124]]
def dw:List UInt8→Nat
 | []=>0
 | [b]=>if b ∈ gU then 1 else 0
 | b::c::_=>if [b,c] ∈ gu then 2 else if b ∈ gU then 1 else 0
theorem Js (l:List UInt8) (c:UInt8):0≤Lib.indexByte l c↔c ∈ l:=by
 induction l with
 | nil=>simp [Lib.indexByte]
 | cons b l ih=>
  unfold Lib.indexByte
  have hge:=Lib.indexByte_ge l c
  by_cases h:b=c
  · subst h; simp
  · rw [if_neg (by simpa using h)]
    rw [List.mem_cons]
    by_cases h1:Lib.indexByte l c= -1
    · rw [if_pos (by simp [h1])]
      constructor
      · intro x; omega
      · rintro (rfl | x)
        · exact absurd rfl h
        · have :=ih.2 x; omega
    · rw [if_neg (by simpa using h1)]
      constructor
      · intro x; exact .inr (ih.1 (by omega))
      · rintro (rfl | x)
        · exact absurd rfl h
        · have :=ih.2 x; omega
theorem contains_iff (s sub:List UInt8):Lib.contains s sub=true↔ ∃ i,i≤s.length∧Lib.occAt s sub i=true:=by
 unfold Lib.contains
 rw [decide_eq_true_eq]
 rcases Lib.index_spec s sub with ⟨h1,h2⟩ | ⟨i,h1,h2,h3,_⟩
 · constructor
   · intro h; omega
   · rintro ⟨i,hi,h⟩; rw [h2 i hi] at h; cases h
 · exact ⟨fun _=>⟨i,h2,h3⟩,fun _=>by omega⟩
theorem KK (b c:UInt8) (hb:b≠32) (hc:c≠32):Lib.contains D0 [b,c]=decide ([b,c] ∈ gu):=by
 rw [Bool.eq_iff_iff,contains_iff,decide_eq_true_eq]
 constructor
 · rintro ⟨i,hi,h⟩
   have hi':i=0∨i=1∨i=2∨i=3∨i=4∨i=5∨i=6∨i=7∨i=8∨i=9∨i=10∨i=11∨i=12∨i=13∨i=14∨i=15∨i=16∨i=17∨i=18∨i=19∨i=20:=by
    have :i≤20:=hi
    omega
   clear hi
   rcases hi' with rfl | rfl | rfl | rfl | rfl | rfl | rfl | rfl | rfl | rfl | rfl | rfl | rfl | rfl | rfl | rfl | rfl | rfl | rfl | rfl | rfl
   all_goals
    simp only [Lib.occAt,List.drop_succ_cons,List.drop_zero,List.drop_nil,List.isPrefixOf,Bool.and_true,Bool.and_eq_true,beq_iff_eq,Bool.and_false,Bool.false_eq_true,and_false] at h
   all_goals
    first
     | exact absurd h.1 hb
     | exact absurd h.2 hc
     | (obtain ⟨rfl,rfl⟩:=h; decide)
 · intro h
   simp only [gu,List.mem_cons,List.cons.injEq,and_true,List.not_mem_nil,or_false] at h
   rcases h with ⟨rfl,rfl⟩ | ⟨rfl,rfl⟩ | ⟨rfl,rfl⟩ | ⟨rfl,rfl⟩ | ⟨rfl,rfl⟩ | ⟨rfl,rfl⟩ | ⟨rfl,rfl⟩
   · exact ⟨0,by decide,by decide⟩
   · exact ⟨3,by decide,by decide⟩
   · exact ⟨6,by decide,by decide⟩
   · exact ⟨9,by decide,by decide⟩
   · exact ⟨12,by decide,by decide⟩
   · exact ⟨15,by decide,by decide⟩
   · exact ⟨18,by decide,by decide⟩
theorem GS (t:List UInt8) (n:Nat) (h:n+1<t.length):cut t ((n:Nat):Int) ((n+2:Nat):Int)= [t[n],t[n+1]]:=by
 unfold cut
 rw [Int.toNat_natCast,Int.toNat_natCast,List.drop_take,Nat.add_sub_cancel_left,List.drop_eq_getElem_cons (by omega:n<t.length),List.drop_eq_getElem_cons h]
 rfl
theorem ML (t:List UInt8) (n:Nat) (h:n+1<t.length):dw (t.drop n)=if [t[n],t[n+1]] ∈ gu then 2 else if t[n] ∈ gU then 1 else 0:=by
 rw [List.drop_eq_getElem_cons (by omega:n<t.length),List.drop_eq_getElem_cons h]; rfl
theorem MK (t:List UInt8) (n:Nat) (h:n+1=t.length):dw (t.drop n)=if t[n] ∈ gU then 1 else 0:=by
 rw [List.drop_eq_getElem_cons (by omega:n<t.length),List.drop_eq_nil_of_le (by omega)]; rfl
theorem Kv (b:UInt8): [b,(32:UInt8)] ∉ gu:=by
 simp only [gu,List.mem_cons,List.cons.injEq,and_true,List.not_mem_nil,or_false]
 rintro (⟨_,h⟩ | ⟨_,h⟩ | ⟨_,h⟩ | ⟨_,h⟩ | ⟨_,h⟩ | ⟨_,h⟩ | ⟨_,h⟩) <;> revert h <;> decide
theorem Oo (b:UInt8):b.toNat.toUInt8=b:=UInt8.ofNat_toNat
theorem Kc (t:List UInt8) (n:Nat) (hl:t.length<200000000000000) (h:n<t.length) (hb:t[n]≠32):qx t ((n:Nat):Int)=some ((n+dw (t.drop n):Nat):Int):=by
 have e1:aJ ((n:Int)+1)=((n+1:Nat):Int):=by rw [gD (by omega) (by omega)]; omega
 have e2:aJ ((n:Int)+2)=((n+2:Nat):Int):=by rw [gD (by omega) (by omega)]; omega
 unfold qx
 simp only [kO,nP,aq,ES,e1,e2,Int.toNat_natCast,iy _ h,Js,Oo]
 have hone:(if t[n] ∈ gU then some ((n+1:Nat):Int) else some ((n:Nat):Int))=some ((n+(if t[n] ∈ gU then 1 else 0):Nat):Int):=by
  split <;> rfl
 by_cases h1:n+1<t.length
 · rw [if_pos (by omega),if_pos (by omega),if_pos (by omega),iy _ h1,ML t n h1]
   by_cases hc:t[n+1]=32
   · rw [if_neg (by rw [hc]; decide),if_pos (by omega),if_pos (by omega),hc,if_neg (Kv _),hone]
   · have eP:((t[n+1].toNat:Nat):Int)≠32:=fun q=>hc ((mO _ 32 (by decide)).1 q)
     rw [if_pos eP,if_pos (by omega),if_pos (by omega),if_pos (by omega),if_pos (by omega),GS t n h1,if_pos (by decide),aq,KK _ _ hb hc]
     by_cases hp: [t[n],t[n+1]] ∈ gu
     · rw [if_pos hp,decide_eq_true hp]; rfl
     · rw [if_neg hp,decide_eq_false hp,cond_false,if_pos (by omega),if_pos (by omega),hone]
 · rw [if_neg (by omega),if_pos (by omega),if_pos (by omega),MK t n (by omega),hone]
def dO (t:List UInt8) (n:Nat):an×Int:=
 if dg (t.getD n 0) then
  (let r:=jV ((t.drop n).takeWhile dg)
   if r.2≠0 then (an.mk 0 0 0 [] 0,r.2) else (an.mk 2 n (cX dg t n:Nat) ((t.drop n).takeWhile dg) r.1,0))
 else if lt (t.getD n 0) then
  (if n+24<cX nm t n then (an.mk 0 0 0 [] 0,13) else (an.mk 1 n (cX nm t n:Nat) ((t.drop n).takeWhile nm) 0,0))
 else if dw (t.drop n)=0 then (an.mk 0 0 0 [] 0,10)
 else (an.mk 3 n (n+dw (t.drop n):Nat) ((t.drop n).take (dw (t.drop n))) 0,0)
theorem rD (t:List UInt8):dw t≤t.length:=by
 unfold dw
 split
 · exact Nat.le_refl _
 · split <;> simp
 · split
   · simp
   · split <;> simp
theorem Bd (t:List UInt8) (n j:Nat):cut t ((n:Nat):Int) ((n+j:Nat):Int)=(t.drop n).take j:=by
 unfold cut
 rw [Int.toNat_natCast,Int.toNat_natCast,List.drop_take,Nat.add_sub_cancel_left]
theorem EN (p:UInt8→Bool): ∀ l:List UInt8, ∀ c ∈ l.takeWhile p,p c=true:=by
 intro l
 induction l with
 | nil=>intro c hc; cases hc
 | cons a l ih=>
  intro c hc
  rw [List.takeWhile_cons] at hc
  split at hc
  · rcases List.mem_cons.1 hc with rfl | h
    · assumption
    · exact ih c h
  · cases hc
theorem Kx (t:List UInt8) (n:Nat) (h:n<t.length) (hd:dg t[n]=true):numOf ((t.drop n).takeWhile dg)=jV ((t.drop n).takeWhile dg):=by
 refine C_ _ ?_ ?_
 · rw [List.drop_eq_getElem_cons h,List.takeWhile_cons_of_pos hd]; exact List.cons_ne_nil _ _
 · intro c hc; exact EN _ _ c hc
theorem Kd (t:List UInt8) (n:Nat) (hl:t.length<200000000000000) (h:n<t.length) (hb:t[n]≠32):qz t ((n:Nat):Int)=some (dO t n):=by
 unfold qz dO
 simp only [ye,aq,Int.toNat_natCast,iy _ h,G4 t n hl h,Kc t n hl h hb]
 have g0:(0:Int)≤(n:Int):=by omega
 have g1:(n:Int)<(t.length:Int):=by omega
 rw [if_pos g0,if_pos g1]
 have Im:isDigit ((t[n].toNat:Nat):Int)=dg t[n]:=rfl
 have hlt:l6 ((t[n].toNat:Nat):Int)=lt t[n]:=rfl
 rw [Im,hlt]
 cases hd:dg t[n] with
 | true=>
  have r:=n9 dg t n (by omega)
  simp only [cond_true,if_true]
  rw [show (fun b=>dg b)=dg from rfl,if_pos (by omega),if_pos (by omega),if_pos (by omega),if_pos (by omega)]
  have hc:cut t ((n:Nat):Int) ((cX dg t n:Nat):Int)=(t.drop n).takeWhile dg:=sG dg t n
  have hlen:((t.drop n).takeWhile dg).length≤281474976710656:=by
   have :=rJ dg (t.drop n); rw [List.length_drop] at this; omega
  rw [hc,Ky _ hlen,aq,Kx t n h hd]
  by_cases hz:(jV ((t.drop n).takeWhile dg)).2≠0
  · rw [if_pos hz,if_pos hz]
  · rw [if_neg hz,if_neg hz,if_pos (by omega),if_pos (by omega),if_pos (by omega),if_pos (by omega)]
 | false=>
  simp only [cond_false,Bool.or_false,if_false,Bool.false_eq_true]
  cases hL:lt t[n] with
  | true=>
   have r:=n9 nm t n (by omega)
   have hc:cut t ((n:Nat):Int) ((cX nm t n:Nat):Int)=(t.drop n).takeWhile nm:=sG nm t n
   simp only [cond_true,if_true]
   rw [show (fun b=>nm b)=nm from rfl,hc,gD (by omega) (by omega)]
   by_cases pQ:n+24<cX nm t n
   · rw [if_pos (by omega),if_pos pQ]
   · rw [if_neg (by omega),if_neg pQ,if_pos (by omega),if_pos (by omega),if_pos (by omega),if_pos (by omega)]
  | false=>
   simp only [cond_false,if_false,Bool.false_eq_true]
   have hs:=rD (t.drop n)
   rw [List.length_drop] at hs
   rw [Bd]
   by_cases hz:dw (t.drop n)=0
   · rw [if_pos (by omega),if_pos hz]
   · rw [if_neg (by omega),if_neg hz,if_pos (by omega),if_pos (by omega),if_pos (by omega),if_pos (by omega)]
theorem GW (b:UInt8) (h:lt b=true):dg b=false:=by
 unfold lt l6 at h
 unfold dg isDigit
 rw [decide_eq_true_eq] at h
 rw [decide_eq_false_iff_not]
 omega
theorem C4 (t:List UInt8) (n:Nat) (hl:t.length<200000000000000) (h:n≤t.length):qy t ((n:Nat):Int)=some ((cl false (t.drop n) n:Nat):Int):=
 fY (3*(t.length - n)+1) fun k hk=>(MQ t hl (t.length - n) n (by omega)).1 k hk
theorem MO: ∀ (u:List UInt8) (r:Bool) (n j:Nat),cl r u n=n+j→j<u.length→u.getD j 0≠32:=by
 intro u
 induction u with
 | nil=>intro r n j _ h; simp at h
 | cons b u ih=>
  intro r n j hj h
  have go: ∀ r',cl r' u (n+1)=n+j→(b::u).getD j 0≠32:=by
   intro r' h'
   have :=(vb u r' (n+1)).1
   obtain ⟨j,rfl⟩: ∃ i,j=i+1:=⟨j - 1,by omega⟩
   rw [List.getD_cons_succ]
   refine ih r' (n+1) j (by omega) (by simpa using h)
  cases r with
  | true=>
   simp only [cl] at hj
   split at hj
   · exact go _ hj
   · exact go _ hj
  | false=>
   simp only [cl] at hj
   split at hj
   · exact go _ hj
   · split at hj
     · exact go _ hj
     · rename_i h1 h2
       obtain rfl:j=0:=by omega
       intro q
       exact h1 (.inl q)
theorem EE (t:List UInt8) (n:Nat) (h:n<t.length) (hz:(dO t n).2=0): ∃ e:Nat,(dO t n).1.End=(e:Int)∧n<e∧e≤t.length∧(dO t n).1.At=(n:Int)∧(dO t n).1.Text=cut t ((n:Nat):Int) ((e:Nat):Int)∧(dO t n).1.Kind≠4:=by
 revert hz
 unfold dO
 rw [iy _ h]
 by_cases hD:dg t[n]=true
 · rw [if_pos hD]
   simp only []
   split
   · intro hz; rename_i q; exact absurd hz q
   · intro _
     refine ⟨cX dg t n,rfl, ?_,(n9 dg t n (by omega)).2,rfl,(sG dg t n).symm,fun q=>absurd (show (2:Int)=4 from q) (by decide)⟩
     rw [zo h hD]; exact (n9 dg t (n+1) (by omega)).1
 · rw [if_neg hD]
   by_cases hL:lt t[n]=true
   · rw [if_pos hL]
     split
     · intro hz; exact absurd hz (by decide)
     · intro _
       refine ⟨cX nm t n,rfl, ?_,(n9 nm t n (by omega)).2,rfl,(sG nm t n).symm,fun q=>absurd (show (1:Int)=4 from q) (by decide)⟩
       rw [zo h (by simp [nm,hL])]; exact (n9 nm t (n+1) (by omega)).1
   · rw [if_neg hL]
     have hs:=rD (t.drop n)
     rw [List.length_drop] at hs
     split
     · intro hz; exact absurd hz (by decide)
     · intro _
       exact ⟨n+dw (t.drop n),rfl,by omega,by omega,rfl,(Bd t n _).symm,fun q=>absurd (show (3:Int)=4 from q) (by decide)⟩
def jE:Nat→List UInt8→List an→Nat→List an×aS
 | 0,_,_,_=>([],aS.mk 0 0)
 | k+1,t,l,n=>if n<t.length then
  (if (dO t n).2≠0 then ([],aS.mk (dO t n).2 n) else jE k t (l++ [(dO t n).1]) (cl false (t.drop (dO t n).1.End.toNat) (dO t n).1.End.toNat))
  else (l++ [an.mk 4 n n [] 0],aS.mk 0 0)
def iU (t:List UInt8):List an×aS:=
 if 16384<t.length then ([],aS.mk 13 16384) else jE (t.length+1) t [] (cl false t 0)
theorem BO (t:List UInt8) (n:Nat) (h:n≤t.length) (hs:cl false (t.drop n) n<t.length):t[cl false (t.drop n) n]≠32:=by
 have h1:=(vb (t.drop n) false n).1
 have :=MO (t.drop n) false n (cl false (t.drop n) n - n) (by omega) (by rw [List.length_drop]; omega)
 rw [iy _ (by rw [List.length_drop]; omega),List.getElem_drop] at this
 have e:n+(cl false (t.drop n) n - n)=cl false (t.drop n) n:=by omega
 simpa only [e] using this
theorem FO (t:List UInt8) (hl:t.length≤16384): ∀ m n,t.length≤n+m→n≤t.length→(∀ h:n<t.length,t[n]≠32)→ ∀ l:List an,l.length≤n→ ∀ k k',m+1≤k→m+1≤k'→
 l9 k t 0 0 l ((n:Nat):Int)=some (jE k' t l n):=by
 intro m
 induction m with
 | zero=>
  intro n h hn _ l IM k k' hk hk'
  obtain ⟨k,rfl⟩: ∃ j,k=j+1:=⟨k - 1,by omega⟩
  obtain ⟨k',rfl⟩: ∃ j,k'=j+1:=⟨k' - 1,by omega⟩
  simp only [l9,jE,List.length_cons,List.length_nil]
  rw [if_neg (by omega),if_pos (by omega),if_neg (by omega)]
 | succ m ih=>
  intro n h hn hb l IM k k' hk hk'
  obtain ⟨k,rfl⟩: ∃ j,k=j+1:=⟨k - 1,by omega⟩
  obtain ⟨k',rfl⟩: ∃ j,k'=j+1:=⟨k' - 1,by omega⟩
  by_cases hlt:n<t.length
  · have hi:(n:Int)<(t.length:Int):=by omega
    have Ib:(l.length+(0+1))*48≤140737488355328:=by omega
    simp only [l9,jE,List.length_cons,List.length_nil,hi,hlt,if_true,Kd t n (by omega) hlt (hb hlt),aq,Ib]
    by_cases hz:(dO t n).2=0
    · simp only [hz,ne_eq,not_true_eq_false,if_false]
      obtain ⟨e,he,h1,h2,_⟩:=EE t n hlt hz
      simp only [he,C4 t e (by omega) h2,aq,Int.toNat_natCast]
      have hg:=vb (t.drop e) false e
      rw [List.length_drop] at hg
      exact ih _ (by omega) (by omega) (fun hh=>BO t e h2 hh) _ (by rw [List.length_append,List.length_singleton]; omega) k k' (by omega) (by omega)
    · simp only [hz,ne_eq,not_false_eq_true,if_true]
  · simp only [l9,jE,List.length_cons,List.length_nil]
    rw [if_neg (by omega),if_pos (by omega),if_neg hlt]
theorem tA (t:List UInt8):tI t=some (iU t):=by
 refine fY (t.length+1) fun k hk=> ?_
 unfold ym iU
 by_cases hl:16384<t.length
 · rw [if_pos (by omega),if_pos hl]
 · have hg:=vb t false 0
   rw [if_neg (by omega),if_neg hl,show (0:Int)=((0:Nat):Int) from rfl,C4 t 0 (by omega) (Nat.zero_le _),aq]
   exact (FO t (by omega) t.length _ (by omega) (by rw [List.drop_zero]; omega) (fun hh=>BO t 0 (Nat.zero_le _) hh) [] (Nat.zero_le _) k _ (by omega) (by omega))
abbrev rP:List (List UInt8):= [k8,k6,oa,u5,uI,u7,uS,u6,u0,uQ,uL,uC,uE,uG,rz,ri,uU,uW,uw,uz,rm,uD,ry,rq,oc,uT,uH,rA,n_,uA,j8,ru,rj,mA,oe]
def mq (s:List UInt8):Bool:=decide (s ∈ rP)
theorem J_ (s:List UInt8):iB s=some (mq s):=by
 unfold iB
 by_cases hr:mq s=true
 · rw [hr]
   have hm:s ∈ rP:=of_decide_eq_true hr
   simp only [rP,List.mem_cons,List.not_mem_nil,or_false] at hm
   rcases hm with rfl | rfl | rfl | rfl | rfl | rfl | rfl | rfl | rfl | rfl | rfl | rfl | rfl | rfl | rfl | rfl | rfl | rfl | rfl | rfl | rfl | rfl | rfl | rfl | rfl | rfl | rfl | rfl | rfl | rfl | rfl | rfl | rfl | rfl | rfl <;> decide+kernel
 · have hr':mq s=false:=by simpa using hr
   have hm:s ∉ rP:=of_decide_eq_false hr'
   rw [hr']
   simp only [rP,List.mem_cons,List.not_mem_nil,or_false,not_or] at hm
   simp only [hm,if_false]
def iD (s:List UInt8):Bool:=decide (s≠ []∧s.length≤24)&& !mq s&&lt (s.getD 0 0)&&s.all nm
theorem Kw {b:UInt8} (h:lt b=true∨dg b=true): ¬ (b=32∨b=9∨b=10∨b=13)∧b≠35:=by
 refine ⟨?_, ?_⟩
 · rintro (rfl | rfl | rfl | rfl) <;> rcases h with h | h <;> exact absurd h (by decide)
 · rintro rfl; rcases h with h | h <;> exact absurd h (by decide)
end Go.Sy.Ex
namespace Go.Sy.Ex
open Go.Sy
abbrev Tk:=Int×List UInt8×Int
def strip (t:an):Tk:=(t.Kind,t.Text,t.N)
def ja (b:UInt8):Bool:=decide (b=32∨b=9∨b=10∨b=13)
def dK (u:List UInt8):List UInt8:=u.dropWhile ja
def i_:List UInt8→Option (Tk×Nat)
 | []=>none
 | b::u=>if dg b then
  (let r:=jV ((b::u).takeWhile dg)
   if r.2≠0 then none else some ((2,(b::u).takeWhile dg,r.1),((b::u).takeWhile dg).length))
  else if lt b then (if 24<((b::u).takeWhile nm).length then none else some ((1,(b::u).takeWhile nm,0),((b::u).takeWhile nm).length))
  else if dw (b::u)=0 then none
  else some ((3,(b::u).take (dw (b::u)),0),dw (b::u))
theorem nC (b : UInt8) (u : List UInt8) : i_ (b :: u) = if dg b then
      (let r:=jV ((b::u).takeWhile dg)
       if r.2≠0 then none else some ((2,(b::u).takeWhile dg,r.1),((b::u).takeWhile dg).length))
 else if lt b then (if 24<((b::u).takeWhile nm).length then none else some ((1,(b::u).takeWhile nm,0),((b::u).takeWhile nm).length))
 else if dw (b::u)=0 then none
 else some ((3,(b::u).take (dw (b::u)),0),dw (b::u)):=rfl
inductive dZ:Nat→List UInt8→List an→Prop
 | nil {n:Nat} {u:List UInt8} :dK u= []→dZ n u []
 | cons {n:Nat} {u v:List UInt8} {tk:Tk} {m:Nat} {L:List an} :dK u=v→v≠ []→i_ v=some (tk,m)→
  dZ (n+(u.length - v.length)+m) (v.drop m) L→dZ n u (⟨tk.1,(n+(u.length - v.length):Nat),(n+(u.length - v.length)+m:Nat),tk.2.1,tk.2.2⟩::L)
theorem Iq (t:List UInt8) (n:Nat) (h:n<t.length):i_ (t.drop n)=if (dO t n).2≠0 then none else some (strip (dO t n).1,((dO t n).1.End - n).toNat):=by
 have hd:t.drop n=t[n]::t.drop (n+1):=List.drop_eq_getElem_cons h
 unfold dO
 rw [iy _ h]
 conv=>lhs; rw [hd]
 rw [nC, ← hd]
 by_cases hD:dg t[n]=true
 · rw [if_pos hD,if_pos hD]
   simp only []
   by_cases hz:(jV ((t.drop n).takeWhile dg)).2≠0
   · simp only [hz,ne_eq,not_false_eq_true,if_true]
   · simp only [hz,if_false,strip,ne_eq,not_true_eq_false]
     congr 2
     unfold cX
     omega
 · rw [if_neg hD,if_neg hD]
   by_cases hL:lt t[n]=true
   · rw [if_pos hL,if_pos hL]
     unfold cX
     by_cases pQ:24<((t.drop n).takeWhile nm).length
     · have :n+24<n+((t.drop n).takeWhile nm).length:=by omega
       simp only [pQ,this,if_true,ne_eq]
       rw [if_pos (by decide)]
     · have : ¬ n+24<n+((t.drop n).takeWhile nm).length:=by omega
       simp only [pQ,this,if_false,ne_eq,not_true_eq_false,strip]
       congr 2
       omega
   · rw [if_neg hL,if_neg hL]
     by_cases hs:dw (t.drop n)=0
     · simp only [hs,if_true,ne_eq]
       rw [if_pos (by decide)]
     · simp only [hs,if_false,ne_eq,not_true_eq_false,strip]
       congr 2
       omega
theorem Ip {v:List UInt8} {tk:Tk} {m:Nat} (h:i_ v=some (tk,m)):1≤m∧m≤v.length:=by
 cases v with
 | nil=>cases h
 | cons b u=>
  rw [nC] at h
  by_cases hD:dg b=true
  · rw [if_pos hD] at h
    simp only [] at h
    split at h
    · cases h
    · cases h
      have :=rJ dg (b::u)
      rw [List.takeWhile_cons_of_pos hD] at this ⊢
      exact ⟨by simp,this⟩
  · rw [if_neg hD] at h
    by_cases hL:lt b=true
    · rw [if_pos hL] at h
      split at h
      · cases h
      · cases h
        have :=rJ nm (b::u)
        rw [List.takeWhile_cons_of_pos (by simp [nm,hL])] at this ⊢
        exact ⟨by simp,this⟩
    · rw [if_neg hL] at h
      split at h
      · cases h
      · rename_i hs
        cases h
        exact ⟨by omega,rD _⟩
theorem u_ (u:List UInt8): ∃ p,u=p++dK u∧p.all ja=true:=by
 induction u with
 | nil=>exact ⟨[],rfl,rfl⟩
 | cons b u ih=>
  unfold dK
  by_cases hb:ja b=true
  · rw [List.dropWhile_cons_of_pos hb]
    obtain ⟨p,h1,h2⟩:=ih
    exact ⟨b::p,by rw [List.cons_append]; congr 1,by simp [hb,h2]⟩
  · rw [List.dropWhile_cons_of_neg hb]
    exact ⟨[],rfl,rfl⟩
theorem zE: ∀ (p u:List UInt8) (n:Nat),p.all ja=true→cl false (p++u) n=cl false u (n+p.length)
 | [],u,n,_=>rfl
 | b::p,u,n,h=>by
  simp only [List.all_cons,Bool.and_eq_true] at h
  have hb:b=32∨b=9∨b=10∨b=13:=of_decide_eq_true h.1
  rw [List.cons_append]
  simp only [cl]
  rw [if_pos hb,zE p u (n+1) h.2,List.length_cons,Nat.add_assoc,Nat.add_comm 1]
theorem MP {b:UInt8} {u:List UInt8} {n:Nat} (h1:ja b=false) (h2:b≠35):cl false (b::u) n=n:=by
 have hb: ¬ (b=32∨b=9∨b=10∨b=13):=of_decide_eq_false h1
 simp only [cl]
 rw [if_neg hb,if_neg h2]
theorem Ir {u:List UInt8} :i_ (35::u)=none:=by
 rw [nC,if_neg (by decide),if_neg (by decide),if_pos]
 cases u with
 | nil=>rfl
 | cons c u=>
  show (if [35,c] ∈ gu then 2 else if (35:UInt8) ∈ gU then 1 else 0)=0
  rw [if_neg,if_neg (by decide)]
  simp only [gu,List.mem_cons,List.cons.injEq,and_true,List.not_mem_nil,or_false]
  rintro (⟨h,_⟩ | ⟨h,_⟩ | ⟨h,_⟩ | ⟨h,_⟩ | ⟨h,_⟩ | ⟨h,_⟩ | ⟨h,_⟩) <;> revert h <;> decide
theorem MN {u:List UInt8} {b:UInt8} {v:List UInt8} (h:dK u=b::v):ja b=false:=by
 induction u with
 | nil=>cases h
 | cons c u ih=>
  unfold dK at h
  by_cases hc:ja c=true
  · rw [List.dropWhile_cons_of_pos hc] at h; exact ih h
  · rw [List.dropWhile_cons_of_neg hc] at h
    cases h
    simpa using hc
theorem KX {t:List UInt8} {n:Nat} {u:List UInt8} {L:List an} (h:dZ n u L):t.drop n=u→n≤t.length→ ∀ k l,t.length≤n+k→
 jE (k+1) t l (cl false (t.drop n) n)=(l++L++ [an.mk 4 t.length t.length [] 0],aS.mk 0 0):=by
 induction h with
 | @nil n u hs=>
  intro hu hn k l hk
  obtain ⟨p,h1,h2⟩:=u_ u
  rw [hs,List.append_nil] at h1
  subst h1
  have hl:u.length=t.length - n:=by rw [← hu,List.length_drop]
  have :cl false (t.drop n) n=t.length:=by
   rw [hu]
   have :=zE u [] n h2
   rw [List.append_nil] at this
   rw [this]
   show n+u.length=_
   omega
  rw [this]
  simp only [jE]
  rw [if_neg (by omega),List.append_nil]
 | @cons n u v tk m L hs hv hh hp ih=>
  intro hu hn k l hk
  obtain ⟨p,h1,h2⟩:=u_ u
  rw [hs] at h1
  have hl:u.length=t.length - n:=by rw [← hu,List.length_drop]
  have IN:u.length=p.length+v.length:=by rw [h1,List.length_append]
  obtain ⟨b,v',rfl⟩: ∃ b v',v=b::v':=by
   cases v with
   | nil=>exact absurd rfl hv
   | cons b v'=>exact ⟨b,v',rfl⟩
  have hb:=MN hs
  have hne:b≠35:=fun e=>by subst e; rw [Ir] at hh; cases hh
  have hq:u.length - (b::v').length=p.length:=by omega
  simp only [hq] at ih ⊢
  have hpos:cl false (t.drop n) n=n+p.length:=by
   rw [hu,h1,zE p _ n h2,MP hb hne]
  have hlt:n+p.length<t.length:=by simp only [List.length_cons] at IN; omega
  have Cf:t.drop (n+p.length)=b::v':=by
   rw [← List.drop_drop,hu,h1]
   simp
  have nI:=Iq t (n+p.length) hlt
  rw [Cf,hh] at nI
  have hz:(dO t (n+p.length)).2=0:=by
   by_cases hz:(dO t (n+p.length)).2=0
   · exact hz
   · rw [if_pos hz] at nI; cases nI
  rw [if_neg (by simp [hz])] at nI
  obtain ⟨e,he,h3,h4,cC,qf,_⟩:=EE t (n+p.length) hlt hz
  simp only [Option.some.injEq,Prod.mk.injEq] at nI
  obtain ⟨htk,hm⟩:=nI
  rw [he] at hm
  have hme:e=n+p.length+m:=by omega
  have Jd:(dO t (n+p.length)).1=⟨tk.1,(n+p.length:Nat),(n+p.length+m:Nat),tk.2.1,tk.2.2⟩:=by
   rw [htk]
   unfold strip
   generalize dO t (n+p.length)=x at *
   obtain ⟨⟨a1,a2,a3,a4,a5⟩,a6⟩:=x
   dsimp only at *
   rw [cC,he,hme]
  obtain ⟨k,rfl⟩: ∃ j,k=j+1:=⟨k - 1,by omega⟩
  rw [hpos]
  conv=>lhs; unfold jE
  rw [if_pos hlt,if_neg (by simp [hz]),Jd]
  dsimp only
  rw [Int.toNat_natCast]
  have :=ih (by rw [← Cf,List.drop_drop]) (by omega) k (l++ [⟨tk.1,(n+p.length:Nat),(n+p.length+m:Nat),tk.2.1,tk.2.2⟩]) (by omega)
  rw [this]
  simp [List.append_assoc]
theorem Dj {t:List UInt8} {L:List an} (h:dZ 0 t L) (hl:t.length≤16384):iU t=(L++ [an.mk 4 t.length t.length [] 0],aS.mk 0 0):=by
 unfold iU
 rw [if_neg (by omega)]
 have :=KX (t:=t) h rfl (Nat.zero_le _) t.length [] (by omega)
 rw [List.drop_zero,List.nil_append] at this
 exact this
def gV (a b:List UInt8):Bool:=match a.getLast?,b.head? with
 | some x,some y=> !(nm x&&nm y)&& !decide ([x,y] ∈ gu)
 | _,_=>true
theorem EC {p:UInt8→Bool} : ∀ (v b:List UInt8),(v.takeWhile p).length<v.length∨(∀ y,b.head?=some y→p y=false)→(v++b).takeWhile p=v.takeWhile p
 | [],b,h=>by
  rcases h with h | h
  · simp at h
  · cases b with
    | nil=>rfl
    | cons y b=>rw [List.nil_append,List.takeWhile_cons_of_neg (by simp [h y rfl])]; rfl
 | x::v,b,h=>by
  rw [List.cons_append]
  by_cases hx:p x=true
  · rw [List.takeWhile_cons_of_pos hx,List.takeWhile_cons_of_pos hx] at *
    rw [EC v b (h.imp (fun h=>by simpa using h) id)]
  · rw [List.takeWhile_cons_of_neg hx,List.takeWhile_cons_of_neg hx]
theorem NB {p:UInt8→Bool} {v:List UInt8} (h: ¬ (v.takeWhile p).length<v.length): ∀ x,v.getLast?=some x→p x=true:=by
 have :v.takeWhile p=v:=by
  have hle:=rJ p v
  have hpre:v.takeWhile p <+: v:=List.takeWhile_prefix p
  exact hpre.eq_of_length (by omega)
 intro x hx
 have hm:x ∈ v:=List.mem_of_getLast? hx
 rw [← this] at hm
 exact EN p v x hm
theorem Io {v b:List UInt8} {tk:Tk} {m:Nat} (h:i_ v=some (tk,m)) (hs:m<v.length∨gV v b=true):i_ (v++b)=some (tk,m):=by
 cases v with
 | nil=>cases h
 | cons c u=>
  have hno: ∀ (p:UInt8→Bool),(∀ x,p x=true→nm x=true)→p c=true→(m=((c::u).takeWhile p).length)→((c::u)++b).takeWhile p=(c::u).takeWhile p:=by
   intro p hp hc hm
   refine EC _ _ ?_
   by_cases hlt:((c::u).takeWhile p).length<(c::u).length
   · exact .inl hlt
   · refine .inr fun y hy=> ?_
     rcases hs with hs | hs
     · omega
     · obtain ⟨x,hx⟩: ∃ x,(c::u).getLast?=some x:=⟨_,List.getLast?_eq_some_getLast (by simp)⟩
       have hpx:=hp x (NB hlt x hx)
       unfold gV at hs
       rw [hx,hy] at hs
       dsimp only at hs
       rw [Bool.and_eq_true,hpx] at hs
       cases hq:p y with
       | false=>rfl
       | true=>rw [hp y hq] at hs; cases hs.1
  rw [List.cons_append]
  rw [nC] at h ⊢
  by_cases hD:dg c=true
  · rw [if_pos hD] at h ⊢
    simp only [] at h ⊢
    have hm:m=((c::u).takeWhile dg).length:=by
     split at h
     · cases h
     · cases h; rfl
    have :=hno dg (fun x hx=>by simp [nm,hx]) hD hm
    rw [List.cons_append] at this
    rw [this]
    exact h
  · rw [if_neg hD] at h ⊢
    by_cases hL:lt c=true
    · rw [if_pos hL] at h ⊢
      have hm:m=((c::u).takeWhile nm).length:=by
       split at h
       · cases h
       · cases h; rfl
      have :=hno nm (fun x hx=>hx) (by simp [nm,hL]) hm
      rw [List.cons_append] at this
      rw [this]
      exact h
    · rw [if_neg hL] at h ⊢
      have hm:m=dw (c::u)∧dw (c::u)≠0:=by
       split at h
       · cases h
       · rename_i hz; cases h; exact ⟨rfl,hz⟩
      have hsame:dw (c::(u++b))=dw (c::u):=by
       cases u with
       | cons d u=>rfl
       | nil=>
        cases b with
        | nil=>rfl
        | cons y b=>
         show (if [c,y] ∈ gu then 2 else if c ∈ gU then 1 else 0)=if c ∈ gU then 1 else 0
         rw [if_neg]
         rcases hs with hs | hs
         · have :dw [c]≤1:=rD [c]
           have h1:m=dw [c]:=hm.1
           have h2:dw [c]≠0:=hm.2
           simp only [List.length_cons,List.length_nil] at hs
           omega
         · unfold gV at hs
           simp only [List.getLast?_singleton,List.head?_cons,Bool.and_eq_true,Bool.not_eq_true',decide_eq_false_iff_not] at hs
           exact hs.2
      have Jb:(c::(u++b)).take (dw (c::u))=(c::u).take (dw (c::u)):=by
       rw [← List.cons_append,List.take_append_of_le_length (rD _)]
      rw [hsame,Jb]
      exact h
theorem D5 {p v b:List UInt8} (hv:v≠ []):gV (p++v) b=gV v b:=by
 unfold gV
 rw [List.getLast?_append]
 obtain ⟨x,hx⟩: ∃ x,v.getLast?=some x:=⟨_,List.getLast?_eq_some_getLast hv⟩
 rw [hx]; rfl
theorem MM {u b:List UInt8} (h:dK u≠ []):dK (u++b)=dK u++b:=by
 unfold dK at *
 induction u with
 | nil=>exact absurd rfl h
 | cons c u ih=>
  rw [List.cons_append]
  by_cases hc:ja c=true
  · rw [List.dropWhile_cons_of_pos hc] at h ⊢
    rw [List.dropWhile_cons_of_pos hc]
    exact ih h
  · rw [List.dropWhile_cons_of_neg hc,List.dropWhile_cons_of_neg hc]; rfl
theorem D_ {u b:List UInt8} (h:dK u= []):dK (u++b)=dK b:=by
 unfold dK at *
 induction u with
 | nil=>rfl
 | cons c u ih=>
  rw [List.cons_append]
  by_cases hc:ja c=true
  · rw [List.dropWhile_cons_of_pos hc] at h ⊢
    exact ih h
  · rw [List.dropWhile_cons_of_neg hc] at h; cases h
theorem dZ.shift {n n':Nat} {a p:List UInt8} {L:List an} (hp:dK p= []) (h:dZ (n+p.length) a L):dZ n (p++a) L:=by
 generalize hn:n+p.length=q at h
 cases h with
 | nil hs=>exact .nil (by rw [D_ hp]; exact hs)
 | @cons _ _ v tk m L hs hv hh hl=>
  obtain ⟨p',h1,_⟩:=u_ a
  rw [hs] at h1
  have hlen:a.length=p'.length+v.length:=by rw [h1,List.length_append]
  have e:n+((p++a).length - v.length)=q+(a.length - v.length):=by rw [List.length_append]; omega
  have :=dZ.cons (n:=n) (u:=p++a) (by rw [D_ hp]; exact hs) hv hh (by rw [e]; exact hl)
  rw [e] at this
  exact this
theorem dZ.append {n:Nat} {a:List UInt8} {La:List an} (ha:dZ n a La): ∀ {b:List UInt8} {Lb:List an},dZ (n+a.length) b Lb→gV a b=true→dZ n (a++b) (La++Lb):=by
 induction ha with
 | @nil n u hs=>intro b Lb hb _; exact dZ.shift (n':=0) hs hb
 | @cons n u v tk m L hs hv hh hp ih=>
  intro b Lb hb hsep
  obtain ⟨p,h1,_⟩:=u_ u
  rw [hs] at h1
  have hml:=Ip hh
  have hlen:u.length=p.length+v.length:=by rw [h1,List.length_append]
  have xP:gV v b=true:=by rw [h1,D5 hv] at hsep; exact hsep
  have IB:=Io hh (b:=b) (.inr xP)
  have Co:(u++b).length - (v++b).length=u.length - v.length:=by simp only [List.length_append]; omega
  have I8:dZ (n+(u.length - v.length)+m) (v.drop m++b) (L++Lb):=by
   refine ih ?_ ?_
   · rw [List.length_drop,show n+(u.length - v.length)+m+(v.length - m)=n+u.length from by omega]
     exact hb
   · by_cases hd:v.drop m= []
     · rw [hd]; rfl
     · have :v=v.take m++v.drop m:=(List.take_append_drop m v).symm
       rw [this,D5 hd] at xP
       exact xP
  have :=dZ.cons (n:=n) (u:=u++b) (v:=v++b) (by rw [← hs]; exact MM (by rw [hs]; exact hv)) (by simp [hv]) IB (L:=L++Lb) (by
   rw [Co,List.drop_append_of_le_length hml.2]
   exact I8)
  rw [Co] at this
  exact this
def Lx (s:List UInt8) (K:List Tk):Prop:= ∀ n, ∃ L,dZ n s L∧L.map strip=K
theorem Lx.append {a b:List UInt8} {Ka Kb:List Tk} (ha:Lx a Ka) (hb:Lx b Kb) (hs:gV a b=true):Lx (a++b) (Ka++Kb):=fun n=>by
 obtain ⟨La,h1,h2⟩:=ha n
 obtain ⟨Lb,h3,h4⟩:=hb (n+a.length)
 exact ⟨La++Lb,h1.append h3 hs,by rw [List.map_append,h2,h4]⟩
theorem Lx.all {t:List UInt8} {K:List Tk} (h:Lx t K) (hl:t.length≤16384): ∃ l,iU t=(l,aS.mk 0 0)∧l.map strip=K++ [(4,[],0)]:=by
 obtain ⟨L,h1,h2⟩:=h 0
 exact ⟨_,Dj h1 hl,by rw [List.map_append,h2]; rfl⟩
def tG:Nat→List UInt8→Option (List Tk)
 | 0,_=>none
 | k+1,u=>match dK u with
  | []=>some []
  | b::v=>match i_ (b::v) with
   | some (tk,m)=>match tG k ((b::v).drop m) with
    | some K=>some (tk::K)
    | none=>none
   | none=>none
theorem tH: ∀ (k:Nat) {u:List UInt8} {K:List Tk},tG k u=some K→Lx u K
 | 0,_,_,h=>by cases h
 | k+1,u,K,h=>fun n=>by
  simp only [tG] at h
  cases hs:dK u with
  | nil=>rw [hs] at h; cases h; exact ⟨[], .nil hs,rfl⟩
  | cons b v=>
   rw [hs] at h
   dsimp only at h
   cases hh:i_ (b::v) with
   | none=>rw [hh] at h; cases h
   | some p=>
    obtain ⟨tk,m⟩:=p
    rw [hh] at h
    dsimp only at h
    cases hr:tG k ((b::v).drop m) with
    | none=>rw [hr] at h; cases h
    | some K'=>
     rw [hr] at h
     cases h
     obtain ⟨L,h1,h2⟩:=tH k hr (n+(u.length - (b::v).length)+m)
     exact ⟨_, .cons hs (by simp) hh h1,by rw [List.map_cons,h2]; rfl⟩
end Go.Sy.Ex
namespace Go.Sy.Ex
open Go.Sy
theorem pn (d:Nat) (h:d<10):(UInt8.ofNat (48+d)).toNat=48+d:=by
 have : ∀ d,d<10→(UInt8.ofNat (48+d)).toNat=48+d:=by decide+kernel
 exact this d h
theorem lQ {u:Nat} (h:u<10):Lib.decDigits u= [UInt8.ofNat (48+u)]:=by rw [Lib.decDigits,dif_pos h]
theorem sI {u:Nat} (h: ¬ u<10):Lib.decDigits u=Lib.decDigits (u / 10)++ [UInt8.ofNat (48+u % 10)]:=by rw [Lib.decDigits,dif_neg h]
theorem Bg: ∀ (n u:Nat),u≤n→ ∀ c ∈ Lib.decDigits u,48≤c.toNat∧c.toNat≤57:=by
 intro n
 induction n with
 | zero=>
  intro u h c hc
  have :u=0:=by omega
  subst this
  rw [lQ (by decide),List.mem_singleton] at hc
  subst hc; decide
 | succ n ih=>
  intro u h c hc
  by_cases hs:u<10
  · rw [lQ hs,List.mem_singleton] at hc
    subst hc; rw [pn u hs]; omega
  · rw [sI hs,List.mem_append,List.mem_singleton] at hc
    rcases hc with hc | rfl
    · exact ih (u / 10) (by omega) c hc
    · rw [pn _ (by omega)]; omega
theorem sJ: ∀ u,Lib.decDigits u≠ []:=fun u=>by
 by_cases hs:u<10
 · rw [lQ hs]; simp
 · rw [sI hs]; simp
theorem KM: ∀ (l:List UInt8) (acc a:Nat) (c:UInt8),Lib.parseUintM (2 ^ 64 - 1) acc l= .ok a→Lib.parseUintM (2 ^ 64 - 1) acc (l++ [c])=Lib.parseUintM (2 ^ 64 - 1) a [c]:=by
 intro l
 induction l with
 | nil=>intro acc a c h; cases h; rfl
 | cons b l ih=>
  intro acc a c h
  rw [List.cons_append]
  unfold Lib.parseUintM at h ⊢
  split at h
  · rename_i hb
    rw [if_pos hb]
    split at h
    · cases h
    · rename_i h1
      rw [if_neg h1]
      split at h
      · cases h
      · rename_i h2
        rw [if_neg h2]
        have :=ih _ _ c h
        rw [this]
        rfl
  · cases h
theorem Dh: ∀ (n u:Nat),u≤n→u≤9223372036854775808→Lib.parseUintM (2 ^ 64 - 1) 0 (Lib.decDigits u)= .ok u:=by
 intro n
 induction n with
 | zero=>
  intro u h hu
  have :u=0:=by omega
  subst this
  rw [lQ (by decide)]
  rfl
 | succ n ih=>
  intro u h hu
  by_cases hs:u<10
  · rw [lQ hs]
    unfold Lib.parseUintM
    rw [pn u hs,if_pos (by omega),if_neg (by omega),if_neg (by omega)]
    unfold Lib.parseUintM
    congr 1; omega
  · rw [sI hs,KM _ _ _ _ (ih (u / 10) (by omega) (by omega))]
    unfold Lib.parseUintM
    rw [pn _ (by omega),if_pos (by omega),if_neg (by omega),if_neg (by omega)]
    unfold Lib.parseUintM
    congr 1; omega
theorem KN (v:Int) (h0: -9223372036854775808≤v) (h1:v≤9223372036854775807):Lib.parseIntB 64 (Lib.itoa v)= .ok v:=by
 unfold Lib.itoa
 by_cases hv:v<0
 · rw [if_pos hv]
   have hu:v.natAbs≤9223372036854775808:=by omega
   unfold Lib.parseIntB Lib.parseUintB
   simp only []
   have hif:(if (45:UInt8).toNat=43∨(45:UInt8).toNat=45 then Lib.decDigits v.natAbs else 45::Lib.decDigits v.natAbs)=Lib.decDigits v.natAbs:=if_pos (.inr rfl)
   rw [hif,if_neg (sJ _),Dh _ _ (Nat.le_refl _) hu]
   have h45:(45:UInt8).toNat=45:=rfl
   simp only [h45,not_true_eq_false,false_and,if_false,true_and,if_true]
   rw [if_neg (by omega)]
   congr 1; omega
 · rw [if_neg hv]
   have hu:v.toNat≤9223372036854775807:=by omega
   have hne:=sJ v.toNat
   obtain ⟨c,r,s7⟩: ∃ c r,Lib.decDigits v.toNat=c::r:=by
    cases hd:Lib.decDigits v.toNat with
    | nil=>exact absurd hd hne
    | cons c r=>exact ⟨c,r,rfl⟩
   have hc:=Bg _ _ (Nat.le_refl v.toNat) c (by rw [s7]; simp)
   have hp:=Dh _ _ (Nat.le_refl v.toNat) (by omega)
   rw [s7] at hp ⊢
   unfold Lib.parseIntB Lib.parseUintB
   simp only []
   rw [if_neg (show ¬ (c.toNat=43∨c.toNat=45) by omega),if_neg (by simp),hp]
   simp only [show ¬ c.toNat=45 by omega,not_false_eq_true,true_and,false_and,if_false]
   rw [if_neg (by omega)]
   congr 1; omega
theorem Bh: ∀ (n u:Nat),u≤n→1≤u→(Lib.decDigits u).getD 0 0≠48
 | 0,u,h,h1=>by omega
 | n+1,u,h,h1=>by
  by_cases h10:u<10
  · rw [lQ h10]
    show UInt8.ofNat (48+u)≠48
    intro e
    have :=pn u h10
    rw [e] at this
    have h48:(48:UInt8).toNat=48:=rfl
    omega
  · rw [sI h10]
    have :=Bh n (u / 10) (by omega) (by omega)
    have hne:=sJ (u / 10)
    cases hd:Lib.decDigits (u / 10) with
    | nil=>exact absurd hd hne
    | cons c l=>rw [hd] at this; exact this
theorem yd {n:Int} (h:0≤n):Lib.itoa n=Lib.decDigits n.toNat:=by unfold Lib.itoa; rw [if_neg (by omega)]
theorem tw {n:Int} (h:0≤n): ∀ c ∈ Lib.itoa n,dg c=true:=fun c hc=>by
 rw [yd h] at hc
 exact (sL c).2 (Bg n.toNat n.toNat (Nat.le_refl _) c hc)
theorem yc {n:Int} (h:0≤n):Lib.itoa n≠ []:=by rw [yd h]; exact sJ _
theorem Jx {n:Int} (h:0≤n) (h1:n≤9223372036854775807):jV (Lib.itoa n)=(n,0):=by
 rw [← C_ _ (yc h) (tw h)]
 unfold numOf
 rw [if_neg,KN n (by omega) h1]
 rintro ⟨h2,h3⟩
 rw [yd h] at h2 h3
 by_cases h0:n.toNat<10
 · rw [lQ h0] at h2; simp at h2
 · exact Bh n.toNat n.toNat (Nat.le_refl _) (by omega) h3
theorem EO (p:UInt8→Bool) (l:List UInt8) (h: ∀ c ∈ l,p c=true):l.takeWhile p=l:=by
 induction l with
 | nil=>rfl
 | cons a l ih=>rw [List.takeWhile_cons_of_pos (h a (by simp)),ih fun c hc=>h c (by simp [hc])]
theorem Kq {b:UInt8} (h:nm b=true):ja b=false:=by
 have :=(Kw (b:=b) (by simpa [nm] using h)).1
 exact decide_eq_false this
theorem Ea {s:List UInt8} (h: ∀ c ∈ s,nm c=true):dK s=s:=by
 cases s with
 | nil=>rfl
 | cons a l=>unfold dK; rw [List.dropWhile_cons_of_neg (by simp [Kq (h a (by simp))])]
theorem Lx.one {s:List UInt8} {tk:Tk} (h0:s≠ []) (hs:dK s=s) (hh:i_ s=some (tk,s.length)):Lx s [tk]:=fun n=>by
 have :=dZ.cons (n:=n) (L:= []) hs h0 hh (by rw [List.drop_length]; exact .nil rfl)
 exact ⟨_,this,rfl⟩
theorem Lx.num {n:Int} (h:0≤n) (h1:n≤9223372036854775807):Lx (Lib.itoa n) [(2,Lib.itoa n,n)]:=by
 refine Lx.one (yc h) (Ea fun c hc=>by simp [nm,tw h c hc]) ?_
 have qe:=EO dg _ (tw h)
 have hn:=Jx h h1
 cases hi:Lib.itoa n with
 | nil=>exact absurd hi (yc h)
 | cons a l=>
  rw [hi] at qe hn
  rw [nC,if_pos (tw h a (by rw [hi]; simp)),qe,hn]
  rfl
theorem Ko {s:List UInt8} (h:iD s=true):s≠ []∧s.length≤24∧mq s=false∧lt (s.getD 0 0)=true∧ ∀ c ∈ s,nm c=true:=by
 unfold iD at h
 simp only [Bool.and_eq_true,decide_eq_true_eq,Bool.not_eq_true',List.all_eq_true] at h
 obtain ⟨⟨⟨⟨h1,h2⟩,h3⟩,h4⟩,h5⟩:=h
 exact ⟨h1,h2,h3,h4,h5⟩
theorem Lx.word {s:List UInt8} (h0:s≠ []) (h1:s.length≤24) (h2:lt (s.getD 0 0)=true) (h3: ∀ c ∈ s,nm c=true):Lx s [(1,s,0)]:=by
 refine Lx.one h0 (Ea h3) ?_
 have qe:=EO nm _ h3
 cases hs:s with
 | nil=>exact absurd hs h0
 | cons a l=>
  rw [hs] at qe h2 h1
  have h2:lt a=true:=h2
  rw [nC,if_neg (by rw [GW _ h2]; simp),if_pos h2,qe,if_neg (by omega)]
theorem Lx.name {s:List UInt8} (h:iD s=true):Lx s [(1,s,0)]:=by
 obtain ⟨h1,h2,_,h4,h5⟩:=Ko h
 exact Lx.word h1 h2 h4 h5
end Go.Sy.Ex
namespace Go.Sy.Ex
open Go.Sy
inductive T where
 | num (n:Int) | var (s:List UInt8) | arg | tv (s:List UInt8) | un (k:Int) (t:T) | bin (k:Int) (a b:T)
def T.kind:T→Int
 | .num _=>1 | .var _=>2 | .arg=>3 | .tv _=>4 | .un k _=>k | .bin k _ _=>k
def lvl (k:Int):Int:=if k=19 then 1 else if k=18 then 2 else if 12≤k∧k≤17 then 3 else if k=10∨k=11 then 4 else if 7≤k∧k≤9 then 5 else if k=5∨k=6 then 6 else 7
def yq (k:Int):Int:=if lvl k=3 then 4 else lvl k
def zn (k:Int):Int:=if lvl k=3 then 4 else lvl k+1
abbrev zD:List (List UInt8×Int×Int):= [(uy,19,1),(uv,18,2),(uN,12,3),(uO,13,3),(uJ,14,3),(uK,15,3),(uF,16,3),(ux,17,3),(mD,10,4),(mC,11,4),(uZ,7,5),(uX,8,5),(uR,9,5)]
def NC (k:Int):List UInt8:=match zD.find? (fun p=>p.2.1 == k) with
 | some p=>p.1
 | none=> []
def zC (s:List UInt8):Int×Int:=match zD.find? (fun p=>p.1 == s) with
 | some p=>p.2
 | none=>(0,0)
theorem sign_eq (s:List UInt8):pJ s=some (zC s):=by
 unfold pJ zC zD
 by_cases xh:s=uy
 · subst xh; decide+kernel
 rw [if_neg xh,List.find?_cons,show (uy == s)=false from beq_false_of_ne (Ne.symm xh)]
 dsimp only
 by_cases xe:s=uv
 · subst xe; decide+kernel
 rw [if_neg xe,List.find?_cons,show (uv == s)=false from beq_false_of_ne (Ne.symm xe)]
 dsimp only
 by_cases xm:s=uN
 · subst xm; decide+kernel
 rw [if_neg xm,List.find?_cons,show (uN == s)=false from beq_false_of_ne (Ne.symm xm)]
 dsimp only
 by_cases xo:s=uO
 · subst xo; decide+kernel
 rw [if_neg xo,List.find?_cons,show (uO == s)=false from beq_false_of_ne (Ne.symm xo)]
 dsimp only
 by_cases xk:s=uJ
 · subst xk; decide+kernel
 rw [if_neg xk,List.find?_cons,show (uJ == s)=false from beq_false_of_ne (Ne.symm xk)]
 dsimp only
 by_cases xl:s=uK
 · subst xl; decide+kernel
 rw [if_neg xl,List.find?_cons,show (uK == s)=false from beq_false_of_ne (Ne.symm xl)]
 dsimp only
 by_cases xj:s=uF
 · subst xj; decide+kernel
 rw [if_neg xj,List.find?_cons,show (uF == s)=false from beq_false_of_ne (Ne.symm xj)]
 dsimp only
 by_cases xg:s=ux
 · subst xg; decide+kernel
 rw [if_neg xg,List.find?_cons,show (ux == s)=false from beq_false_of_ne (Ne.symm xg)]
 dsimp only
 by_cases xu:s=mD
 · subst xu; decide+kernel
 rw [if_neg xu,List.find?_cons,show (mD == s)=false from beq_false_of_ne (Ne.symm xu)]
 dsimp only
 by_cases xp:s=mC
 · subst xp; decide+kernel
 rw [if_neg xp,List.find?_cons,show (mC == s)=false from beq_false_of_ne (Ne.symm xp)]
 dsimp only
 by_cases xy:s=uZ
 · subst xy; decide+kernel
 rw [if_neg xy,List.find?_cons,show (uZ == s)=false from beq_false_of_ne (Ne.symm xy)]
 dsimp only
 by_cases xw:s=uX
 · subst xw; decide+kernel
 rw [if_neg xw,List.find?_cons,show (uX == s)=false from beq_false_of_ne (Ne.symm xw)]
 dsimp only
 by_cases xq:s=uR
 · subst xq; decide+kernel
 rw [if_neg xq,List.find?_cons,show (uR == s)=false from beq_false_of_ne (Ne.symm xq)]
 dsimp only
 rfl
def Is:T→aR→Prop
 | .num n,e=>e.Kind=1∧e.N=n∧e.Name= []∧e.Kids= []
 | .var s,e=>e.Kind=2∧e.N=0∧e.Name=s∧e.Kids= []
 | .arg,e=>e.Kind=3∧e.N=0∧e.Name= []∧e.Kids= []
 | .tv s,e=>e.Kind=4∧e.N=0∧e.Name=s∧e.Kids= []
 | .un k t,e=>e.Kind=k∧e.N=0∧e.Name= []∧ ∃ x,e.Kids= [x]∧Is t x
 | .bin k a b,e=>e.Kind=k∧e.N=0∧e.Name= []∧ ∃ x y,e.Kids= [x,y]∧Is a x∧Is b y
theorem eta (e:aR):aR.mk e.Kind e.N e.Name e.Kids e.At=e:=by cases e; rfl
theorem Is.kind {t:T} {e:aR} (h:Is t e):e.Kind=t.kind:=by cases t <;> exact h.1
def T.ok:T→Prop
 | .num n=>0≤n∧n≤9223372036854775807
 | .var s=>iD s=true
 | .arg=>True
 | .tv s=>iD s=true
 | .un k t=>(k=5∨k=6)∧t.ok
 | .bin k a b=>(7≤k∧k≤19)∧a.ok∧b.ok
def T.sz:T→Nat
 | .un _ t=>t.sz+1
 | .bin _ a b=>a.sz+b.sz+1
 | _=>1
end Go.Sy.Ex
namespace Go.Sy.Ex
open Go.Sy
end Go.Sy.Ex
namespace Go.Sy.Ex
open Go.Sy
def st (l:List an) (i o:Nat):aP:=⟨⟨l,(i:Int),⟨0,0⟩⟩,(o:Int)⟩
def az (l:List an) (i:Nat):an:=l.getD i an.z
def bU (t:an) (s:List UInt8):Bool:=decide ((t.Kind=3∨t.Kind=1)∧t.Text=s)
section
variable {l:List an} {i o:Nat}
theorem KB:kX (st l i o)=some (true,st l i o):=rfl
theorem J7 (hi:i<l.length):fI (st l i o)=some (az l i,st l i o):=by
 unfold fI
 rw [KB,aq]
 have h1: ¬ ((i:Nat):Int)<0:=by omega
 have h2: ¬ (l.length:Int)≤((i:Nat):Int):=by omega
 have h3:0≤((i:Nat):Int):=by omega
 have h4:((i:Nat):Int)<(l.length:Int):=by omega
 simp only [Bool.not_true,cond_false,st,Int.toNat_natCast,h1,h2,h3,h4,if_true,if_false]; rfl
theorem yA (hi:i<l.length) (hl:l.length≤100000):aJ (((i:Nat):Int)+1)=((i+1:Nat):Int):=by rw [gD (by omega) (by omega)]; omega
end
def Seq (l:List an) (i:Nat):List Tk→Prop
 | []=>True
 | k::K=>i<l.length∧strip (az l i)=k∧Seq l (i+1) K
theorem Seq.append {l:List an} : ∀ {i:Nat} {K K':List Tk},Seq l i (K++K')↔Seq l i K∧Seq l (i+K.length) K'
 | i,[],K'=>by simp [Seq]
 | i,k::K,K'=>by
  rw [List.cons_append]
  simp only [Seq,List.length_cons]
  rw [Seq.append,show i+1+K.length=i+(K.length+1) from by omega]
  constructor
  · rintro ⟨a,b,c,d⟩; exact ⟨⟨a,b,c⟩,d⟩
  · rintro ⟨⟨a,b,c⟩,d⟩; exact ⟨a,b,c,d⟩
def nQ (c:Prop) [Decidable c] (K:List Tk):List Tk:=if c then (3,mB,0)::K++ [(3,rB,0)] else K
def toks:T→Int→List Tk
 | .num n,a=>nQ (7<a) [(2,Lib.itoa n,n)]
 | .var s,a=>nQ (7<a) [(1,s,0)]
 | .arg,a=>nQ (7<a) [(3,DY,0)]
 | .tv s,a=>nQ (7<a) [(1,rq,0),(3,mB,0),(1,s,0),(3,rB,0)]
 | .un k t,a=>nQ (6<a) ((3,if k=5 then mC else DX,0)::toks t 6)
 | .bin k x y,a=>nQ (lvl k<a) (toks x (yq k)++(3,NC k,0)::toks y (zn k))
def yK (c:Prop) [Decidable c] (n:Nat):Nat:=if c then n+1 else n
def jg:T→Int→Nat
 | .un k t,a=>yK (6<a) (jg t 6+1)
 | .bin k x y,a=>yK (lvl k<a) (max (jg x (yq k)) (jg y (zn k)))
 | _,a=>yK (7<a) 0
def vc (t:an):Int:=if t.Kind=3 then (zC t.Text).2 else 0
def P (t:T) (K:List Tk) (n:Nat) (m:Int):Prop:= ∀ (l:List an) (i o:Nat),l.length≤100000→Seq l i K→i+K.length<l.length→o+n≤12→vc (az l (i+K.length))<m→
 ∃ e Z,Is t e∧ ∀ k,Z≤k→fB k (st l i o) m=some (e,st l (i+K.length) o)
def Sg (t:T) (K:List Tk) (n:Nat):Prop:= ∀ (l:List an) (i o:Nat),l.length≤100000→Seq l i K→i+K.length<l.length→o+n≤12→
 ∃ e Z Z2,Is t e∧ ∀ k,Z≤k→ ∀ k2,Z2≤k2→pH (fB k) k2 (st l i o)=some (e,st l (i+K.length) o)
noncomputable def loop (k k':Nat) (l:List an) (i o:Nat) (m:Int) (e:aR):Option (aR×aP):=
 pF (fB k) k' l ((i:Nat):Int) 0 0 ((o:Nat):Int) m 0 0 [] [] 0 e.Kind e.N e.Name e.Kids e.At
def Qp (t:T) (K:List Tk) (n:Nat) (m:Int):Prop:= ∀ (l:List an) (i o:Nat),l.length≤100000→Seq l i K→i+K.length<l.length→o+n≤12→vc (az l (i+K.length))≤m→
 ∃ e Z j,Is t e∧j<Z∧ ∀ k,Z≤k→fB (k+1) (st l i o) m=loop k (k - j) l (i+K.length) o m e
theorem KU (k:Nat) (l:List an) (i o:Nat) {m:Int} (hm:1≤m) (O8:m≤5) {e:aR} {i':Nat} (h:fB k (st l i o) (m+1)=some (e,st l i' o)):
 fB (k+1) (st l i o) m=loop k k l i' o m e:=by
 show nk (fB k) k (st l i o) m=_
 unfold nk
 rw [if_neg (by omega),gD (by omega) (by omega),h,aq]
 rfl
theorem J8 (k k':Nat) (l:List an) (i o:Nat) {m:Int} (hm:1≤m) (hi:i<l.length) (hs:vc (az l i)≠m) (e:aR) (hk:1≤k'):loop k k' l i o m e=some (e,st l i o):=by
 obtain ⟨k',rfl⟩: ∃ j,k'=j+1:=⟨k' - 1,by omega⟩
 unfold loop
 simp only [pF]
 rw [show (aP.mk (aX.mk l ((i:Nat):Int) (aS.mk 0 0)) ((o:Nat):Int))=st l i o from rfl,J7 hi,aq,sign_eq,aq,eta]
 dsimp only
 unfold vc at hs
 by_cases h3:(az l i).Kind=3
 · rw [if_pos h3] at hs
   rw [if_neg (by simpa using h3),if_pos hs]
 · rw [if_pos h3]
end Go.Sy.Ex
namespace Go.Sy.Ex
open Go.Sy
theorem KQ (k:Nat) (s:aP):fB (k+1) s 6=(pG (fB k) s).bind fun r1=>some (aR.mk r1.1.Kind r1.1.N r1.1.Name r1.1.Kids r1.1.At,r1.2):=by
 show nk (fB k) k s 6=_
 unfold nk
 rw [if_pos rfl]
theorem P6 {t:T} {K:List Tk} {n:Nat} (h:Sg t K n):P t K n 6:=fun l i o hl hs hi ho _=>by
 obtain ⟨e,Z,Z2,he,hr⟩:=h l i o hl hs hi ho
 refine ⟨e,Z+1,he,fun k hk=> ?_⟩
 obtain ⟨k,rfl⟩: ∃ j,k=j+1:=⟨k - 1,by omega⟩
 rw [KQ,show pG (fB k) (st l i o)=some (e,st l (i+K.length) o) from fY Z2 fun j hj=>hr k (by omega) j hj,aq,eta]
theorem Fo {t:T} {K:List Tk} {n:Nat} {m:Int} (h1:1≤m) (h:Qp t K n m):P t K n m:=fun l i o hl hs hi ho hv=>by
 obtain ⟨e,Z,j,he,hj,hr⟩:=h l i o hl hs hi ho (by omega)
 refine ⟨e,Z+1,he,fun k hk=> ?_⟩
 obtain ⟨k,rfl⟩: ∃ j,k=j+1:=⟨k - 1,by omega⟩
 rw [hr k (by omega)]
 exact J8 k _ l _ o h1 hi (by omega) e (by omega)
theorem Fm {t:T} {K:List Tk} {n:Nat} {m:Int} (h1:1≤m) (h5:m≤5) (h:P t K n (m+1)):Qp t K n m:=fun l i o hl hs hi ho hv=>by
 obtain ⟨e,Z,he,hr⟩:=h l i o hl hs hi ho (by omega)
 exact ⟨e,Z+1,0,he,by omega,fun k hk=>by rw [KU k l i o h1 h5 (hr k (by omega)),Nat.sub_zero]⟩
theorem Fj {t:T} {K:List Tk} {n:Nat} {m:Int} (h1:1≤m) (h5:m≤5) (h:P t K n (m+1)):P t K n m:=Fo h1 (Fm h1 h5 h)
def rT (t:T):Prop:=Sg t (toks t 6) (jg t 6)∧(∀ m:Int,1≤m→m≤6→P t (toks t m) (jg t m) m)∧ ∀ m:Int,1≤m→m≤5→m≠3→Qp t (toks t m) (jg t m) m
theorem down {t:T} {K:List Tk} {n:Nat} (h6:P t K n 6): ∀ (j:Nat) (m:Int),m=6 - (j:Int)→1≤m→P t K n m
 | 0, m, hm, _ => by have : m = 6 := by omega
                     subst this; exact h6
 | j+1,m,hm,hl=>Fj (by omega) (by omega) (down h6 j (m+1) (by omega) (by omega))
theorem Sg.at {t:T} {K:List Tk} {n:Nat} (h:Sg t K n) (m:Int) (h1:1≤m) (h6:m≤6):P t K n m:=down (P6 h) (6 - m).toNat m (by omega) h1
end Go.Sy.Ex
namespace Go.Sy.Ex
open Go.Sy
def h2 (y:UInt8):Bool:= !decide (y=61∨y=62∨y=38∨y=124)
def h1 (x:UInt8):Bool:= !decide (x=45∨x=61∨x=33∨x=60∨x=62∨x=38∨x=124)
theorem KL (x y:UInt8) (h:h1 x=true): [x,y] ∉ gu:=by
 unfold h1 at h
 simp only [Bool.not_eq_true',decide_eq_false_iff_not,not_or] at h
 simp [gu,h]
theorem MI {a b:List UInt8} (h: ∀ x,a.getLast?=some x→nm x=false∧h1 x=true):gV a b=true:=by
 unfold gV
 split
 · rename_i x y hx hy
   obtain ⟨e1,e2⟩:=h x hx
   rw [e1,Bool.false_and,decide_eq_false (KL x y e2)]; rfl
 · rfl
end Go.Sy.Ex
namespace Go.Sy.Ex
open Go.Sy
end Go.Sy.Ex
namespace Go.Sy.Ex
open Go.Sy
def Fw:Nat→aR→Prop
 | 0,_=>False
 | n+1,e=>(e.Kids.length≤n+2∧e.Kids.length≤10000000000000)∧e.Name.length≤199999999999999∧(-9223372036854775808≤e.N∧e.N≤9223372036854775807)∧ ∀ x ∈ e.Kids,Fw n x
def Tr (e:aR):Prop:= ∃ t,Is t e∧t.ok
def inr:T→Nat
 | .un k t=>jg t 6
 | .bin k x y=>max (jg x (yq k)) (jg y (zn k))
 | _=>0
end Go.Sy.Ex
namespace Go.Sy.Ex
open Go.Sy
theorem Fw.up: ∀ {n m:Nat} {e:aR},Fw n e→n≤m→Fw m e
 | 0,_,_,h,_=>h.elim
 | n+1,0,_,_,h=>by omega
 | n+1,m+1,e,⟨h1,h2,h3,h4⟩,h=>⟨by omega,h2,h3,fun x hx=>Fw.up (h4 x hx) (by omega)⟩
end Go.Sy.Ex
namespace Go.Sy.Ex
open Go.Sy
theorem nx {n:Nat} (h:n<100000000000000):aJ ((n:Int)+1)=((n+1:Nat):Int):=by rw [gD (by omega) (by omega)]; omega
end Go.Sy.Ex
namespace Go.Sy.Ex
open Go.Sy
end Go.Sy.Ex
namespace Go.Sy.Ex
open Go.Sy
end Go.Sy.Ex
namespace Go.Sy.Ex
open Go.Sy
end Go.Sy.Ex
namespace Go.Sy.Ex
open Go.Sy
end Go.Sy.Ex
namespace Go.Sy.Ex
open Go.Sy
section
variable {l:List an} {i o:Nat}
end
section
variable {s:aP} (h:s.Row.ak.Code≠0)
include h
end
def Fe:Nat→aR→Prop
 | 0,_=>False
 | n+1,e=>e.Kids.length≤2∧ ∀ x ∈ e.Kids,Fe n x
def Fd (e:aR):Prop:= ∃ n,Fe n e
theorem Fe.up: ∀ {n m:Nat} {e:aR},Fe n e→n≤m→Fe m e
 | 0,_,_,h,_=>h.elim
 | n+1,0,_,_,h=>by omega
 | n+1,m+1,e,⟨h1,h4⟩,h=>⟨h1,fun x hx=>Fe.up (h4 x hx) (by omega)⟩
theorem Fd.leaf {e:aR} (h:e.Kids= []):Fd e:=⟨1,by rw [h]; decide,by rw [h]; intro x hx; cases hx⟩
theorem Fd.one {e x:aR} (h:e.Kids= [x]) (hx:Fd x):Fd e:=by
 obtain ⟨n,hn⟩:=hx
 exact ⟨n+1,by rw [h]; simp,by rw [h]; intro y hy; rw [List.mem_singleton] at hy; subst hy; exact hn⟩
structure Ok (l:List an):Prop where
 len:l.length≤100000
 word: ∀ i,(az l i).Kind=1→(az l i).Text≠mB∧(az l i).Text≠rC
 more: ∀ i,i<l.length→(az l i).Kind≠4→i+1<l.length
section
variable {l:List an} (H:Ok l)
include H
omit H in
end
end Go.Sy.Ex
namespace Go.Sy.Ex
open Go.Sy
end Go.Sy.Ex
namespace Go.Sy.Ex
open Go.Sy
section
variable {l:List an} {i o:Nat}
end
structure H where
 kind:Int
 name:List UInt8
 ev:List UInt8
 x:Option T
 n:Int
inductive B where
 | nil | cons (h:H) (th el rest:B)
def OP (x:Option T):Prop:=match x with
 | none=>True
 | some t=>t.ok∧jg t 1≤12
def H.ok (h:H) (th el:B):Prop:=OP h.x∧
 ((h.kind=1∧iD h.name=true∧h.ev= []∧h.x≠none∧h.n=0∧th= .nil∧el= .nil)∨
  (h.kind=2∧h.name= []∧iD h.ev=true∧h.n=0∧th= .nil∧el= .nil)∨
  (h.kind=3∧iD h.name=true∧iD h.ev=true∧h.n=0∧th= .nil∧el= .nil)∨
  (h.kind=4∧iD h.name=true∧h.ev= []∧h.x≠none∧h.n=0∧th= .nil∧el= .nil)∨
  (h.kind=5∧iD h.name=true∧h.ev= []∧h.x=none∧h.n=0∧th= .nil∧el= .nil)∨
  (h.kind=6∧h.name= []∧h.ev= []∧h.x≠none∧h.n=0)∨
  (h.kind=7∧h.name= []∧h.ev= []∧h.x=none∧0≤h.n∧h.n≤9223372036854775807∧el= .nil))
def B.ok:B→Prop
 | .nil=>True
 | .cons h th el rest=>h.ok th el∧th.ok∧el.ok∧rest.ok
def B.isNil:B→Bool
 | .nil=>true
 | _=>false
end Go.Sy.Ex
namespace Go.Sy.Ex
open Go.Sy
end Go.Sy.Ex
namespace Go.Sy.Ex
open Go.Sy
end Go.Sy.Ex
namespace Go.Sy.Ex
open Go.Sy
def B.sz:B→Nat
 | .nil=>1
 | .cons _ th el rest=>th.sz+el.sz+rest.sz+1
end Go.Sy.Ex
namespace Go.Sy.Ex
open Go.Sy
end Go.Sy.Ex
namespace Go.Sy.Ex
open Go.Sy
abbrev b1:B:= .cons ⟨2,[],[101],some (.num 1),0⟩ .nil .nil (.cons ⟨7,[],[],none,2⟩ .nil .nil .nil)
def bd (t:an):aS:=if t.Kind=4 then ⟨12,t.At⟩ else ⟨11,t.At⟩
section
variable {s:aM} (h:s.Row.ak.Code≠0)
include h
end
end Go.Sy.Ex
namespace Go.Sy.Ex
open Go.Sy
def mT (X:List aR):Prop:=X.length≤1∧ ∀ e ∈ X,Fd e
theorem mT.nil:mT []:=⟨Nat.zero_le _,fun e h=>by cases h⟩
theorem mT.one {e:aR} (h:Fd e):mT [e]:=⟨Nat.le_refl _,fun x hx=>by rw [List.mem_singleton] at hx; subst hx; exact h⟩
end Go.Sy.Ex
namespace Go.Sy.Ex
open Go.Sy
end Go.Sy.Ex
namespace Go.Sy.Ex
open Go.Sy
def Fl:Nat→List aQ→Prop
 | 0,_=>False
 | n+1,l=>l.length≤100000∧ ∀ a ∈ l,mT a.X∧Fl n a.oT∧Fl n a.lG
def FL (l:List aQ):Prop:= ∃ n,Fl n l
theorem Fl.up: ∀ {n m:Nat} {l:List aQ},Fl n l→n≤m→Fl m l
 | 0,_,_,h,_=>h.elim
 | n+1,0,_,_,h=>by omega
 | n+1,m+1,l,⟨h1,h2⟩,h=>⟨h1,fun a ha=>⟨(h2 a ha).1,Fl.up (h2 a ha).2.1 (by omega),Fl.up (h2 a ha).2.2 (by omega)⟩⟩
theorem FL.nil:FL []:=⟨1,Nat.zero_le _,fun a ha=>by cases ha⟩
def AF (a:aQ):Prop:=mT a.X∧FL a.oT∧FL a.lG
theorem FL.push {l:List aQ} {a:aQ} (h:FL l) (ha:AF a) (hl:l.length<100000):FL (l++ [a]):=by
 obtain ⟨n,hn⟩:=h
 obtain ⟨hx,⟨m,hm⟩,⟨p,hp⟩⟩:=ha
 cases n with
 | zero=>exact hn.elim
 | succ n=>
  refine ⟨max n (max m p)+1,by rw [List.length_append,List.length_singleton]; omega,fun b hb=> ?_⟩
  rw [List.mem_append,List.mem_singleton] at hb
  rcases hb with hb | rfl
  · exact ⟨(hn.2 b hb).1,Fl.up (hn.2 b hb).2.1 (by omega),Fl.up (hn.2 b hb).2.2 (by omega)⟩
  · exact ⟨hx,Fl.up hm (by omega),Fl.up hp (by omega)⟩
end Go.Sy.Ex
namespace Go.Sy.Ex
open Go.Sy
end Go.Sy.Ex
namespace Go.Sy.Ex
open Go.Sy
def ew (t:an):Bool:=decide (t.Kind=1)&& !mq t.Text
section
variable {l:List an} {i:Nat}
end
section
variable {s:aA} (h:s.Row.ak.Code≠0)
include h
end
end Go.Sy.Ex
namespace Go.Sy.Ex
open Go.Sy
def yt (l:List an) (i:Nat):au:=⟨⟨l,(i:Int),⟨0,0⟩⟩⟩
def yb (l:List an) (i:Nat):au:=⟨⟨l,(i:Int),bd (az l i)⟩⟩
section
variable {l:List an} {i:Nat}
theorem rQ:jl (yt l i)=some (true,yt l i):=rfl
theorem ko (hi:i<l.length):dy (yt l i)=some (az l i,yt l i):=by
 unfold dy
 rw [rQ,aq]
 have h1: ¬ ((i:Nat):Int)<0:=by omega
 have h2: ¬ (l.length:Int)≤((i:Nat):Int):=by omega
 have h3:0≤((i:Nat):Int):=by omega
 have h4:((i:Nat):Int)<(l.length:Int):=by omega
 simp only [Bool.not_true,cond_false,yt,Int.toNat_natCast,h1,h2,h3,h4,if_true,if_false]; rfl
theorem vq (hi:i<l.length) (s:List UInt8):gQ (yt l i) s=some (bU (az l i) s,yt l i):=by
 unfold gQ bU
 rw [ko hi,aq]
 dsimp only
 by_cases h3:(az l i).Kind=3
 · rw [if_pos h3]; congr 2; rw [decide_eq_decide]; simp [h3]
 · rw [if_neg h3]
   by_cases h1:(az l i).Kind=1
   · rw [if_pos h1]; congr 2; rw [decide_eq_decide]; simp [h1]
   · rw [if_neg h1]
     congr 2
     symm
     rw [decide_eq_false_iff_not]
     rintro ⟨h | h,_⟩ <;> contradiction
theorem vz (hi:i<l.length) (hl:l.length≤100000) (s:List UInt8):eF (yt l i) s=some (bU (az l i) s,bif bU (az l i) s then yt l (i+1) else yt l i):=by
 unfold eF
 rw [vq hi,aq]
 dsimp only
 cases h:bU (az l i) s with
 | true=>
  rw [cond_true,cond_true]
  show some (true,(⟨⟨l,aJ (((i:Nat):Int)+1),⟨0,0⟩⟩⟩:au))=_
  rw [yA hi hl]; rfl
 | false=>rfl
theorem OV (hi:i<l.length):gz (yt l i)=some (yb l i):=by
 unfold gz
 rw [ko hi,aq]
 dsimp only
 unfold yb bd
 by_cases h4:(az l i).Kind=4
 · rw [if_pos h4,if_pos h4]
   unfold ga
   rw [rQ,aq]
   rfl
 · rw [if_neg h4,if_neg h4]
   unfold ga
   rw [rQ,aq]
   rfl
theorem dP (hi:i<l.length) (hl:l.length≤100000) {s:List UInt8} (h:bU (az l i) s=true):b8 (yt l i) s=some (yt l (i+1)):=by
 unfold b8
 rw [vz hi hl,aq,h]; rfl
theorem OT (hi:i<l.length) (hl:l.length≤100000) {s:List UInt8} (h:bU (az l i) s=false):b8 (yt l i) s=some (yb l i):=by
 unfold b8
 rw [vz hi hl,aq,h,Bool.not_false,cond_true,cond_false,OV hi,aq]
theorem E9 (hi:i<l.length):kT (yt l i)=some (ew (az l i),yt l i):=by
 unfold kT ew
 rw [ko hi,aq]
 dsimp only
 by_cases h1:(az l i).Kind=1
 · rw [if_pos h1,J_,aq,decide_eq_true h1]; rfl
 · rw [if_neg h1,decide_eq_false h1]; rfl
theorem jC (hi:i<l.length) (hl:l.length≤100000) (h:ew (az l i)=true):ez (yt l i)=some ((az l i).Text,yt l (i+1)):=by
 unfold ez
 rw [E9 hi,aq,h]
 show (if 0≤aJ (aJ (((i:Nat):Int)+1) - 1) then if aJ (aJ (((i:Nat):Int)+1) - 1)<(l.length:Int) then some ((l.getD (aJ (aJ (((i:Nat):Int)+1) - 1)).toNat an.z).Text,(⟨⟨l,aJ (((i:Nat):Int)+1),⟨0,0⟩⟩⟩:au)) else none else none)=_
 rw [yA hi hl,show aJ (((i+1:Nat):Int) - 1)=((i:Nat):Int) from by rw [gD (by omega) (by omega)]; omega,if_pos (by omega),if_pos (by omega),Int.toNat_natCast]
 rfl
theorem vv (hi:i<l.length) (hl:l.length≤100000) (h:(az l i).Kind=2):mg (yt l i)=some ((az l i).N,yt l (i+1)):=by
 unfold mg
 rw [ko hi,aq,if_neg (fun q=>q h)]
 show some ((az l i).N,(⟨⟨l,aJ (((i:Nat):Int)+1),⟨0,0⟩⟩⟩:au))=_
 rw [yA hi hl]; rfl
end
section
variable {s:au} (h:s.Row.ak.Code≠0)
include h
theorem Aa:jl s=some (false,s):=by unfold jl; rw [decide_eq_false h]
theorem vu:dy s=some (an.mk 4 0 0 [] 0,s):=by unfold dy; rw [Aa h,aq]; rfl
theorem vp (x:List UInt8):gQ s x=some (false,s):=by unfold gQ; rw [vu h,aq]; rfl
theorem OR (x:List UInt8):eF s x=some (false,s):=by unfold eF; rw [vp h,aq]; rfl
theorem OQ (c a:Int):ga s c a=some s:=by unfold ga; rw [Aa h,aq]; rfl
theorem OU:gz s=some s:=by
 unfold gz; rw [vu h,aq]
 dsimp only
 rw [if_pos rfl,OQ h,aq]
theorem OS (x:List UInt8):b8 s x=some s:=by
 unfold b8; rw [OR h,aq,Bool.not_false,cond_true]
 dsimp only
 rw [OU h,aq]
end
end Go.Sy.Ex
namespace Go.Sy.Ex
open Go.Sy
theorem jS {t:an} {s s':List UInt8} (h:bU t s=true) (hs:s≠s'):bU t s'=false:=by
 have h:=of_decide_eq_true h
 exact decide_eq_false fun q=>hs (h.2.symm.trans q.2)
section
variable {l:List an} {i:Nat}
theorem rS (hi:i<l.length) (hl:l.length≤100000) {s:List UInt8} (h:bU (az l i) s=true):eF (yt l i) s=some (true,yt l (i+1)):=by rw [vz hi hl,h]; rfl
theorem rR (hi:i<l.length) (hl:l.length≤100000) {s:List UInt8} (h:bU (az l i) s=false):eF (yt l i) s=some (false,yt l i):=by rw [vz hi hl,h]; rfl
def yM (l:List an) (i:Nat):au:=⟨⟨l,(i:Int),⟨15,(az l i).At⟩⟩⟩
theorem qA {s:au} (h:s.Row.ak.Code≠0) (w:List UInt8) (n most:Int):gC s w n most=some (false,s):=by
 unfold gC
 rw [vp h,aq,cond_false,vp h,aq]
end
theorem ED {a b:List an} {i:Nat} (h:i<a.length):az (a++b) i=az a i:=by
 unfold az
 simp [List.getD_eq_getElem?_getD,List.getElem?_append_left h]
theorem Nx {a b:List an} (i:Nat):az (a++b) (a.length+i)=az b i:=by
 unfold az
 rw [List.getD_eq_getElem?_getD,List.getD_eq_getElem?_getD,List.getElem?_append_right (by omega),Nat.add_sub_cancel_left]
theorem dm {t:an} {k:Int} {s:List UInt8} {n:Int} (h:strip t=(k,s,n)) (hk:k=3∨k=1):bU t s=true:=by
 unfold strip at h
 injection h with h1 h2
 injection h2 with h2 h3
 exact decide_eq_true ⟨by rw [h1]; exact hk,h2⟩
theorem gO {t:an} {s:List UInt8} {n:Int} (h:strip t=(1,s,n)) (hs:mq s=false):ew t=true:=by
 unfold strip at h
 injection h with h1 h2
 injection h2 with h2 h3
 unfold ew
 rw [h2,hs,decide_eq_true h1]; rfl
theorem qq {t:an} {k:Int} {s:List UInt8} {n:Int} (h:strip t=(k,s,n)):t.Kind=k:=by
 unfold strip at h
 injection h
theorem zM {L:List an} {K:List Tk} (h:L.map strip=K) {i:Nat} {x:Tk} (hx:K[i]? =some x):strip (az L i)=x:=by
 subst h
 rw [List.getElem?_map] at hx
 unfold az
 rw [List.getD_eq_getElem?_getD]
 cases hL:L[i]? with
 | none=>rw [hL] at hx; cases hx
 | some y=>rw [hL] at hx; exact Option.some.inj hx
abbrev z0:c8:=c8.mk 0 [] [] [] []
noncomputable abbrev z7 (m:Nat) (s:au) (a:Int) (C:List cN) (I:List dA) (K:List dz) (E:List bF):=j_ m s.Row.L s.Row.At s.Row.ak.Code s.Row.ak.At 0 [] [] [] [] a C I K E
noncomputable abbrev z8 (m:Nat) (s:au) (a:Int) (C:List cN) (I:List dA) (K:List dz) (E:List bF):=mH m s.Row.L s.Row.At s.Row.ak.Code s.Row.ak.At 0 [] [] [] [] a C I K E
noncomputable abbrev z_ (m:Nat) (s:au) (a:Int) (C:List cN) (I:List dA) (K:List dz) (E:List bF):=mI m s.Row.L s.Row.At s.Row.ak.Code s.Row.ak.At 0 [] [] [] [] a C I K E
noncomputable abbrev kn (m:Nat) (s:au) (a:Int) (C:List cN) (I:List dA) (K:List dz) (E:List bF):=ke m s.Row.L s.Row.At s.Row.ak.Code s.Row.ak.At 0 [] [] [] [] a C I K E
theorem bN (n c:Nat) {α:Type} (x:α) (h:n≤100) (hc:c≤1000):(n+ [x].length)*c≤140737488355328:=by
 have :(n+ [x].length)*c≤101*1000:=Nat.mul_le_mul (by simp; omega) hc
 omega
theorem vo (l:List an) (i:Nat):(yM l i).Row.ak.Code≠0:=by show (15:Int)≠0; decide
theorem jT {l:List an} {i:Nat} (hi:i<l.length) (w:List UInt8) (n most:Int):gC (yt l i) w n most=bif bU (az l i) w then (if n=most then some (false,yM l i) else some (true,yt l i)) else some (false,yt l i):=by
 unfold gC
 rw [vq hi,aq]
 dsimp only
 cases h:bU (az l i) w with
 | false=>rw [cond_false,cond_false,vq hi,aq,h]
 | true=>
  rw [cond_true,cond_true]
  by_cases e:n=most
  · rw [if_pos e,if_pos e,ko hi,aq]
    dsimp only
    have hF:ga (yt l i) 15 (az l i).At=some (yM l i):=by
     unfold ga
     rw [rQ,aq]; rfl
    rw [hF,aq,vp (vo l i),aq]
  · rw [if_neg e,if_neg e,vq hi,aq,h]
def eG (hd:List UInt8) (ln:Nat→List UInt8):Nat→List UInt8
 | 0=>hd
 | i+1=>eG hd ln i++ln i
def fl (K:Nat→List Tk):Nat→List Tk
 | 0=> []
 | i+1=>fl K i++K i
theorem iZ {K:Nat→List Tk} {c:Nat} (hc: ∀ e,(K e).length=c): ∀ i,(fl K i).length=c*i
 | 0=>rfl
 | i+1=>by rw [fl,List.length_append,iZ hc i,hc,Nat.mul_succ]
theorem BJ {K:Nat→List Tk} {c:Nat} (hc: ∀ e,(K e).length=c): ∀ i e j,e<i→j<c→(fl K i)[c*e+j]? =(K e)[j]?
 | 0,e,j,h,_=>by omega
 | i+1,e,j,h,hj=>by
  have h1:c*(e+1)≤c*(i+1):=Nat.mul_le_mul_left c (by omega)
  by_cases he:e<i
  · have h2:c*(e+1)≤c*i:=Nat.mul_le_mul_left c (by omega)
    rw [Nat.mul_succ] at h2
    rw [fl,List.getElem?_append_left (by rw [iZ hc]; omega)]
    exact BJ hc i e j he hj
  · obtain rfl:e=i:=by omega
    rw [fl,List.getElem?_append_right (by rw [iZ hc]; omega),iZ hc,Nat.add_sub_cancel_left]
theorem KY {n:Nat} {u:List UInt8} {L:List an} (h:dZ n u L) (hu:L≠ []):(az L 0).At=((n+(u.length - (dK u).length):Nat):Int):=by
 cases h with
 | nil hs=>exact absurd rfl hu
 | cons hs hv hh hl=>subst hs; rfl
structure LL (hd:List UInt8) (ln:Nat→List UInt8) (KH:List Tk) (K:Nat→List Tk) (c o i:Nat) (L:List an):Prop where
 lex:dZ 0 (eG hd ln i) L
 st:L.map strip=KH++fl K i
 pl: ∀ e,e<i→(az L (KH.length+c*e)).At=(((eG hd ln e).length+o:Nat):Int)
theorem D4 {a b:List UInt8} (h:a.getLast?=some 10):gV a b=true:=MI fun x hx=>by rw [h] at hx; cases hx; decide
theorem EP {hd:List UInt8} {ln:Nat→List UInt8} (h:hd.getLast?=some 10) (hl: ∀ e,(ln e).getLast?=some 10): ∀ i,(eG hd ln i).getLast?=some 10
 | 0=>h
 | i+1=>by rw [eG,List.getLast?_append,hl]; rfl
theorem C3 {hd:List UInt8} {ln:Nat→List UInt8} {KH:List Tk} {K:Nat→List Tk} {c o:Nat} (hh:Lx hd KH) (hl: ∀ e,Lx (ln e) (K e)) (hc: ∀ e,(K e).length=c) (h0:0<c) (hs: ∀ e,(ln e).length - (dK (ln e)).length=o)
 (h10:hd.getLast?=some 10) (l10: ∀ e,(ln e).getLast?=some 10): ∀ i, ∃ L,LL hd ln KH K c o i L
 | 0=>by
  obtain ⟨L,h1,h2⟩:=hh 0
  exact ⟨L,h1,by rw [h2]; simp [fl],fun e he=>by omega⟩
 | i+1=>by
  obtain ⟨L,h⟩:=C3 hh hl hc h0 hs h10 l10 i
  obtain ⟨M,h1,h2⟩:=hl i (0+(eG hd ln i).length)
  have hL:L.length=KH.length+c*i:=by have :=congrArg List.length h.st; rw [List.length_map,List.length_append,iZ hc] at this; exact this
  have hM:M.length=c:=by have :=congrArg List.length h2; rw [List.length_map,hc] at this; exact this
  refine ⟨L++M,h.lex.append h1 (D4 (EP h10 l10 i)),by rw [List.map_append,h.st,h2,fl,List.append_assoc],fun e he=> ?_⟩
  by_cases nD:e<i
  · have h3:c*(e+1)≤c*i:=Nat.mul_le_mul_left c (by omega)
    rw [Nat.mul_succ] at h3
    rw [ED (by omega)]
    exact h.pl e nD
  · obtain rfl:e=i:=by omega
    have :=Nx (a:=L) (b:=M) 0
    rw [Nat.add_zero,hL] at this
    rw [this,KY h1 (fun e=>by rw [e] at hM; simp at hM; omega),hs,Nat.zero_add]
structure TT (l:List an) (hd:List UInt8) (ln:Nat→List UInt8) (KH KR:List Tk) (K:Nat→List Tk) (c o n:Nat):Prop where
 st:l.map strip=(KH++fl K n++KR)++ [(4,[],0)]
 pl: ∀ e,e<n→(az l (KH.length+c*e)).At=(((eG hd ln e).length+o:Nat):Int)
 hc: ∀ e,(K e).length=c
theorem Ny {hd:List UInt8} {ln:Nat→List UInt8} {KH KR:List Tk} {K:Nat→List Tk} {c o:Nat} {tr:List UInt8} (hh:Lx hd KH) (hl: ∀ e,Lx (ln e) (K e)) (ht:Lx tr KR) (hc: ∀ e,(K e).length=c) (h0:0<c) (hs: ∀ e,(ln e).length - (dK (ln e)).length=o)
 (h10:hd.getLast?=some 10) (l10: ∀ e,(ln e).getLast?=some 10) (n:Nat) (hn:(eG hd ln n++tr).length≤16384): ∃ l,iU (eG hd ln n++tr)=(l,⟨0,0⟩)∧TT l hd ln KH KR K c o n:=by
 obtain ⟨L,h⟩:=C3 hh hl hc h0 hs h10 l10 n
 obtain ⟨R,h1,h2⟩:=ht (0+(eG hd ln n).length)
 have hL:L.length=KH.length+c*n:=by have :=congrArg List.length h.st; rw [List.length_map,List.length_append,iZ hc] at this; exact this
 refine ⟨_,Dj (h.lex.append h1 (D4 (EP h10 l10 n))) hn, ?_,fun e he=> ?_,hc⟩
 · rw [List.map_append,List.map_append,h.st,h2]; rfl
 · have h3:c*(e+1)≤c*n:=Nat.mul_le_mul_left c (by omega)
   rw [Nat.mul_succ] at h3
   have h4:0<c:=h0
   rw [List.append_assoc,ED (by omega)]
   exact h.pl e he
section
variable {l:List an} {hd:List UInt8} {ln:Nat→List UInt8} {KH KR:List Tk} {K:Nat→List Tk} {c o n:Nat} (T:TT l hd ln KH KR K c o n)
include T
theorem TT.len:l.length=KH.length+c*n+KR.length+1:=by
 have :=congrArg List.length T.st
 simp only [List.length_map,List.length_append,iZ T.hc,List.length_singleton] at this
 omega
theorem TT.head {j:Nat} {x:Tk} (h:KH[j]? =some x):strip (az l j)=x:=by
 refine zM T.st ?_
 obtain ⟨hj,_⟩:=List.getElem?_eq_some_iff.1 h
 rw [List.append_assoc,List.append_assoc,List.getElem?_append_left hj,h]
theorem TT.line {e j:Nat} {x:Tk} (he:e<n) (h:(K e)[j]? =some x):strip (az l (KH.length+c*e+j))=x:=by
 refine zM T.st ?_
 obtain ⟨hj,_⟩:=List.getElem?_eq_some_iff.1 h
 rw [T.hc] at hj
 have h3:c*(e+1)≤c*n:=Nat.mul_le_mul_left c (by omega)
 rw [Nat.mul_succ] at h3
 rw [List.append_assoc,List.append_assoc,List.getElem?_append_right (by omega),List.getElem?_append_left (by rw [iZ T.hc]; omega),show KH.length+c*e+j - KH.length=c*e+j from by omega,BJ T.hc n e j he hj,h]
theorem TT.tail {j:Nat} {x:Tk} (h:(KR++ [((4,[],0):Tk)])[j]? =some x):strip (az l (KH.length+c*n+j))=x:=by
 refine zM T.st ?_
 rw [List.append_assoc,List.getElem?_append_right (by rw [List.length_append,iZ T.hc]; omega),List.length_append,iZ T.hc,Nat.add_sub_cancel_left,h]
end
theorem zp {α β:Type} {l:List an} (Y:Nat→au→List α→β) (P:Nat→α→Prop) (h c N:Nat)
 (step: ∀ e acc,e<N→acc.length=e→ ∃ x,P e x∧ ∀ m,Y (m+1) (yt l (h+c*e)) acc=Y m (yt l (h+c*(e+1))) (acc++ [x])):
 ∀ r,r≤N→ ∃ acc:List α,acc.length=r∧(∀ j (hj:j<acc.length),P j acc[j])∧ ∀ m,Y (m+r) (yt l (h+c*0)) []=Y m (yt l (h+c*r)) acc
 | 0,_=>⟨[],rfl,fun j hj=>by simp at hj,fun m=>rfl⟩
 | r+1,hr=>by
  obtain ⟨acc,h1,h2,h3⟩:=zp Y P h c N step r (by omega)
  obtain ⟨x,hx,h4⟩:=step r acc (by omega) h1
  refine ⟨acc++ [x],by simp [h1],fun j hj=> ?_,fun m=> ?_⟩
  · by_cases hj':j<acc.length
    · rw [List.getElem_append_left hj']; exact h2 j hj'
    · have :j=acc.length:=by simp at hj; omega
      subst this
      rw [List.getElem_append_right (Nat.le_refl _)]
      simpa [h1] using hx
  · rw [show m+(r+1)=(m+1)+r from by omega,h3,h4]
end Go.Sy.Ex
namespace Go.Sy.Ex
open Go.Sy
theorem vV {l:List an} {p:Nat} {K:List Tk} {x:Tk} (h: ∀ j x,K[j]? =some x→strip (az l (p+j))=x) (hx:K[0]? =some x):strip (az l p)=x:=h 0 _ hx
section
variable {l:List an} {p:Nat}
theorem OA (hl:l.length≤100000) (hi:p+1<l.length) {w:List UInt8} (h:bU (az l p) w=true) (h2:(az l (p+1)).Kind=2):gZ (yt l p) w=some ((az l (p+1)).N,yt l (p+2)):=by
 unfold gZ
 rw [dP (by omega) hl h,aq,vv hi hl h2,aq]
theorem Ox (hl:l.length≤100000) (hp:p+5<l.length) (h0:ew (az l p)=true) (h1:bU (az l (p+1)) zw=true) (h2:ew (az l (p+2))=true) (h3:bU (az l (p+3)) uP=true) (h4:ew (az l (p+4))=true):
 mJ (yt l p)=some ((az l p).Text,(az l (p+2)).Text,(az l (p+4)).Text,yt l (p+5)):=by
 unfold mJ
 rw [jC (by omega) hl h0,aq]
 dsimp only
 rw [dP (by omega) hl h1,aq,jC (by omega) hl h2,aq]
 dsimp only
 rw [dP (by omega) hl h3,aq,jC (by omega) hl h4,aq]
theorem dY (s:au):au.mk (aX.mk s.Row.L s.Row.At (aS.mk s.Row.ak.Code s.Row.ak.At))=s:=rfl
section
variable (a:Int) (C:List cN) (I:List dA) (N:List dz) (E:List bF) (m:Nat)
theorem My (hp:p<l.length) (h:bU (az l p) oa=false):z7 (m+1) (yt l p) a C I N E=z8 m (yt l p) a C I N E:=by
 unfold z7
 rw [j_.eq_2,dY,jT hp,h,cond_false,aq]; rfl
theorem Mz (hp:p<l.length) (h:bU (az l p) oc=false):z8 (m+1) (yt l p) a C I N E=z_ m (yt l p) a C I N E:=by
 unfold z8
 rw [mH.eq_2,dY,jT hp,h,cond_false,aq]; rfl
theorem MA (hp:p<l.length) (h:bU (az l p) n_=false):z_ (m+1) (yt l p) a C I N E=kn m (yt l p) a C I N E:=by
 unfold z_
 rw [mI.eq_2,dY,jT hp,h,cond_false,aq]; rfl
theorem MD (hp:p<l.length) (h:(az l p).Kind=4):kn (m+1) (yt l p) a C I N E=some (⟨a,C,I,N,E⟩,yt l p):=by
 have hn:bU (az l p) j8=false:=decide_eq_false (by rw [h]; omega)
 unfold kn
 rw [ke.eq_2,dY,jT hp,hn,cond_false,aq,cond_false]
 dsimp only
 rw [ko hp,aq,if_neg (fun q=>q h)]
theorem MB {s:au} (h:s.Row.ak.Code≠0):kn (m+1) s a C I N E=some (⟨a,C,I,N,E⟩,s):=by
 unfold kn
 rw [ke.eq_2,dY,qA h,aq,cond_false]
 dsimp only
 rw [vu h,aq,if_neg (fun q=>q rfl)]
end
end
end Go.Sy.Ex
namespace Go.Sy.Ex
open Go.Sy
abbrev M1:List an:= [⟨1,0,6,k8,0⟩,⟨1,7,10,k6,0⟩,⟨2,11,12,[49],1⟩,⟨3,12,13,cY,0⟩,⟨4,13,13,[],0⟩]
abbrev M2:List an:= [⟨1,0,6,k8,0⟩,⟨1,7,10,k6,0⟩,⟨2,11,12,[49],1⟩,⟨4,12,12,[],0⟩]
theorem Fg:iU zx=(M1,⟨0,0⟩):=by decide+kernel
theorem Fh:iU zy=(M2,⟨0,0⟩):=by decide+kernel
theorem CM:nM=some true:=by
 have r1:gh zx=some (c8.mk 1 [] [] [] [],⟨0,0⟩):=by
  unfold gh
  rw [tA,Fg,aq,if_neg (by decide)]
  have hs:iM (au.mk (aX.mk M1 0 (aS.mk 0 0)))=some (c8.mk 1 [] [] [] [],yt M1 4):=fY 4 fun k hk=>by
   obtain ⟨k,rfl⟩: ∃ j,k=j+4:=⟨k - 4,by omega⟩
   show iN (k+4) (yt M1 0)=_
   unfold iN
   have hm: ∀ w n m,bU (az M1 4) w=false→gC (yt M1 4) w n m=some (false,yt M1 4):=fun w n m h=>by rw [jT (by decide),h]; rfl
   have ee: ∀ s:au,au.mk (aX.mk s.Row.L s.Row.At (aS.mk s.Row.ak.Code s.Row.ak.At))=s:=fun s=>rfl
   rw [dP (by decide) (by decide) (by decide),aq,dP (by decide) (by decide) (by decide),aq,vv (by decide) (by decide) (by decide),aq,dP (by decide) (by decide) (by decide),aq]
   show j_ (k+4) (yt M1 4).Row.L _ _ _ _ _ _ _ _ _ _ _ _ _=_
   rw [j_.eq_2,ee,hm _ _ _ (by decide),aq,cond_false]
   dsimp only
   rw [mH.eq_2,ee,hm _ _ _ (by decide),aq,cond_false]
   dsimp only
   rw [mI.eq_2,ee,hm _ _ _ (by decide),aq,cond_false]
   dsimp only
   rw [ke.eq_2,ee,hm _ _ _ (by decide),aq,cond_false]
   dsimp only
   rw [ko (by decide),aq]
   rfl
  rw [hs,aq]
  rfl
 have r2:gh zy=some (z0,⟨12,12⟩):=by
  unfold gh
  rw [tA,Fh,aq,if_neg (by decide)]
  have hb:(yb M2 3).Row.ak.Code≠0:=by decide
  have ee: ∀ s:au,au.mk (aX.mk s.Row.L s.Row.At (aS.mk s.Row.ak.Code s.Row.ak.At))=s:=fun s=>rfl
  have hs:iM (au.mk (aX.mk M2 0 (aS.mk 0 0)))=some (c8.mk 1 [] [] [] [],yb M2 3):=fY 4 fun k hk=>by
   obtain ⟨k,rfl⟩: ∃ j,k=j+4:=⟨k - 4,by omega⟩
   show iN (k+4) (yt M2 0)=_
   unfold iN
   rw [dP (by decide) (by decide) (by decide),aq,dP (by decide) (by decide) (by decide),aq,vv (by decide) (by decide) (by decide),aq,OT (by decide) (by decide) (by decide),aq]
   show j_ (k+4) (yb M2 3).Row.L _ _ _ _ _ _ _ _ _ _ _ _ _=_
   rw [j_.eq_2,ee,qA hb,aq,cond_false]
   dsimp only
   rw [mH.eq_2,ee,qA hb,aq,cond_false]
   dsimp only
   rw [mI.eq_2,ee,qA hb,aq,cond_false]
   dsimp only
   rw [ke.eq_2,ee,qA hb,aq,cond_false]
   dsimp only
   rw [vu hb,aq]
   rfl
  rw [hs,aq]
  rfl
 unfold nM
 rw [r1,aq,r2,aq]
 dsimp only
 rw [if_pos rfl,if_pos rfl,if_pos (by rfl),decide_eq_true ⟨rfl,rfl⟩]
abbrev KS:List Tk:= [(1,k8,0),(1,k6,0),(2,[49],1),(3,cY,0)]
theorem KP {t:List UInt8} {l:List an} {s:c8} {j:Nat} (h:iU t=(l,⟨0,0⟩)) (hs:iM (yt l 0)=some (s,yt l j)):gh t=some (s,⟨0,0⟩):=by
 unfold gh
 rw [tA,h,aq,if_neg (show ¬ (0:Int)≠0 by decide)]
 show (iM (yt l 0)).bind _=_
 rw [hs,aq]
 dsimp only
 rw [rQ,aq]; rfl
theorem KO {t:List UInt8} {l:List an} {s:c8} {j:Nat} (h:iU t=(l,⟨0,0⟩)) (hs:iM (yt l 0)=some (s,yM l j)):gh t=some (z0,⟨15,(az l j).At⟩):=by
 unfold gh
 rw [tA,h,aq,if_neg (show ¬ (0:Int)≠0 by decide)]
 show (iM (yt l 0)).bind _=_
 rw [hs,aq]
 dsimp only
 rw [Aa (vo l j),aq]; rfl
theorem M_ {l:List an} (hl:l.length≤100000) (hp:4<l.length) (h: ∀ j x,KS[j]? =some x→strip (az l j)=x) (k:Nat):iN k (yt l 0)=z7 k (yt l 4) (az l 2).N [] [] [] []:=by
 unfold iN
 rw [dP (by omega) hl (dm (h 0 _ rfl) (.inr rfl)),aq,dP (i:=1) (by omega) hl (dm (h 1 _ rfl) (.inr rfl)),aq,vv (i:=2) (by omega) hl (qq (h 2 _ rfl)),aq]
 dsimp only
 rw [dP (i:=3) (by omega) hl (dm (h 3 _ rfl) (.inl rfl)),aq]
section
variable {l:List an} {hd line:List UInt8} {n:Nat}
theorem Nz {c e n:Nat} (he:e<n):c*e+c≤c*n:=by
 have :=Nat.mul_le_mul_left c (show e+1≤n by omega)
 rwa [Nat.mul_succ] at this
end
end Go.Sy.Ex
namespace Go.Sy.Ex
open Go.Sy
abbrev KE (b:Bool):List Tk:= [(1,mA,0),bif b then (2,[48],0) else (2,[55],7),(3,j9,0),(1,[120],0),(3,mD,0),(1,[122],0),(3,k7,0),(1,oe,0),(3,cY,0),(3,uM,0),(1,[101],0),(1,[102],0),(1,[101],0),(3,rC,0),(3,iL,0)]
abbrev KT:List Tk:= [(1,k8,0),(1,k6,0),(2,[49],1),(3,cY,0),(1,j8,0),(1,[99],0),(3,uB,0),(1,[97],0),(3,zw,0),(1,[120],0),(3,uP,0),(1,[121],0),(3,j9,0),(1,ru,0),(1,[97],0),(3,k7,0),(1,[98],0),(3,cY,0),(1,rj,0),(1,[107],0),(3,cY,0)]
def ce (b:Bool):List UInt8:=cz++((bif b then iJ else eU)++eY)
theorem oy {t:an} {k:Int} {s:List UInt8} {n:Int} (h:strip t=(k,s,n)):t.Text=s:=by
 unfold strip at h
 injection h with h1 h2
 injection h2
theorem C7 {t:an} {k:Int} {s:List UInt8} {n:Int} (h:strip t=(k,s,n)):t.N=n:=by
 unfold strip at h
 injection h with h1 h2
 injection h2
section
variable {l:List an} {p:Nat}
theorem Kp (hl:l.length≤100000) (hp:p+1<l.length) {w:List UInt8} (h0:ew (az l p)=true) (h1:bU (az l (p+1)) w=false):lf (yt l p) w=some ([(az l p).Text],yt l (p+1)):=fY 1 fun k hk=>by
 obtain ⟨k,rfl⟩: ∃ j,k=j+1:=⟨k - 1,by omega⟩
 show ov (k+1) (yt l p) w=_
 unfold ov
 rw [jC (by omega) hl h0,aq,ow.eq_2,dY,rR (by omega) hl h1,aq]; rfl
theorem C8 (hl:l.length≤100000) (hp:p+3<l.length) {w:List UInt8} (h0:ew (az l p)=true) (h1:bU (az l (p+1)) w=true) (h2:ew (az l (p+2))=true) (h3:bU (az l (p+3)) w=false):lf (yt l p) w=some ([(az l p).Text,(az l (p+2)).Text],yt l (p+3)):=fY 2 fun k hk=>by
 obtain ⟨k,rfl⟩: ∃ j,k=j+2:=⟨k - 2,by omega⟩
 show ov (k+2) (yt l p) w=_
 unfold ov
 rw [jC (by omega) hl h0,aq,ow.eq_2,dY,rS (by omega) hl h1,aq,cond_true]
 dsimp only
 rw [jC (by omega) hl h2,aq,if_pos (by show (1+1)*16≤140737488355328; decide),ow.eq_2,dY,rR (by omega) hl h3,aq]; rfl
def nK (b:Bool) (c:b_):Prop:=c.sg=(bif b then 0 else 7)∧c.Sets= [[[120],[122]],[]]∧c.oQ= [[[101],[102],[101]]]
theorem vt (hi:p<l.length) (b:Bool) (h:ew (az l p)=b):kT (yt l p)=some (b,yt l p):=by rw [E9 hi,h]
theorem Gm (b:Bool) (hl:l.length≤100000) (hp:p+15<l.length) (h: ∀ j x,(KE b)[j]? =some x→strip (az l (p+j))=x): ∃ c,nK b c∧vg (yt l p)=some (c,yt l (p+15)):=by
 have hN:(az l (p+1)).Kind=2∧(az l (p+1)).N=(bif b then 0 else 7):=by
  have :=h 1 _ rfl
  cases b with
  | true=>exact ⟨qq this,C7 this⟩
  | false=>exact ⟨qq this,C7 this⟩
 have i3:ew (az l (p+3))=true:=gO (h 3 _ rfl) (by decide+kernel)
 have t4:bU (az l (p+4)) mD=true:=dm (h 4 _ rfl) (.inl rfl)
 have i5:ew (az l (p+5))=true:=gO (h 5 _ rfl) (by decide+kernel)
 have t6:bU (az l (p+6)) k7=true:=dm (h 6 _ rfl) (.inl rfl)
 have t7:bU (az l (p+7)) oe=true:=dm (h 7 _ rfl) (.inr rfl)
 have t8:bU (az l (p+8)) cY=true:=dm (h 8 _ rfl) (.inl rfl)
 have t9:bU (az l (p+9)) uM=true:=dm (h 9 _ rfl) (.inl rfl)
 have i10:ew (az l (p+10))=true:=gO (h 10 _ rfl) (by decide+kernel)
 have i11:ew (az l (p+11))=true:=gO (h 11 _ rfl) (by decide+kernel)
 have i12:ew (az l (p+12))=true:=gO (h 12 _ rfl) (by decide+kernel)
 have t13:bU (az l (p+13)) rC=true:=dm (h 13 _ rfl) (.inl rfl)
 have t14:bU (az l (p+14)) iL=true:=dm (h 14 _ rfl) (.inl rfl)
 have n3:bU (az l (p+3)) oe=false:=decide_eq_false fun q=>absurd (q.2.symm.trans (oy (h 3 _ rfl))) (by decide)
 have Kn:ew (az l (p+13))=false:=by unfold ew; rw [decide_eq_false (by rw [qq (h 13 _ rfl)]; decide)]; rfl
 refine ⟨b_.mk (az l (p+1)).N [[(az l (p+3)).Text,(az l (p+5)).Text],[]] [[(az l (p+10)).Text,(az l (p+11)).Text,(az l (p+12)).Text]] (az l p).At,⟨hN.2, ?_, ?_⟩,fY 9 fun k hk=> ?_⟩
 · show [[(az l (p+3)).Text,(az l (p+5)).Text],[]]=_
   rw [oy (h 3 _ rfl),oy (h 5 _ rfl)]
 · show [[(az l (p+10)).Text,(az l (p+11)).Text,(az l (p+12)).Text]]=_
   rw [oy (h 10 _ rfl),oy (h 11 _ rfl),oy (h 12 _ rfl)]
 obtain ⟨k,rfl⟩: ∃ j,k=j+9:=⟨k - 9,by omega⟩
 show vh (k+9) (yt l p)=_
 unfold vh
 rw [ko (by omega),aq]
 dsimp only
 rw [OA hl (by omega) (dm (vV h rfl) (.inr rfl)) hN.1,aq]
 dsimp only
 rw [dP (by omega) hl (dm (h 2 _ rfl) (.inl rfl)),aq,mE.eq_2,cond_true,dY,rR (by omega) hl n3,aq,Bool.not_false,cond_true]
 dsimp only
 rw [C8 (p:=p+3) hl (by omega) i3 t4 i5 (jS t6 (by decide)),aq,if_pos (by show (0+1)*24≤140737488355328; decide)]
 dsimp only
 rw [rS (by omega) hl t6,aq]
 dsimp only
 rw [mE.eq_2,cond_true,dY,rS (by omega) hl t7,aq,Bool.not_true,cond_false,if_pos (by show (1+1)*24≤140737488355328; decide)]
 dsimp only
 rw [rR (by omega) hl (jS t8 (by decide)),aq]
 dsimp only
 rw [mE.eq_2,cond_false,dY,dP (by omega) hl t8,aq,rH.eq_2,dY,rS (by omega) hl t9,aq,cond_true]
 dsimp only
 rw [mF.eq_2,dY,vt (by omega) true i10,aq,cond_true]
 dsimp only
 rw [jC (by omega) hl i10,aq,if_pos (by show (0+1)*16≤140737488355328; decide)]
 dsimp only
 rw [mF.eq_2,dY,vt (by omega) true i11,aq,cond_true]
 dsimp only
 rw [jC (by omega) hl i11,aq,if_pos (by show (1+1)*16≤140737488355328; decide)]
 dsimp only
 rw [mF.eq_2,dY,vt (by omega) true i12,aq,cond_true]
 dsimp only
 rw [jC (by omega) hl i12,aq,if_pos (by show (2+1)*16≤140737488355328; decide)]
 dsimp only
 rw [mF.eq_2,dY,vt (by omega) false Kn,aq,cond_false]
 dsimp only
 rw [dP (by omega) hl t13,aq,if_pos (by show (0+1)*24≤140737488355328; decide),rH.eq_2,dY,rR (by omega) hl (jS t14 (by decide)),aq,cond_false]
 dsimp only
 rw [dP (by omega) hl t14,aq]
 rfl
noncomputable abbrev yC (m:Nat) (s:au) (N I Rq Rs:List UInt8) (L C:List (List UInt8)) (E:List b_) (A:Int):=ld m s.Row.L s.Row.At s.Row.ak.Code s.Row.ak.At [] [] [] [] [] [] [] 0 N I Rq Rs L C E A
theorem AP (b:Bool) (N I Rq Rs:List UInt8) (L C:List (List UInt8)) (E:List b_) (A:Int) (hl:l.length≤100000) (hp:p+15<l.length) (h: ∀ j x,(KE b)[j]? =some x→strip (az l (p+j))=x) (hE:E.length<64):
 ∃ x,nK b x∧ ∀ m,yC (m+1) (yt l p) N I Rq Rs L C E A=yC m (yt l (p+15)) N I Rq Rs L C (E++ [x]) A:=by
 obtain ⟨c,h1,h2⟩:=Gm b hl hp h
 refine ⟨c,h1,fun m=> ?_⟩
 unfold yC
 rw [ld.eq_2,dY,jT (by omega),dm (vV h rfl) (.inr rfl),cond_true,if_neg (by omega),aq,cond_true,h2,aq,if_pos (bN E.length 64 c (by omega) (by decide))]
theorem Gk (N I Rq Rs:List UInt8) (L C:List (List UInt8)) (E:List b_) (A:Int) (m:Nat) (hl:l.length≤100000) (hp:p<l.length) (h:bU (az l p) iL=true):
 yC (m+1) (yt l p) N I Rq Rs L C E A=some (⟨N,I,Rq,Rs,L,C,E,A⟩,yt l (p+1)):=by
 unfold yC
 rw [ld.eq_2,dY,jT hp,jS h (by decide),cond_false,aq,cond_false]
 dsimp only
 rw [dP hp hl h,aq]
theorem Gl (N I Rq Rs:List UInt8) (L C:List (List UInt8)) (E:List b_) (A:Int) (m:Nat) (hp:p<l.length) (h:bU (az l p) mA=true) (hE:(E.length:Int)=64):
 yC (m+1) (yt l p) N I Rq Rs L C E A=some (⟨N,I,Rq,Rs,L,C,E,A⟩,yM l p):=by
 unfold yC
 rw [ld.eq_2,dY,jT hp,h,cond_true,if_pos hE,aq,cond_false]
 dsimp only
 rw [OS (vo l p),aq]
theorem AT (hl:l.length≤100000) (hp:21<l.length) (h: ∀ j x,KT[j]? =some x→strip (az l j)=x): ∃ N I Rq Rs L C A, ∀ k,ou k (yt l 4)=yC k (yt l 21) N I Rq Rs L C [] A:=by
 refine ⟨(az l 5).Text,(az l 7).Text,(az l 9).Text,(az l 11).Text,[(az l 14).Text,(az l 16).Text],[(az l 19).Text],(az l 4).At,fun k=> ?_⟩
 have t15:bU (az l 15) k7=true:=dm (h 15 _ rfl) (.inl rfl)
 have t17:bU (az l 17) cY=true:=dm (h 17 _ rfl) (.inl rfl)
 have t20:bU (az l 20) cY=true:=dm (h 20 _ rfl) (.inl rfl)
 unfold ou
 rw [ko (by omega),aq]
 dsimp only
 rw [dP (by omega) hl (dm (h 4 _ rfl) (.inr rfl)),aq,jC (i:=5) (by omega) hl (gO (h 5 _ rfl) (by decide+kernel)),aq]
 dsimp only
 rw [dP (i:=6) (by omega) hl (dm (h 6 _ rfl) (.inl rfl)),aq,
  Ox (p:=7) hl (by omega) (gO (h 7 _ rfl) (by decide+kernel)) (dm (h 8 _ rfl) (.inl rfl)) (gO (h 9 _ rfl) (by decide+kernel)) (dm (h 10 _ rfl) (.inl rfl)) (gO (h 11 _ rfl) (by decide+kernel)),aq]
 dsimp only
 rw [dP (i:=12) (by omega) hl (dm (h 12 _ rfl) (.inl rfl)),aq,dP (i:=13) (by omega) hl (dm (h 13 _ rfl) (.inr rfl)),aq,
  C8 (p:=14) hl (by omega) (gO (h 14 _ rfl) (by decide+kernel)) t15 (gO (h 16 _ rfl) (by decide+kernel)) (jS t17 (by decide)),aq]
 dsimp only
 rw [dP (i:=17) (by omega) hl t17,aq,rS (i:=18) (by omega) hl (dm (h 18 _ rfl) (.inr rfl)),aq,cond_true]
 dsimp only
 rw [Kp (p:=19) hl (by omega) (gO (h 19 _ rfl) (by decide+kernel)) (jS t20 (by decide)),aq]
 dsimp only
 rw [dP (i:=20) (by omega) hl t20,aq]
end
section
variable {l:List an} {hd:List UInt8} {f:Nat→Bool} {n:Nat}
theorem MC {m:Nat} {a:Int} {s:au} {c:bF} (hp:4<l.length) (h:bU (az l 4) j8=true) (hc:mG (yt l 4)=some (c,s)):kn (m+1) (yt l 4) a [] [] [] []=kn m s a [] [] [] [c]:=by
 unfold kn
 rw [ke.eq_2,dY,jT hp,h,cond_true,if_neg (by decide),aq,cond_true,hc,aq,if_pos (by show (0+1)*144≤140737488355328; decide)]
 rfl
theorem AU {s:au} {c:bF} (hl:l.length≤100000) (hp:21<l.length) (h: ∀ j x,KT[j]? =some x→strip (az l j)=x) (hc:mG (yt l 4)=some (c,s)) (k:Nat):iN (k+4) (yt l 0)=kn k s (az l 2).N [] [] [] [c]:=by
 have h4:bU (az l 4) j8=true:=dm (h 4 _ rfl) (.inr rfl)
 rw [M_ hl (by omega) (fun j x hx=>h j x (by
  obtain ⟨hj,_⟩:=List.getElem?_eq_some_iff.1 hx
  rw [← hx]
  exact (List.getElem?_append_left (l₁:=KS) (l₂:=KT.drop 4) hj))),My _ _ _ _ _ _ (by omega) (jS h4 (by decide)),Mz _ _ _ _ _ _ (by omega) (jS h4 (by decide)),MA _ _ _ _ _ _ (by omega) (jS h4 (by decide)),MC (by omega) h4 hc]
theorem Hr (T:TT l hd (fun e=>ce (f e)) KT [(3,iL,0)] (fun e=>KE (f e)) 15 2 n) (hn:n≤64): ∃ a c j,iM (yt l 0)=some (⟨a,[],[],[],[c]⟩,yt l j)∧c.Cells.length=n∧ ∀ i (h:i<c.Cells.length),nK (f i) c.Cells[i]:=by
 have hlen:l.length=21+15*n+1+1:=T.len
 have hl:l.length≤100000:=by omega
 obtain ⟨N,I,Rq,Rs,L,C,A,hh⟩:=AT hl (by omega) (fun j x hx=>T.head hx)
 obtain ⟨E,h1,h2,h3⟩:=zp (fun m s acc=>yC m s N I Rq Rs L C acc A) (fun e x=>nK (f e) x) 21 15 n (fun e acc he ha=>by
  have :=Nz (c:=15) he
  exact AP (f e) N I Rq Rs L C acc A hl (p:=21+15*e) (by omega) (fun j x hx=>T.line he hx) (by omega)) n (Nat.le_refl _)
 have hc:mG (yt l 4)=some (⟨N,I,Rq,Rs,L,C,E,A⟩,yt l (21+15*n+1)):=fY (n+1) fun k hk=>by
  obtain ⟨k,rfl⟩: ∃ j,k=j+1+n:=⟨k - 1 - n,by omega⟩
  show ou (k+1+n) (yt l 4)=_
  rw [hh]
  exact (h3 (k+1)).trans (Gk _ _ _ _ _ _ _ _ k hl (by omega) (dm (T.tail (j:=0) rfl) (.inl rfl)))
 refine ⟨(az l 2).N,⟨N,I,Rq,Rs,L,C,E,A⟩,21+15*n+1,fY 5 fun k hk=> ?_,h1,h2⟩
 obtain ⟨k,rfl⟩: ∃ j,k=j+1+4:=⟨k - 1 - 4,by omega⟩
 show iN (k+1+4) (yt l 0)=_
 rw [AU hl (by omega) (fun j x hx=>T.head hx) hc]
 exact MD _ _ _ _ _ k (by omega) (qq (T.tail (j:=1) rfl))
theorem Kh (T:TT l hd (fun e=>ce (f e)) KT [(3,iL,0)] (fun e=>KE (f e)) 15 2 n) (hn:64<n) (hn':n<70): ∃ s,iM (yt l 0)=some (s,yM l (21+15*64)):=by
 have hlen:l.length=21+15*n+1+1:=T.len
 have hl:l.length≤100000:=by omega
 obtain ⟨N,I,Rq,Rs,L,C,A,hh⟩:=AT hl (by omega) (fun j x hx=>T.head hx)
 obtain ⟨E,h1,h2,h3⟩:=zp (fun m s acc=>yC m s N I Rq Rs L C acc A) (fun e x=>nK (f e) x) 21 15 64 (fun e acc he ha=>
  AP (f e) N I Rq Rs L C acc A hl (p:=21+15*e) (by omega) (fun j x hx=>T.line (show e<n by omega) hx) (by omega)) 64 (Nat.le_refl _)
 have hc:mG (yt l 4)=some (⟨N,I,Rq,Rs,L,C,E,A⟩,yM l (21+15*64)):=fY (64+1) fun k hk=>by
  obtain ⟨k,rfl⟩: ∃ j,k=j+1+64:=⟨k - 1 - 64,by omega⟩
  show ou (k+1+64) (yt l 4)=_
  rw [hh]
  exact (h3 (k+1)).trans (Gl _ _ _ _ _ _ _ _ k (by omega) (dm (vV (fun j x hx=>T.line hn hx) rfl) (.inr rfl)) (by rw [h1]; rfl))
 refine ⟨⟨(az l 2).N,[],[],[],[⟨N,I,Rq,Rs,L,C,E,A⟩]⟩,fY 5 fun k hk=> ?_⟩
 obtain ⟨k,rfl⟩: ∃ j,k=j+1+4:=⟨k - 1 - 4,by omega⟩
 show iN (k+1+4) (yt l 0)=_
 rw [AU hl (by omega) (fun j x hx=>T.head hx) hc]
 exact MB _ _ _ _ _ k (vo l _)
end
end Go.Sy.Ex
namespace Go.Sy.Ex
open Go.Sy
def fZ (aU:List Int) (e:Nat):Bool:=decide (e<aU.length∧(aU.getD e 0).tmod 2=0)
def vA (ln:Nat→List UInt8) (e:Nat):Int:=if 64<e then ((eG jt ln 64).length:Int)+2 else 0
theorem Gi (b:Bool):(ce b).length=31:=by cases b <;> decide
theorem zV (f:Nat→Bool): ∀ i,(eG jt (fun e=>ce (f e)) i).length=59+31*i
 | 0=>by show jt.length=_; decide
 | i+1=>by rw [eG,List.length_append,zV f i,Gi]; omega
theorem AO (t:List UInt8) (b:Bool):t++ce b=((t++cz)++(bif b then iJ else eU))++eY:=by
 unfold ce; rw [List.append_assoc,List.append_assoc]
theorem AR (aU:List Int) {n:Nat} (hn:n<70): ∀ r e m,e+r=n→fX (m+r) aU (eG jt (fun e=>ce (fZ aU e)) e) (n:Int) (vA (fun e=>ce (fZ aU e)) e) (e:Int)=fX m aU (eG jt (fun e=>ce (fZ aU e)) n) (n:Int) (vA (fun e=>ce (fZ aU e)) n) (n:Int)
 | 0, e, m, h => by obtain rfl : e = n := by omega
                    rfl
 | r+1,e,m,h=>by
  have ih:=AR aU hn r (e+1) m (by omega)
  have hlen:=zV (fZ aU) e
  have c1:cz.length=7:=rfl
  have c2:iJ.length=1:=rfl
  have c3:eU.length=1:=rfl
  have c4:eY.length=23:=rfl
  have hw:aJ ((e:Int)+1)=((e+1:Nat):Int):=by rw [gD (by omega) (by omega)]; omega
  have hstep: ∀ v,v=vA (fun e=>ce (fZ aU e)) (e+1)→fX (m+r) aU (eG jt (fun e=>ce (fZ aU e)) e++ce (fZ aU e)) (n:Int) v (aJ ((e:Int)+1))=fX m aU (eG jt (fun e=>ce (fZ aU e)) n) (n:Int) (vA (fun e=>ce (fZ aU e)) n) (n:Int):=fun v hv=>by
   rw [hw,hv]; exact ih
  generalize hT:eG jt (fun e=>ce (fZ aU e)) e=T at *
  rw [show m+(r+1)=m+r+1 from by omega,fX.eq_2,if_pos (show (e:Int)<n by omega)]
  have b0:(T++cz).length+iJ.length≤9223372036854775807:=by rw [List.length_append]; omega
  have b1:((T++cz)++iJ).length+eY.length≤9223372036854775807:=by rw [List.length_append,List.length_append]; omega
  have b2:((T++cz)++eU).length+eY.length≤9223372036854775807:=by rw [List.length_append,List.length_append]; omega
  have b3:(T++cz).length+eU.length≤9223372036854775807:=by rw [List.length_append]; omega
  have b4:T.length+cz.length≤9223372036854775807:=by omega
  have hv:(if (e:Int)=64 then aJ ((T.length:Int)+2) else vA (fun e=>ce (fZ aU e)) e)=vA (fun e=>ce (fZ aU e)) (e+1):=by
   unfold vA
   by_cases jK:(e:Int)=64
   · rw [if_pos jK,if_pos (by omega),gD (by omega) (by omega)]
     obtain rfl:e=64:=by omega
     rw [← hT]
   · rw [if_neg jK]
     by_cases BW:64<e
     · rw [if_pos BW,if_pos (by omega)]
     · rw [if_neg BW,if_neg (by omega)]
  by_cases jK:(e:Int)=64
  · rw [if_pos jK] at hv ⊢
    have hs:=hstep _ hv
    rw [AO] at hs
    by_cases hr:(e:Int)<(aU.length:Int)
    · rw [if_pos hr,if_pos (by omega),if_pos hr,if_pos (by decide),Int.toNat_natCast]
      by_cases ht:(aU.getD e 0).tmod 2=0
      · rw [show fZ aU e=true from decide_eq_true ⟨by omega,ht⟩,cond_true] at hs
        rw [if_pos ht,if_pos b4,if_pos b0,if_pos b1,hs]
      · rw [show fZ aU e=false from decide_eq_false fun q=>ht q.2,cond_false] at hs
        rw [if_neg ht,if_pos b4,if_pos b3,if_pos b2,hs]
    · rw [show fZ aU e=false from decide_eq_false fun q=>hr (by omega),cond_false] at hs
      rw [if_neg hr,if_pos b4,if_pos b3,if_pos b2,hs]
  · rw [if_neg jK] at hv ⊢
    have hs:=hstep _ hv
    rw [AO] at hs
    by_cases hr:(e:Int)<(aU.length:Int)
    · rw [if_pos hr,if_pos (by omega),if_pos hr,if_pos (by decide),Int.toNat_natCast]
      by_cases ht:(aU.getD e 0).tmod 2=0
      · rw [show fZ aU e=true from decide_eq_true ⟨by omega,ht⟩,cond_true] at hs
        rw [if_pos ht,if_pos b4,if_pos b0,if_pos b1,hs]
      · rw [show fZ aU e=false from decide_eq_false fun q=>ht q.2,cond_false] at hs
        rw [if_neg ht,if_pos b4,if_pos b3,if_pos b2,hs]
    · rw [show fZ aU e=false from decide_eq_false fun q=>hr (by omega),cond_false] at hs
      rw [if_neg hr,if_pos b4,if_pos b3,if_pos b2,hs]
theorem AS (aU:List Int) (a:Int) (c:bF) {n:Nat} (hn:n<70) (hc:c.Cells.length=n) (hP: ∀ i (h:i<c.Cells.length),nK (fZ aU i) c.Cells[i]): ∀ r e m,e+r=n→l8 (m+1+r) aU (n:Int) a [] [] [] [c] (e:Int)=some true
 | 0,e,m,h=>by
  rw [Nat.add_zero,l8.eq_2,if_neg (by omega),CM]; rfl
 | r+1,e,m,h=>by
  have ih:=AS aU a c hn hc hP r (e+1) m (by omega)
  have hw:aJ ((e:Int)+1)=((e+1:Nat):Int):=by rw [gD (by omega) (by omega)]; omega
  obtain ⟨h1,h2,h3⟩:=hP e (by omega)
  have hx:c.Cells.getD e b_.z=c.Cells[e]'(by omega):=by rw [List.getD_eq_getElem?_getD,List.getElem?_eq_getElem (by omega)]; rfl
  rw [← hx] at h1 h2 h3
  have hc0: [c].getD (0:Int).toNat bF.z=c:=rfl
  rw [show m+1+(r+1)=m+1+r+1 from by omega,l8.eq_2,if_pos (show (e:Int)<n by omega),hc0,Int.toNat_natCast,h1,h2,h3,
   if_pos (by decide),if_pos (by show (0:Int)<((1:Nat):Int); decide),if_pos (by omega),if_pos (by omega),if_neg (by decide),if_pos (by decide),if_pos (by decide),if_neg (by decide),if_pos (by decide),if_pos (by decide),if_pos (by decide),if_pos (by decide),if_neg (by decide),
   if_pos (by decide),if_pos (by decide),if_neg (by decide),if_neg (by decide),if_pos (by decide),if_pos (by decide),if_neg (by decide)]
  have hz: ∀ b:Bool,(decide ((bif b then (0:Int) else 7)=0))=b:=by decide
  rw [hz,hw]
  by_cases hr:(e:Int)<(aU.length:Int)
  · rw [if_pos hr,if_pos (by omega),if_pos hr,if_pos (by decide)]
    have :fZ aU e=decide ((aU.getD e 0).tmod 2=0):=by
     unfold fZ
     rw [decide_eq_decide]
     exact ⟨fun q=>q.2,fun q=>⟨by omega,q⟩⟩
    rw [this,if_neg (fun q=>q rfl)]
    exact ih
  · rw [if_neg hr]
    have :fZ aU e=false:=decide_eq_false fun q=>hr (by omega)
    rw [this,if_neg (fun q=>q rfl)]
    exact ih
theorem Il:Lx jt KT:=tH 40 (by decide+kernel)
theorem Gh (b:Bool):Lx (ce b) (KE b):=by cases b <;> exact tH 40 (by decide+kernel)
theorem Gp {n:Int} (hn:0≤n∧n≤255) (aU:List Int):yf n aU=some true:=fY 200 fun k hk=>by
 show tE k n aU=_
 unfold tE
 have Jg:aJ n=n:=gD (by omega) (by omega)
 have HP:n.tmod 70=n % 70:=Int.tmod_eq_emod_of_nonneg hn.1
 obtain ⟨q,hq⟩: ∃ q:Nat,(q:Int)=n % 70:=⟨(n % 70).toNat,by omega⟩
 have xN:q<70:=by omega
 obtain ⟨k,rfl⟩: ∃ j,k=j+1+q+1+q:=⟨k - 2 - q - q,by omega⟩
 rw [if_pos (by decide),Jg,HP, ← hq]
 refine (AR aU xN q 0 (k+1+q+1) (by omega)).trans ?_
 have hlen:=zV (fZ aU) q
 have hr:uV.length=2:=rfl
 obtain ⟨l,ha,T⟩:=Ny (KR:= [(3,iL,0)]) (tr:=uV) (ln:=fun e=>ce (fZ aU e)) (K:=fun e=>KE (fZ aU e)) (c:=15) (o:=2) Il (fun e=>Gh _) (tH 4 (by decide)) (fun e=>by cases fZ aU e <;> rfl) (by decide) (fun e=>by cases fZ aU e <;> decide) (by decide) (fun e=>by cases fZ aU e <;> decide) q (by rw [List.length_append]; omega)
 rw [fX.eq_2,if_neg (by omega),if_pos (by omega)]
 by_cases jK:64<q
 · obtain ⟨s,hs⟩:=Kh T jK xN
   have hp:=T.pl 64 jK
   have hv:(az l (21+15*64)).At=vA (fun e=>ce (fZ aU e)) q:=by
    unfold vA
    rw [if_pos jK]
    exact hp
   rw [KO ha hs,aq,if_pos (by omega),if_pos ⟨rfl,hv⟩,CM,aq]
 · obtain ⟨a,c,j,hs,h1,h2⟩:=Hr T (by omega)
   rw [KP ha hs,aq,if_neg (by omega),if_neg (show ¬ (0:Int)≠0 by decide),if_neg (by show ¬ ((1:Nat):Int)≠1; decide),if_pos (by decide),if_pos (by show (0:Int)<((1:Nat):Int); decide),if_neg (by
    show ¬ (c.Cells.length:Int)≠(q:Int)
    rw [h1]; exact fun q=>q rfl)]
   exact AS aU a c xN h1 h2 q 0 k (by omega)
end Go.Sy.Ex
