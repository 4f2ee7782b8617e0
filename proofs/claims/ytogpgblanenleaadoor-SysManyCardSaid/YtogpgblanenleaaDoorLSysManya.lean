import Derived.Shelf.Small.Strs
import Derived.Shelf.Strconv.Itoa0
import Derived.Shelf.Strconv.Itoa1
import Derived.Shelf.LaysM
import Derived.Shelf.Strconv.Itoa2
import Derived.Shelf.Strconv.Itoa3
import Derived.Shelf.Strconv.ParseIntEmpty
import Derived.Shelf.Strconv.Clone
import Derived.Shelf.Strconv.SyntaxError
import Derived.Shelf.LaysC
import Derived.Shelf.Strconv.ToError
import Derived.Shelf.Strconv.Lower
import Derived.Shelf.Strconv.ParseUint10
import Derived.Shelf.Strconv.ParseUint10Empty
import Derived.Shelf.Strconv.ParseUint10Any
import Derived.Shelf.Strconv.ParseInt10
import Derived.Shelf.Strconv.RangeError
import Derived.Shelf.Strconv.ToErrorRange
import Derived.Shelf.Strconv.ParseUintEmpty
import Derived.Shelf.Strconv.ParseUint10b64
import Derived.Shelf.Strconv.ParseUint10b32
import Derived.Shelf.Strconv.ParseUint10b16
import Derived.Shelf.Strconv.ParseUint10b8
import Derived.Shelf.Strconv.ParseUint10At
import Derived.Shelf.Strconv.ParseInt10At64
import Derived.Shelf.Strconv.ParseInt10At32
import Derived.Shelf.Strconv.ParseInt10At16
import Derived.Shelf.Strconv.ParseInt10At8
import Derived.Shelf.Strconv.ParseInt10All
import Derived.Shelf.Strconv.ParseIntPublic10
import Derived.Shelf.Strings.Search1
import Derived.Shelf.Strings.Search2
import Derived.Shelf.Strings.Search3
import Derived.Shelf.Strings.Shaped
import Derived.Lib.ItoaMem
import Derived.Stop.LaidErr
import Derived.Shelf.Vars
import Derived.MakeChecks
import Derived.LaidHandle
import Derived.ChangeSame
import Derived.ChangeVars
import Derived.JoinedOf
import Derived.RowKit
import Derived.HandedShaped
import Derived.LaidMore
import Derived.LaidLaws
import Derived.Lay
import Derived.Lib.ParseIntB
import Derived.Test.YtogpgblanenleaaDoorProg
import Derived.Test.YtogpgblanenleaaDoorRows
import Derived.Test.YtogpgblanenleaaDoorSc
set_option linter.unusedVariables false
set_option linter.unusedSimpArgs false
/-
 DERIVED:THE SHELF's CONTRACTS AT THIS DUMP,IN PLAIN WORDS (tools/lay-plain.mjs out of 'XAcL.lean',which tools/lay-shelf.mjs wrote):THE SAME DECLARATIONS UNDER THE SAME NAMES: 'import', 'namespace', 'open', 'def', 'theorem' AND NOTHING ELSE:no command of the shelf's:FOR A HAND-IN. Each laying:the table of numbers ('.._ren') and one theorem,a field a fact of the dump's own or the kernel's comparison; each contract:ONE APPLICATION.
-/
namespace Go.Proofs
open Go.Shelf
def Tryd.JQ:Go.Shelf.Ren:=⟨fun | 137=>22 | 217=>35 | 266=>42 | n=>n,fun | 9=>9 | 5=>5 | 3=>3 | n=>n,fun | n=>n⟩
theorem Tryd.JP:Go.Proofs.Lays.n137 Tryd.prog Tryd.JQ:= {
 mixed:=by kernel_rfl
 f137:=Tryd.func22.trans (congrArg some (by kernel_rfl))
 f217:=Tryd.func35.trans (congrArg some (by kernel_rfl))
 f266:=Tryd.func42.trans (congrArg some (by kernel_rfl))
 t3:=Tryd.underlying3
 a3:=Tryd.isAgg3
 z3:=Tryd.sizeOf3
 v3:=Tryd.zeroValue3
 t5:=Tryd.underlying5
 a5:=Tryd.isAgg5
 z5:=Tryd.sizeOf5
 v5:=Tryd.zeroValue5
 t9:=Tryd.underlying9
 a9:=Tryd.isAgg9
 z9:=Tryd.sizeOf9
 v9:=Tryd.zeroValue9 }
open Go.RowKit in
theorem Tryd.strings_IndexByte (s:ByteArray) (c:Int) (w:World):
 Calls Tryd.prog 22 #[.string s, .int .u8 c] w fun e w'=>e= .returned (.int .i64 (Lib.indexByte s.data.toList c.toNat.toUInt8))∧w'=w:=Any.strings_IndexByte Tryd.JP s c w
def Tryd.JS:Go.Shelf.Ren:=⟨fun | 144=>37 | 143=>45 | 219=>54 | 217=>35 | 225=>62 | 224=>63 | 267=>64 | 266=>42 | 314=>69 | n=>n,fun | 9=>9 | 4=>4 | 3=>3 | 5=>5 | 46=>117 | 146=>145 | 51=>144 | n=>n,fun | 1=>0 | n=>n⟩
theorem Tryd.JR:Go.Proofs.Lays.n144 Tryd.prog Tryd.JS:= {
 mixed:=by kernel_rfl
 f143:=Tryd.func45.trans (congrArg some (by kernel_rfl))
 f144:=Tryd.func37.trans (congrArg some (by kernel_rfl))
 f217:=Tryd.func35.trans (congrArg some (by kernel_rfl))
 f219:=Tryd.func54.trans (congrArg some (by kernel_rfl))
 f224:=Tryd.func63.trans (congrArg some (by kernel_rfl))
 f225:=Tryd.func62.trans (congrArg some (by kernel_rfl))
 f266:=Tryd.func42.trans (congrArg some (by kernel_rfl))
 f267:=Tryd.func64.trans (congrArg some (by kernel_rfl))
 f314:=Tryd.func69.trans (congrArg some (by kernel_rfl))
 t3:=Tryd.underlying3
 a3:=Tryd.isAgg3
 z3:=Tryd.sizeOf3
 v3:=Tryd.zeroValue3
 t4:=Tryd.underlying4
 a4:=Tryd.isAgg4
 z4:=Tryd.sizeOf4
 v4:=Tryd.zeroValue4
 t5:=Tryd.underlying5
 a5:=Tryd.isAgg5
 z5:=Tryd.sizeOf5
 v5:=Tryd.zeroValue5
 t9:=Tryd.underlying9
 a9:=Tryd.isAgg9
 z9:=Tryd.sizeOf9
 v9:=Tryd.zeroValue9
 t46:=Tryd.underlying117
 a46:=Tryd.isAgg117
 z46:=Tryd.sizeOf117
 v46:=Tryd.zeroValue117
 t51:=Tryd.underlying144
 a51:=Tryd.isAgg144
 z51:=Tryd.sizeOf144
 v51:=Tryd.zeroValue144
 t146:=Tryd.underlying145
 a146:=Tryd.isAgg145
 z146:=Tryd.sizeOf145
 v146:=Tryd.zeroValue145
 g1:=by kernel_rfl }
open Go.RowKit Go.Lib in
theorem Tryd.strings_Contains (s sub:ByteArray) (m:Int) (w:World) (hs:s.size<4294967281) (hm:w.cell? ⟨0,0,none⟩=some (.int .i64 m)):
 Calls Tryd.prog 37 #[.string s, .string sub] w fun e w'=>e= .returned (.bool (Lib.contains s.data.toList sub.data.toList))∧w'=w:=Any.strings_Contains Tryd.JR s sub m w hs hm
def Tryd.JT:Go.Shelf.Ren:=⟨fun | 174=>36 | 247=>43 | 245=>44 | 287=>49 | 279=>50 | 280=>51 | 281=>52 | 282=>53 | 321=>57 | 322=>58 | 316=>59 | 171=>61 | 205=>60 | 243=>68 | 246=>72 | 283=>76 | 284=>77 | 285=>78 | 286=>79 | 129=>87 | 317=>86 | 318=>88 | 319=>89 | 320=>90 | 337=>91 | 338=>92 | n=>n,fun | 9=>9 | 3=>3 | 2=>2 | 75=>95 | 85=>96 | 4=>4 | 167=>113 | 5=>5 | 53=>114 | 175=>115 | 46=>117 | 168=>118 | 37=>37 | 0=>0 | 210=>129 | 21=>21 | 127=>140 | 145=>143 | 143=>141 | 171=>161 | 173=>164 | 212=>170 | 51=>144 | 20=>20 | 213=>171 | 232=>174 | 233=>175 | 80=>88 | n=>n,fun | 15=>1 | 16=>2 | 17=>3 | 18=>4 | 19=>5 | n=>n⟩
theorem Tryd.xZ:Go.Proofs.LaysC.n174 Tryd.prog Tryd.JT:= {
 mixed:=by kernel_rfl
 f129:=Tryd.func87.trans (congrArg some (by kernel_rfl))
 f171:=Tryd.func61.trans (congrArg some (by kernel_rfl))
 f174:=Tryd.func36.trans (congrArg some (by kernel_rfl))
 f205:=Tryd.func60.trans (congrArg some (by kernel_rfl))
 f243:=Tryd.func68.trans (congrArg some (by kernel_rfl))
 f245:=Tryd.func44.trans (congrArg some (by kernel_rfl))
 f246:=Tryd.func72.trans (congrArg some (by kernel_rfl))
 f247:=Tryd.func43.trans (congrArg some (by kernel_rfl))
 f279:=Tryd.func50.trans (congrArg some (by kernel_rfl))
 f280:=Tryd.func51.trans (congrArg some (by kernel_rfl))
 f281:=Tryd.func52.trans (congrArg some (by kernel_rfl))
 f282:=Tryd.func53.trans (congrArg some (by kernel_rfl))
 f283:=Tryd.func76.trans (congrArg some (by kernel_rfl))
 f284:=Tryd.func77.trans (congrArg some (by kernel_rfl))
 f285:=Tryd.func78.trans (congrArg some (by kernel_rfl))
 f286:=Tryd.func79.trans (congrArg some (by kernel_rfl))
 f287:=Tryd.func49.trans (congrArg some (by kernel_rfl))
 f316:=Tryd.func59.trans (congrArg some (by kernel_rfl))
 f317:=Tryd.func86.trans (congrArg some (by kernel_rfl))
 f318:=Tryd.func88.trans (congrArg some (by kernel_rfl))
 f319:=Tryd.func89.trans (congrArg some (by kernel_rfl))
 f320:=Tryd.func90.trans (congrArg some (by kernel_rfl))
 f321:=Tryd.func57.trans (congrArg some (by kernel_rfl))
 f322:=Tryd.func58.trans (congrArg some (by kernel_rfl))
 f337:=Tryd.func91.trans (congrArg some (by kernel_rfl))
 f338:=Tryd.func92.trans (congrArg some (by kernel_rfl))
 t0:=Tryd.underlying0
 a0:=Tryd.isAgg0
 z0:=Tryd.sizeOf0
 v0:=Tryd.zeroValue0
 t2:=Tryd.underlying2
 a2:=Tryd.isAgg2
 z2:=Tryd.sizeOf2
 v2:=Tryd.zeroValue2
 t3:=Tryd.underlying3
 a3:=Tryd.isAgg3
 z3:=Tryd.sizeOf3
 v3:=Tryd.zeroValue3
 t4:=Tryd.underlying4
 a4:=Tryd.isAgg4
 z4:=Tryd.sizeOf4
 v4:=Tryd.zeroValue4
 t5:=Tryd.underlying5
 a5:=Tryd.isAgg5
 z5:=Tryd.sizeOf5
 v5:=Tryd.zeroValue5
 t9:=Tryd.underlying9
 a9:=Tryd.isAgg9
 z9:=Tryd.sizeOf9
 v9:=Tryd.zeroValue9
 t20:=Tryd.underlying20
 a20:=Tryd.isAgg20
 z20:=Tryd.sizeOf20
 v20:=Tryd.zeroValue20
 t21:=Tryd.underlying21
 a21:=Tryd.isAgg21
 z21:=Tryd.sizeOf21
 v21:=Tryd.zeroValue21
 t37:=Tryd.underlying37
 a37:=Tryd.isAgg37
 z37:=Tryd.sizeOf37
 v37:=Tryd.zeroValue37
 t46:=Tryd.underlying117
 a46:=Tryd.isAgg117
 z46:=Tryd.sizeOf117
 v46:=Tryd.zeroValue117
 t51:=Tryd.underlying144
 a51:=Tryd.isAgg144
 z51:=Tryd.sizeOf144
 v51:=Tryd.zeroValue144
 t53:=Tryd.underlying114
 a53:=Tryd.isAgg114
 z53:=Tryd.sizeOf114
 v53:=Tryd.zeroValue114
 t75:=Tryd.underlying95
 a75:=Tryd.isAgg95
 z75:=Tryd.sizeOf95
 v75:=Tryd.zeroValue95
 t85:=Tryd.underlying96
 a85:=Tryd.isAgg96
 z85:=Tryd.sizeOf96
 v85:=Tryd.zeroValue96
 t127:=Tryd.underlying140
 a127:=Tryd.isAgg140
 z127:=Tryd.sizeOf140
 v127:=Tryd.zeroValue140
 t143:=Tryd.underlying141
 a143:=Tryd.isAgg141
 z143:=Tryd.sizeOf141
 v143:=Tryd.zeroValue141
 t145:=Tryd.underlying143
 a145:=Tryd.isAgg143
 z145:=Tryd.sizeOf143
 v145:=Tryd.zeroValue143
 t167:=Tryd.underlying113
 a167:=Tryd.isAgg113
 z167:=Tryd.sizeOf113
 v167:=Tryd.zeroValue113
 t168:=Tryd.underlying118
 a168:=Tryd.isAgg118
 z168:=Tryd.sizeOf118
 v168:=Tryd.zeroValue118
 t171:=Tryd.underlying161
 a171:=Tryd.isAgg161
 z171:=Tryd.sizeOf161
 v171:=Tryd.zeroValue161
 t173:=Tryd.underlying164
 a173:=Tryd.isAgg164
 z173:=Tryd.sizeOf164
 v173:=Tryd.zeroValue164
 t175:=Tryd.underlying115
 a175:=Tryd.isAgg115
 z175:=Tryd.sizeOf115
 v175:=Tryd.zeroValue115
 t210:=Tryd.underlying129
 a210:=Tryd.isAgg129
 z210:=Tryd.sizeOf129
 v210:=Tryd.zeroValue129
 t212:=Tryd.underlying170
 a212:=Tryd.isAgg170
 z212:=Tryd.sizeOf170
 v212:=Tryd.zeroValue170
 t213:=Tryd.underlying171
 a213:=Tryd.isAgg171
 z213:=Tryd.sizeOf171
 t232:=Tryd.underlying174
 a232:=Tryd.isAgg174
 z232:=Tryd.sizeOf174
 v232:=Tryd.zeroValue174
 t233:=Tryd.underlying175
 a233:=Tryd.isAgg175
 z233:=Tryd.sizeOf175
 v233:=Tryd.zeroValue175
 g15:=by kernel_rfl
 g16:=by kernel_rfl
 g17:=by kernel_rfl
 g18:=by kernel_rfl
 g19:=by kernel_rfl
 t80:=Tryd.underlying88
 a80:=Tryd.isAgg88
 z80:=Tryd.sizeOf88
 v80:=Tryd.zeroValue88
 i0:=by kernel_rfl
 i2:=by kernel_rfl
 i3:=by kernel_rfl
 i4:=by kernel_rfl
 i5:=by kernel_rfl
 i9:=by kernel_rfl
 i20:=by kernel_rfl
 i21:=by kernel_rfl
 i37:=by kernel_rfl
 i46:=by kernel_rfl
 i51:=by kernel_rfl
 i53:=by kernel_rfl
 i75:=by kernel_rfl
 i80:=by kernel_rfl
 i85:=by kernel_rfl
 i127:=by kernel_rfl
 i143:=by kernel_rfl
 i145:=by kernel_rfl
 i167:=by kernel_rfl
 i168:=by kernel_rfl
 i171:=by kernel_rfl
 i173:=by kernel_rfl
 i175:=by kernel_rfl
 i210:=by kernel_rfl
 i212:=by kernel_rfl
 i232:=by kernel_rfl
 i233:=by kernel_rfl
 m15:=by kernel_rfl
 m16:=by kernel_rfl
 m17:=by kernel_rfl
 m18:=by kernel_rfl
 m19:=by kernel_rfl
 c0:=by kernel_rfl
 c2:=by kernel_rfl
 c3:=by kernel_rfl
 c4:=by kernel_rfl
 c5:=by kernel_rfl
 c9:=by kernel_rfl
 c20:=by kernel_rfl
 c21:=by kernel_rfl
 c37:=by kernel_rfl
 c46:=by kernel_rfl
 c51:=by kernel_rfl
 c53:=by kernel_rfl
 c75:=by kernel_rfl
 c80:=by kernel_rfl
 c85:=by kernel_rfl
 c127:=by kernel_rfl
 c143:=by kernel_rfl
 c145:=by kernel_rfl
 c167:=by kernel_rfl
 c168:=by kernel_rfl
 c171:=by kernel_rfl
 c173:=by kernel_rfl
 c175:=by kernel_rfl
 c210:=by kernel_rfl
 c212:=by kernel_rfl
 c213:=by kernel_rfl
 c232:=by kernel_rfl
 c233:=by kernel_rfl }
open Go.RowKit in
theorem Tryd.strconv_ParseInt_10_at64_ok (s:ByteArray) (hmax:s.size≤9223372036854775806) (v:Int) (h:Lib.parseIntB 64 s.data.toList= .ok v) (w:World):
 Calls Tryd.prog 36 #[.string s, .int .i64 10, .int .i64 64] w fun e w'=>e= .returned (.tuple #[.int .i64 v, .nilIface])∧(w'=w∨ ∃ t,w'=Lib.bytesWorld w 5 t):=Any.strconv_ParseInt_10_at64_ok Tryd.xZ s hmax v h w
open Go.RowKit in
theorem Tryd.strconv_ParseInt_10_at64_range (s:ByteArray) (hlim:s.size≤281474976710656) (h:Lib.parseIntB 64 s.data.toList= .range) (ev:Value) (w:World) (hv:w.cell? ⟨2,0,none⟩=some ev) (hev:ev= .nilIface∨ ∃ te pe,ev= .iface te pe):
 Calls Tryd.prog 36 #[.string s, .int .i64 10, .int .i64 64] w fun e w'=> ∃ N,e= .returned (.tuple #[.int .i64 (Lib.intSat 64 s.data.toList), .iface 118 (.pointer (some ⟨N,0,none⟩))])∧w.heap.size≤N∧w'.heap[N]? =some (.cells #[.string ⟨#[80,97,114,115,101,73,110,116]⟩, .string s,ev] 129 (0,0))∧Below w.heap.size w w':=Any.strconv_ParseInt_10_at64_range Tryd.xZ s hlim h ev w hv hev
end Go.Proofs
namespace Go.Proofs
open Go.Shelf
end Go.Proofs
set_option maxRecDepth 100000
namespace Go.Sy.Ex
open Go.Sy Go.Proofs
noncomputable section
structure cT where
 Name:List UInt8
 N:Int
 At:Int
 deriving DecidableEq
def cT.z:cT:=⟨[],0,0⟩
structure aS where
 Kind:Int
 N:Int
 Name:List UInt8
 Kids:List aS
 At:Int
def aS.z:aS:=⟨0,0,[],[],0⟩
structure aQ where
 Kind:Int
 Name:List UInt8
 Event:List UInt8
 X:List aS
 N:Int
 oW:List aQ
 lH:List aQ
 At:Int
def aQ.z:aQ:=⟨0,[],[],[],0,[],[],0⟩
structure cE where
 Event:List UInt8
 Guard:List aS
 Target:List UInt8
 Ff:List aQ
 At:Int
def cE.z:cE:=⟨[],[],[],[],0⟩
structure bX where
 Kind:Int
 Name:List UInt8
 Entry:List aQ
 Exit:List aQ
 Trans:List cE
 Kids:List bX
 At:Int
def bX.z:bX:=⟨0,[],[],[],[],[],0⟩
structure cD where
 Name:List UInt8
 Steps:Int
 Fuel:Int
 Vars:List cT
 Fs:List cT
 FD:List cT
 FC:List bX
 At:Int
def cD.z:cD:=⟨[],0,0,[],[],[],[],0⟩
structure dr where
 Name:List UInt8
 Fh:List UInt8
 Fv:Int
 Ext:Int
 Prio:Int
 At:Int
 deriving DecidableEq
def dr.z:dr:=⟨[],[],0,0,0,0⟩
structure dn where
 Name:List UInt8
 bM:List UInt8
 Port:List UInt8
 To:List UInt8
 Cap:Int
 Prio:Int
 At:Int
 deriving DecidableEq
def dn.z:dn:=⟨[],[],[],[],0,0,0⟩
structure eT where
 Fx:Int
 Sets:List (List (List UInt8))
 Fp:List (List (List UInt8))
 At:Int
 deriving DecidableEq
def eT.z:eT:=⟨0,[],[],0⟩
structure dm where
 Name:List UInt8
 Fj:List UInt8
 Fy:List UInt8
 Fz:List UInt8
 Insts:List (List UInt8)
 iS:List (List UInt8)
 Cells:List eT
 At:Int
 deriving DecidableEq
def dm.z:dm:=⟨[],[],[],[],[],[],[],0⟩
structure cU where
 zX:Int
 ia:List cD
 Insts:List dr
 iS:List dn
 Fg:List dm
def cU.z:cU:=⟨0,[],[],[],[]⟩
structure aR where
 Code:Int
 At:Int
 deriving DecidableEq
def aR.z:aR:=⟨0,0⟩
structure an where
 Kind:Int
 At:Int
 End:Int
 Text:List UInt8
 N:Int
 deriving DecidableEq
def an.z:an:=⟨0,0,0,[],0⟩
structure aV where
 L:List an
 At:Int
 aj:aR
 deriving DecidableEq
def aV.z:aV:=⟨[],0,aR.z⟩
structure av where
 Row:aV
 deriving DecidableEq
def av.z:av:=⟨aV.z⟩
structure aA where
 Row:aV
 deriving DecidableEq
def aA.z:aA:=⟨aV.z⟩
structure aM where
 Row:aV
 cS:Int
 deriving DecidableEq
def aM.z:aM:=⟨aV.z,0⟩
structure aP where
 Row:aV
 cS:Int
 deriving DecidableEq
def aP.z:aP:=⟨aV.z,0⟩
def C:Nat→Type
 | 0=>List UInt8×List UInt8×List UInt8
 | 1=>Int×Int×Int
 | 2=>cU
 | 3=>cD
 | 4=>cT
 | 5=>bX
 | 6=>aQ
 | 7=>aS
 | 8=>cE
 | 9=>dr
 | 10=>dn
 | 11=>dm
 | 12=>eT
 | 13=>aR
 | 14=>an
 | 15=>aV
 | 16=>av
 | 17=>aA
 | 18=>aM
 | 19=>aP
 | _+20=>Unit
def F:Nat→List Ty
 | 0=> [.str, .str, .str]
 | 1=> [.int .i64, .int .i64, .int .i64]
 | 2=> [.int .i64, .sl (.st 3), .sl (.st 9), .sl (.st 10), .sl (.st 11)]
 | 3=> [.str, .int .i64, .int .i64, .sl (.st 4), .sl (.st 4), .sl (.st 4), .sl (.st 5), .int .i64]
 | 4=> [.str, .int .i64, .int .i64]
 | 5=> [.int .i64, .str, .sl (.st 6), .sl (.st 6), .sl (.st 8), .sl (.st 5), .int .i64]
 | 6=> [.int .i64, .str, .str, .sl (.st 7), .int .i64, .sl (.st 6), .sl (.st 6), .int .i64]
 | 7=> [.int .i64, .int .i64, .str, .sl (.st 7), .int .i64]
 | 8=> [.str, .sl (.st 7), .str, .sl (.st 6), .int .i64]
 | 9=> [.str, .str, .int .i64, .int .i64, .int .i64, .int .i64]
 | 10=> [.str, .str, .str, .str, .int .i64, .int .i64, .int .i64]
 | 11=> [.str, .str, .str, .str, .sl .str, .sl .str, .sl (.st 12), .int .i64]
 | 12=> [.int .i64, .sl (.sl .str), .sl (.sl .str), .int .i64]
 | 13=> [.int .i64, .int .i64]
 | 14=> [.int .i64, .int .i64, .int .i64, .str, .int .i64]
 | 15=> [.sl (.st 14), .int .i64, .int .i64, .int .i64]
 | 16=> [.sl (.st 14), .int .i64, .int .i64, .int .i64]
 | 17=> [.sl (.st 14), .int .i64, .int .i64, .int .i64]
 | 18=> [.sl (.st 14), .int .i64, .int .i64, .int .i64, .int .i64]
 | 19=> [.sl (.st 14), .int .i64, .int .i64, .int .i64, .int .i64]
 | _+20=> []
def ex:(t:Nat)→C t→ag C (F t)
 | 0,(x:List UInt8×List UInt8×List UInt8)=>(x.1,x.2.1,x.2.2)
 | 1,(x:Int×Int×Int)=>(x.1,x.2.1,x.2.2)
 | 2,(x:cU)=>(x.zX,x.ia,x.Insts,x.iS,x.Fg)
 | 3,(x:cD)=>(x.Name,x.Steps,x.Fuel,x.Vars,x.Fs,x.FD,x.FC,x.At)
 | 4,(x:cT)=>(x.Name,x.N,x.At)
 | 5,(x:bX)=>(x.Kind,x.Name,x.Entry,x.Exit,x.Trans,x.Kids,x.At)
 | 6,(x:aQ)=>(x.Kind,x.Name,x.Event,x.X,x.N,x.oW,x.lH,x.At)
 | 7,(x:aS)=>(x.Kind,x.N,x.Name,x.Kids,x.At)
 | 8,(x:cE)=>(x.Event,x.Guard,x.Target,x.Ff,x.At)
 | 9,(x:dr)=>(x.Name,x.Fh,x.Fv,x.Ext,x.Prio,x.At)
 | 10,(x:dn)=>(x.Name,x.bM,x.Port,x.To,x.Cap,x.Prio,x.At)
 | 11,(x:dm)=>(x.Name,x.Fj,x.Fy,x.Fz,x.Insts,x.iS,x.Cells,x.At)
 | 12,(x:eT)=>(x.Fx,x.Sets,x.Fp,x.At)
 | 13,(x:aR)=>(x.Code,x.At)
 | 14,(x:an)=>(x.Kind,x.At,x.End,x.Text,x.N)
 | 15,(x:aV)=>(x.L,x.At,x.aj.Code,x.aj.At)
 | 16,(x:av)=>(x.Row.L,x.Row.At,x.Row.aj.Code,x.Row.aj.At)
 | 17,(x:aA)=>(x.Row.L,x.Row.At,x.Row.aj.Code,x.Row.aj.At)
 | 18,(x:aM)=>(x.Row.L,x.Row.At,x.Row.aj.Code,x.Row.aj.At,x.cS)
 | 19,(x:aP)=>(x.Row.L,x.Row.At,x.Row.aj.Code,x.Row.aj.At,x.cS)
 | _+20,_=>()
def im:(t:Nat)→ag C (F t)→C t
 | 0,(a0,a1,a2)=>(a0,a1,a2)
 | 1,(a0,a1,a2)=>(a0,a1,a2)
 | 2,(a0,a1,a2,a3,a4)=>cU.mk a0 a1 a2 a3 a4
 | 3,(a0,a1,a2,a3,a4,a5,a6,a7)=>cD.mk a0 a1 a2 a3 a4 a5 a6 a7
 | 4,(a0,a1,a2)=>cT.mk a0 a1 a2
 | 5,(a0,a1,a2,a3,a4,a5,a6)=>bX.mk a0 a1 a2 a3 a4 a5 a6
 | 6,(a0,a1,a2,a3,a4,a5,a6,a7)=>aQ.mk a0 a1 a2 a3 a4 a5 a6 a7
 | 7,(a0,a1,a2,a3,a4)=>aS.mk a0 a1 a2 a3 a4
 | 8,(a0,a1,a2,a3,a4)=>cE.mk a0 a1 a2 a3 a4
 | 9,(a0,a1,a2,a3,a4,a5)=>dr.mk a0 a1 a2 a3 a4 a5
 | 10,(a0,a1,a2,a3,a4,a5,a6)=>dn.mk a0 a1 a2 a3 a4 a5 a6
 | 11,(a0,a1,a2,a3,a4,a5,a6,a7)=>dm.mk a0 a1 a2 a3 a4 a5 a6 a7
 | 12,(a0,a1,a2,a3)=>eT.mk a0 a1 a2 a3
 | 13,(a0,a1)=>aR.mk a0 a1
 | 14,(a0,a1,a2,a3,a4)=>an.mk a0 a1 a2 a3 a4
 | 15,(a0,a1,a2,a3)=>aV.mk a0 a1 (aR.mk a2 a3)
 | 16,(a0,a1,a2,a3)=>av.mk (aV.mk a0 a1 (aR.mk a2 a3))
 | 17,(a0,a1,a2,a3)=>aA.mk (aV.mk a0 a1 (aR.mk a2 a3))
 | 18,(a0,a1,a2,a3,a4)=>aM.mk (aV.mk a0 a1 (aR.mk a2 a3)) a4
 | 19,(a0,a1,a2,a3,a4)=>aP.mk (aV.mk a0 a1 (aR.mk a2 a3)) a4
 | _+20,_=>()
def ec:Nat→List (Nat×Ty)
 | 0=>k7 (.str) 3 0
 | 1=>k7 (.int .i64) 3 0
 | 2=> [(0, .int .i64),(1, .sl (.st 3)),(2, .sl (.st 9)),(3, .sl (.st 10)),(4, .sl (.st 11))]
 | 3=> [(0, .str),(1, .int .i64),(2, .int .i64),(3, .sl (.st 4)),(4, .sl (.st 4)),(5, .sl (.st 4)),(6, .sl (.st 5)),(7, .int .i64)]
 | 4=> [(0, .str),(1, .int .i64),(2, .int .i64)]
 | 5=> [(0, .int .i64),(1, .str),(2, .sl (.st 6)),(3, .sl (.st 6)),(4, .sl (.st 8)),(5, .sl (.st 5)),(6, .int .i64)]
 | 6=> [(0, .int .i64),(1, .str),(2, .str),(3, .sl (.st 7)),(4, .int .i64),(5, .sl (.st 6)),(6, .sl (.st 6)),(7, .int .i64)]
 | 7=> [(0, .int .i64),(1, .int .i64),(2, .str),(3, .sl (.st 7)),(4, .int .i64)]
 | 8=> [(0, .str),(1, .sl (.st 7)),(2, .str),(3, .sl (.st 6)),(4, .int .i64)]
 | 9=> [(0, .str),(1, .str),(2, .int .i64),(3, .int .i64),(4, .int .i64),(5, .int .i64)]
 | 10=> [(0, .str),(1, .str),(2, .str),(3, .str),(4, .int .i64),(5, .int .i64),(6, .int .i64)]
 | 11=> [(0, .str),(1, .str),(2, .str),(3, .str),(4, .sl .str),(5, .sl .str),(6, .sl (.st 12)),(7, .int .i64)]
 | 12=> [(0, .int .i64),(1, .sl (.sl .str)),(2, .sl (.sl .str)),(3, .int .i64)]
 | 13=> [(0, .int .i64),(1, .int .i64)]
 | 14=> [(0, .int .i64),(1, .int .i64),(2, .int .i64),(3, .str),(4, .int .i64)]
 | 15=> [(0, .sl (.st 14)),(1, .int .i64),(2, .st 13)]
 | 16=> [(0, .st 15)]
 | 17=> [(0, .st 15)]
 | 18=> [(0, .st 15),(4, .int .i64)]
 | 19=> [(0, .st 15),(4, .int .i64)]
 | _+20=> []
def z:(t:Nat)→C t
 | 0=>([],[],[])
 | 1=>(0,0,0)
 | 2=>cU.z
 | 3=>cD.z
 | 4=>cT.z
 | 5=>bX.z
 | 6=>aQ.z
 | 7=>aS.z
 | 8=>cE.z
 | 9=>dr.z
 | 10=>dn.z
 | 11=>dm.z
 | 12=>eT.z
 | 13=>aR.z
 | 14=>an.z
 | 15=>aV.z
 | 16=>av.z
 | 17=>aA.z
 | 18=>aM.z
 | 19=>aP.z
 | _+20=>()
def zP:List (Nat×Ty):= [(2, .int .i64),(3, .int .i64),(4, .bool),(5, .int .u8),(9, .str),(22, .st 0),(23, .st 1),(24, .sl (.st 3)),(25, .sl (.st 9)),(26, .sl (.st 10)),(27, .sl (.st 11)),(29, .st 2),(30, .int .i64),(32, .st 13),(37, .sl (.int .u8)),(38, .sl .str),(39, .sl (.st 12)),(41, .st 11),(42, .sl (.sl .str)),(44, .st 12),(46, .sl (.st 14)),(51, .st 15),(53, .st 16),(57, .st 14),(63, .sl (.st 4)),(64, .sl (.st 5)),(66, .st 3),(71, .st 9),(74, .st 10),(86, .st 17),(100, .st 4),(107, .sl (.st 6)),(108, .sl (.st 8)),(110, .st 5),(122, .sl (.st 7)),(124, .st 8),(137, .st 7),(149, .st 18),(152, .st 19),(156, .st 6)]
def FZ:List (Nat×(Nat×Ty)):= [(22,3, .str),(23,3, .int .i64)]
def wE:List (Nat×Unit):= [(32,())]
def xO:List (Nat×Unit):= [(95,())]
def yD:List (Nat×Unit):= []
def Nb:List (Nat×Unit):= []
abbrev S:aN:=⟨C,F,ex,im,fun u f=>(ec u)[f]?,z,look zP,fun t=>(look yD t).isSome,look FZ,fun t=>(look wE t).isSome,fun t=>(look xO t).isSome,[((0,0),fun v=> ∃ m,v= .int .i64 m),((2,0),fun v=>v= .nilIface∨ ∃ t p,v= .iface t p),((1,0),fun v=>v= .nilIface∨ ∃ t p,v= .iface t p)],[(3,fun ob=> ∃ t f,ob= .cells (Go.Lib.pow10Tab.map fun z=>Value.int .u64 z).toArray t f)],none,fun t=>(look Nb t).isSome⟩
def Gi:List (Nat×Nat):= [(24,136),(25,64),(26,88),(27,144),(37,1),(38,16),(39,64),(42,24),(46,48),(63,32),(64,128),(107,128),(108,88),(122,64)]
def af (t:Nat):Nat:=(look Gi t).getD 1
theorem zn:cm S:=⟨fun | 0=>rfl | 1=>rfl | 2=>rfl | 3=>rfl | 4=>rfl | 5=>rfl | 6=>rfl | 7=>rfl | 8=>rfl | 9=>rfl | 10=>rfl | 11=>rfl | 12=>rfl | 13=>rfl | 14=>rfl | 15=>rfl | 16=>rfl | 17=>rfl | 18=>rfl | 19=>rfl | _+20=>rfl,fun | 0,_=>rfl | 1,_=>rfl | 2,_=>rfl | 3,_=>rfl | 4,_=>rfl | 5,_=>rfl | 6,_=>rfl | 7,_=>rfl | 8,_=>rfl | 9,_=>rfl | 10,_=>rfl | 11,_=>rfl | 12,_=>rfl | 13,_=>rfl | 14,_=>rfl | 15,_=>rfl | 16,_=>rfl | 17,_=>rfl | 18,_=>rfl | 19,_=>rfl | _+20,_=>rfl⟩
theorem NX:bu Tryd.prog S af 2 (.int .i64):=rW rfl (by kernel_rfl) (by kernel_rfl) (by kernel_rfl)
theorem N7:bu Tryd.prog S af 3 (.int .i64):=rW rfl (by kernel_rfl) (by kernel_rfl) (by kernel_rfl)
theorem Oc:bu Tryd.prog S af 4 (.bool):=Oy rfl (by kernel_rfl) (by kernel_rfl) (by kernel_rfl)
theorem Oh:bu Tryd.prog S af 5 (.int .u8):=rW rfl (by kernel_rfl) (by kernel_rfl) (by kernel_rfl)
theorem Ov:bu Tryd.prog S af 9 (.str):=Oz rfl (by kernel_rfl) (by kernel_rfl) (by kernel_rfl)
theorem NY:bu Tryd.prog S af 22 (.st 0):=ET rfl (by kernel_rfl) rfl (by kernel_rfl) (by kernel_rfl) rfl (by kernel_rfl) Tryd.underlying22 rfl rfl rfl (by kernel_rfl) (fun _=>rfl) rfl
theorem NZ:bu Tryd.prog S af 23 (.st 1):=ET rfl (by kernel_rfl) rfl (by kernel_rfl) (by kernel_rfl) rfl (by kernel_rfl) Tryd.underlying23 rfl rfl rfl (by kernel_rfl) (fun _=>rfl) rfl
theorem N0:bu Tryd.prog S af 24 (.sl (.st 3)):=fF rfl (by kernel_rfl) (by kernel_rfl) Tryd.underlying24 rfl rfl (by kernel_rfl) (by kernel_rfl)
theorem N3:bu Tryd.prog S af 25 (.sl (.st 9)):=fF rfl (by kernel_rfl) (by kernel_rfl) Tryd.underlying25 rfl rfl (by kernel_rfl) (by kernel_rfl)
theorem N4:bu Tryd.prog S af 26 (.sl (.st 10)):=fF rfl (by kernel_rfl) (by kernel_rfl) Tryd.underlying26 rfl rfl (by kernel_rfl) (by kernel_rfl)
theorem N5:bu Tryd.prog S af 27 (.sl (.st 11)):=fF rfl (by kernel_rfl) (by kernel_rfl) Tryd.underlying27 rfl rfl (by kernel_rfl) (by kernel_rfl)
theorem N6:bu Tryd.prog S af 29 (.st 2):=eC (l:=ec 2) rfl (by kernel_rfl) rfl (by kernel_rfl) (by kernel_rfl) rfl (by kernel_rfl) Tryd.underlying29 (by kernel_rfl) (fun _=>rfl) rfl
theorem N8:bu Tryd.prog S af 30 (.int .i64):=rW rfl (by kernel_rfl) (by kernel_rfl) (by kernel_rfl)
theorem N9:bu Tryd.prog S af 32 (.st 13):=eC (l:=ec 13) rfl (by kernel_rfl) rfl (by kernel_rfl) (by kernel_rfl) rfl (by kernel_rfl) Tryd.underlying32 (by kernel_rfl) (fun _=>rfl) rfl
theorem N_:bu Tryd.prog S af 37 (.sl (.int .u8)):=fF rfl (by kernel_rfl) (by kernel_rfl) Tryd.underlying37 rfl rfl (by kernel_rfl) (by kernel_rfl)
theorem Oa:bu Tryd.prog S af 38 (.sl .str):=fF rfl (by kernel_rfl) (by kernel_rfl) Tryd.underlying38 rfl rfl (by kernel_rfl) (by kernel_rfl)
theorem Ob:bu Tryd.prog S af 39 (.sl (.st 12)):=fF rfl (by kernel_rfl) (by kernel_rfl) Tryd.underlying39 rfl rfl (by kernel_rfl) (by kernel_rfl)
theorem Od:bu Tryd.prog S af 41 (.st 11):=eC (l:=ec 11) rfl (by kernel_rfl) rfl (by kernel_rfl) (by kernel_rfl) rfl (by kernel_rfl) Tryd.underlying41 (by kernel_rfl) (fun _=>rfl) rfl
theorem Oe:bu Tryd.prog S af 42 (.sl (.sl .str)):=fF rfl (by kernel_rfl) (by kernel_rfl) Tryd.underlying42 rfl rfl (by kernel_rfl) (by kernel_rfl)
theorem Of:bu Tryd.prog S af 44 (.st 12):=eC (l:=ec 12) rfl (by kernel_rfl) rfl (by kernel_rfl) (by kernel_rfl) rfl (by kernel_rfl) Tryd.underlying44 (by kernel_rfl) (fun _=>rfl) rfl
theorem Og:bu Tryd.prog S af 46 (.sl (.st 14)):=fF rfl (by kernel_rfl) (by kernel_rfl) Tryd.underlying46 rfl rfl (by kernel_rfl) (by kernel_rfl)
theorem Oi:bu Tryd.prog S af 51 (.st 15):=eC (l:=ec 15) rfl (by kernel_rfl) rfl (by kernel_rfl) (by kernel_rfl) rfl (by kernel_rfl) Tryd.underlying51 (by kernel_rfl) (fun _=>rfl) rfl
theorem Oj:bu Tryd.prog S af 53 (.st 16):=eC (l:=ec 16) rfl (by kernel_rfl) rfl (by kernel_rfl) (by kernel_rfl) rfl (by kernel_rfl) Tryd.underlying53 (by kernel_rfl) (fun _=>rfl) rfl
theorem Ol:bu Tryd.prog S af 57 (.st 14):=eC (l:=ec 14) rfl (by kernel_rfl) rfl (by kernel_rfl) (by kernel_rfl) rfl (by kernel_rfl) Tryd.underlying57 (by kernel_rfl) (fun _=>rfl) rfl
theorem Om:bu Tryd.prog S af 63 (.sl (.st 4)):=fF rfl (by kernel_rfl) (by kernel_rfl) Tryd.underlying63 rfl rfl (by kernel_rfl) (by kernel_rfl)
theorem On:bu Tryd.prog S af 64 (.sl (.st 5)):=fF rfl (by kernel_rfl) (by kernel_rfl) Tryd.underlying64 rfl rfl (by kernel_rfl) (by kernel_rfl)
theorem Oo:bu Tryd.prog S af 66 (.st 3):=eC (l:=ec 3) rfl (by kernel_rfl) rfl (by kernel_rfl) (by kernel_rfl) rfl (by kernel_rfl) Tryd.underlying66 (by kernel_rfl) (fun _=>rfl) rfl
theorem Oq:bu Tryd.prog S af 71 (.st 9):=eC (l:=ec 9) rfl (by kernel_rfl) rfl (by kernel_rfl) (by kernel_rfl) rfl (by kernel_rfl) Tryd.underlying71 (by kernel_rfl) (fun _=>rfl) rfl
theorem Ot:bu Tryd.prog S af 74 (.st 10):=eC (l:=ec 10) rfl (by kernel_rfl) rfl (by kernel_rfl) (by kernel_rfl) rfl (by kernel_rfl) Tryd.underlying74 (by kernel_rfl) (fun _=>rfl) rfl
theorem Ou:bu Tryd.prog S af 86 (.st 17):=eC (l:=ec 17) rfl (by kernel_rfl) rfl (by kernel_rfl) (by kernel_rfl) rfl (by kernel_rfl) Tryd.underlying86 (by kernel_rfl) (fun _=>rfl) rfl
theorem NN:bu Tryd.prog S af 100 (.st 4):=eC (l:=ec 4) rfl (by kernel_rfl) rfl (by kernel_rfl) (by kernel_rfl) rfl (by kernel_rfl) Tryd.underlying100 (by kernel_rfl) (fun _=>rfl) rfl
theorem NO:bu Tryd.prog S af 107 (.sl (.st 6)):=fF rfl (by kernel_rfl) (by kernel_rfl) Tryd.underlying107 rfl rfl (by kernel_rfl) (by kernel_rfl)
theorem NP:bu Tryd.prog S af 108 (.sl (.st 8)):=fF rfl (by kernel_rfl) (by kernel_rfl) Tryd.underlying108 rfl rfl (by kernel_rfl) (by kernel_rfl)
theorem NQ:bu Tryd.prog S af 110 (.st 5):=eC (l:=ec 5) rfl (by kernel_rfl) rfl (by kernel_rfl) (by kernel_rfl) rfl (by kernel_rfl) Tryd.underlying110 (by kernel_rfl) (fun _=>rfl) rfl
theorem NR:bu Tryd.prog S af 122 (.sl (.st 7)):=fF rfl (by kernel_rfl) (by kernel_rfl) Tryd.underlying122 rfl rfl (by kernel_rfl) (by kernel_rfl)
theorem NS:bu Tryd.prog S af 124 (.st 8):=eC (l:=ec 8) rfl (by kernel_rfl) rfl (by kernel_rfl) (by kernel_rfl) rfl (by kernel_rfl) Tryd.underlying124 (by kernel_rfl) (fun _=>rfl) rfl
theorem NT:bu Tryd.prog S af 137 (.st 7):=eC (l:=ec 7) rfl (by kernel_rfl) rfl (by kernel_rfl) (by kernel_rfl) rfl (by kernel_rfl) Tryd.underlying137 (by kernel_rfl) (fun _=>rfl) rfl
theorem NU:bu Tryd.prog S af 149 (.st 18):=eC (l:=ec 18) rfl (by kernel_rfl) rfl (by kernel_rfl) (by kernel_rfl) rfl (by kernel_rfl) Tryd.underlying149 (by kernel_rfl) (fun _=>rfl) rfl
theorem NV:bu Tryd.prog S af 152 (.st 19):=eC (l:=ec 19) rfl (by kernel_rfl) rfl (by kernel_rfl) (by kernel_rfl) rfl (by kernel_rfl) Tryd.underlying152 (by kernel_rfl) (fun _=>rfl) rfl
theorem NW:bu Tryd.prog S af 156 (.st 6):=eC (l:=ec 6) rfl (by kernel_rfl) rfl (by kernel_rfl) (by kernel_rfl) rfl (by kernel_rfl) Tryd.underlying156 (by kernel_rfl) (fun _=>rfl) rfl
theorem yC:aO Tryd.prog S af:=⟨zn,fun t T h0=>by
 have h:=ji (show look zP t=some T from h0)
 simp only [zP,List.mem_cons,Prod.mk.injEq,List.not_mem_nil,or_false] at h
 rcases h with ⟨rfl,rfl⟩ | ⟨rfl,rfl⟩ | ⟨rfl,rfl⟩ | ⟨rfl,rfl⟩ | ⟨rfl,rfl⟩ | ⟨rfl,rfl⟩ | ⟨rfl,rfl⟩ | ⟨rfl,rfl⟩ | ⟨rfl,rfl⟩ | ⟨rfl,rfl⟩ | ⟨rfl,rfl⟩ | ⟨rfl,rfl⟩ | ⟨rfl,rfl⟩ | ⟨rfl,rfl⟩ | ⟨rfl,rfl⟩ | ⟨rfl,rfl⟩ | ⟨rfl,rfl⟩ | ⟨rfl,rfl⟩ | ⟨rfl,rfl⟩ | ⟨rfl,rfl⟩ | ⟨rfl,rfl⟩ | ⟨rfl,rfl⟩ | ⟨rfl,rfl⟩ | ⟨rfl,rfl⟩ | ⟨rfl,rfl⟩ | ⟨rfl,rfl⟩ | ⟨rfl,rfl⟩ | ⟨rfl,rfl⟩ | ⟨rfl,rfl⟩ | ⟨rfl,rfl⟩ | ⟨rfl,rfl⟩ | ⟨rfl,rfl⟩ | ⟨rfl,rfl⟩ | ⟨rfl,rfl⟩ | ⟨rfl,rfl⟩ | ⟨rfl,rfl⟩ | ⟨rfl,rfl⟩ | ⟨rfl,rfl⟩ | ⟨rfl,rfl⟩ | ⟨rfl,rfl⟩
 · exact NX
 · exact N7
 · exact Oc
 · exact Oh
 · exact Ov
 · exact NY
 · exact NZ
 · exact N0
 · exact N3
 · exact N4
 · exact N5
 · exact N6
 · exact N8
 · exact N9
 · exact N_
 · exact Oa
 · exact Ob
 · exact Od
 · exact Oe
 · exact Of
 · exact Og
 · exact Oi
 · exact Oj
 · exact Ol
 · exact Om
 · exact On
 · exact Oo
 · exact Oq
 · exact Ot
 · exact Ou
 · exact NN
 · exact NO
 · exact NP
 · exact NQ
 · exact NR
 · exact NS
 · exact NT
 · exact NU
 · exact NV
 · exact NW,fun t h=>by
 have h2: ∃ u,look yD t=some u:=Option.isSome_iff_exists.1 h
 obtain ⟨u,h2⟩:=h2
 have h:=ji h2
 simp [yD] at h,fun t h=>by
 have h2: ∃ u,look wE t=some u:=Option.isSome_iff_exists.1 h
 obtain ⟨u,h2⟩:=h2
 have h:=ji h2
 simp only [wE,List.mem_cons,Prod.mk.injEq,List.not_mem_nil,or_false] at h
 rcases h with ⟨rfl,_⟩
 · exact ⟨13,rfl,⟨_,Tryd.underlying32,wC (by kernel_rfl)⟩,by kernel_rfl,by kernel_rfl⟩,fun t h=>by
 have h2: ∃ u,look xO t=some u:=Option.isSome_iff_exists.1 h
 obtain ⟨u,h2⟩:=h2
 have h:=ji h2
 simp only [xO,List.mem_cons,Prod.mk.injEq,List.not_mem_nil,or_false] at h
 rcases h with ⟨rfl,_⟩
 · exact ⟨_,Tryd.underlying95⟩,fun p h=>nomatch h⟩
theorem pk:aO Tryd.prog S af∧Tryd.prog.follows .mixedOrders=true:=⟨yC,by kernel_rfl⟩
abbrev q0:Sy.K:= .val (.data .str)
abbrev q1:Sy.K:= .val (.data (.int .i64))
abbrev q2:Sy.K:= .val (.data (.int .u8))
abbrev q3:Sy.K:= .val (.data .bool)
abbrev q4:Sy.K:= .val (.data (.st 14))
abbrev q5:Sy.K:= .val (.aT (.st 14))
abbrev q6:Sy.K:= .val (.data (.st 13))
abbrev q7:Sy.K:= .obj [.data (.int .i64), .data (.int .i64)]
abbrev q8:Sy.K:= .obj [.data (.st 16)]
abbrev q9:Sy.K:= .obj [.data (.st 17)]
abbrev Le:Sy.K:= .val (.data (.st 4))
abbrev Db:Sy.K:= .val (.aT (.st 4))
abbrev eo:Sy.K:= .obj [.data (.sl (.st 14)), .data (.int .i64), .data (.int .i64), .data (.int .i64)]
abbrev fc:Sy.K:= .obj [.data (.st 18)]
abbrev gq:Sy.K:= .obj [.data (.st 19)]
abbrev tY:Sy.K:= .val (.data (.st 7))
abbrev yE:Sy.K:= .obj [.data (.sl (.st 14)), .data (.int .i64), .data (.int .i64), .data (.int .i64), .data (.int .i64)]
abbrev Lf:Sy.K:= .obj [.data (.int .i64), .data (.int .i64), .data .str, .aH (.st 7), .data (.int .i64)]
abbrev Lg:Sy.K:= .obj [.data (.int .i64), .data (.int .i64), .data .str, .data (.sl (.st 7)), .data (.int .i64)]
abbrev yF:Sy.K:= .val (.data (.sl (.st 14)))
abbrev yG:Sy.K:= .val (.data (.sl (.st 7)))
abbrev yH:Sy.K:= .val (.data (.st 6))
abbrev tZ:Sy.K:= .val (.aT (.st 6))
abbrev Lh:Sy.K:= .val (.data (.st 8))
abbrev n4:Sy.K:= .obj [.data .str, .aH (.st 7), .data .str, .aH (.st 6), .data (.int .i64)]
abbrev qK:Sy.K:= .obj [.data (.int .i64), .data .str, .data (.sl (.st 6)), .data (.sl (.st 6)), .aT (.st 8), .data (.sl (.st 5)), .data (.int .i64)]
abbrev Dc:Sy.K:= .val (.aT (.st 5))
abbrev Dd:Sy.K:= .val (.data (.st 3))
abbrev De:Sy.K:= .obj [.data .str, .data (.int .i64), .data (.int .i64), .aH (.st 4), .aH (.st 4), .aH (.st 4), .aH (.st 5), .data (.int .i64)]
abbrev Li:Sy.K:= .val (.data (.st 9))
abbrev Lj:Sy.K:= .val (.data (.st 10))
abbrev Df:Sy.K:= .val (.aH .str)
abbrev Ll:Sy.K:= .val (.data (.st 12))
abbrev n5:Sy.K:= .obj [.data (.int .i64), .aH (.sl .str), .aH (.sl .str), .data (.int .i64)]
abbrev Lm:Sy.K:= .val (.aT .str)
abbrev Ln:Sy.K:= .val (.data (.st 11))
abbrev Dg:Sy.K:= .obj [.data .str, .data .str, .data .str, .data .str, .aH .str, .aH .str, .aH (.st 12), .data (.int .i64)]
abbrev Dh:Sy.K:= .val (.data (.st 2))
abbrev kT:Sy.K:= .obj [.data (.int .i64), .aH (.st 3), .aH (.st 9), .aH (.st 10), .aH (.st 11)]
abbrev Lo:Sy.K:= .err
def bz (e:Ty):Nat:=if e= .int .u8 then 1 else 1
def gZ:List (Nat×Ty):= [(5, .int .u8),(37, .sl (.int .u8))]
def Ai:List (Nat×(Nat×Ty)):= []
abbrev SA:aN:=S.rZ (look gZ) (fun _=>false) (look Ai) (fun _=>false)
theorem Ox:bu Tryd.prog SA af 5 (.int .u8):=rW rfl (by kernel_rfl) (by kernel_rfl) (by kernel_rfl)
theorem Ow:bu Tryd.prog SA af 37 (.sl (.int .u8)):=fF rfl (by kernel_rfl) (by kernel_rfl) Tryd.underlying37 rfl rfl (by kernel_rfl) (by kernel_rfl)
theorem MS:cm SA:=⟨zn.flat,zn.nw⟩
theorem K_:aO Tryd.prog SA af:=⟨MS,fun t e h0=>by
 have h:=ji (show look gZ t=some (e) from h0)
 simp only [gZ,List.mem_cons,Prod.mk.injEq,List.not_mem_nil,or_false] at h
 rcases h with ⟨rfl,h⟩ | ⟨rfl,h⟩
 · subst h; exact Ox
 · subst h; exact Ow,fun t h=>(nomatch h),fun t h=>(nomatch h),yC.kN,yC.bt⟩
theorem hbz: ∀ t e,SA.ty t=some (.sl e)→af t=bz e:=fun t e h0=>by
 have h:=ji (show look gZ t=some (.sl e) from h0)
 simp only [gZ,List.mem_cons,Prod.mk.injEq,List.not_mem_nil,or_false] at h
 rcases h with ⟨rfl,h⟩ | ⟨rfl,h⟩
 · exact (nomatch h)
 · cases h; decide
theorem M9:vB SA:=⟨fun t e h0=>by
 have h:=ji (show look gZ t=some (.sl e) from h0)
 simp only [gZ,List.mem_cons,Prod.mk.injEq,List.not_mem_nil,or_false] at h
 rcases h with ⟨rfl,h⟩ | ⟨rfl,h⟩
 · exact (nomatch h)
 · cases h; decide,fun t h0=>by
 have h:=ji (show look gZ t=some (.pt) from h0)
 simp only [gZ,List.mem_cons,Prod.mk.injEq,List.not_mem_nil,or_false] at h
 rcases h with ⟨rfl,h⟩ | ⟨rfl,h⟩
 · exact (nomatch h)
 · exact (nomatch h)⟩
theorem Nf:vD Tryd.prog SA:=fun t e h0=>by
 have h:=ji (show look gZ t=some (.st e) from h0)
 simp only [gZ,List.mem_cons,Prod.mk.injEq,List.not_mem_nil,or_false] at h
 rcases h with ⟨rfl,h⟩ | ⟨rfl,h⟩
 · exact (nomatch h)
 · exact (nomatch h)
abbrev MO:List UInt8:= [99,104,97,114,116,32,99,32,115,116,101,112,115,32,50,32,102,117,101,108,32,50,32,123,32,125,10]
abbrev MP:List UInt8:= [105,110,115,116,32,97,32,58,32,99,32,113,117,97,110,116,117,109,32,49,32,101,120,116,32,48,32,112,114,105,111,32,48,59,10]
abbrev MN:List UInt8:= [99,104,97,110,32,107,32,58,32,97,46,112,32,45,62,32,97,32,99,97,112,32,49,32,112,114,105,111,32,48,59,10]
abbrev k9:List UInt8:= [115,121,115,116,101,109,32,97,103,101,32,49,59,10]
abbrev u6:List UInt8:= [32,9,10,13]
abbrev DX:List UInt8:= [45,62,32,61,61,32,33,61,32,60,61,32,62,61,32,38,38,32,124,124]
abbrev gT:List UInt8:= [123,125,40,41,91,93,59,44,46,58,61,60,62,43,45,42,47,37,33,36]
abbrev mO:List UInt8:= [115,121,115,116,101,109]
abbrev mG:List UInt8:= [97,103,101]
abbrev dM:List UInt8:= [59]
abbrev jy:List UInt8:= [99,104,97,114,116]
abbrev rM:List UInt8:= [115,116,101,112,115]
abbrev rE:List UInt8:= [102,117,101,108]
abbrev u_:List UInt8:= [118,97,114]
abbrev uY:List UInt8:= [112,111,114,116]
abbrev u9:List UInt8:= [116,105,109,101,114]
abbrev mN:List UInt8:= [115,116,97,116,101]
abbrev mL:List UInt8:= [112,97,114,97,108,108,101,108]
abbrev mI:List UInt8:= [104,105,115,116,111,114,121]
abbrev mH:List UInt8:= [100,101,101,112]
abbrev uO:List UInt8:= [101,110,116,114,121]
abbrev uQ:List UInt8:= [101,120,105,116]
abbrev rI:List UInt8:= [111,110]
abbrev rz:List UInt8:= [97,117,116,111]
abbrev uZ:List UInt8:= [114,97,105,115,101]
abbrev u0:List UInt8:= [115,101,110,100]
abbrev uH:List UInt8:= [97,114,109]
abbrev uK:List UInt8:= [99,97,110,99,101,108]
abbrev rF:List UInt8:= [105,102]
abbrev uN:List UInt8:= [101,108,115,101]
abbrev rH:List UInt8:= [108,111,111,112]
abbrev rG:List UInt8:= [105,110]
abbrev jz:List UInt8:= [105,110,115,116]
abbrev rK:List UInt8:= [113,117,97,110,116,117,109]
abbrev rD:List UInt8:= [101,120,116]
abbrev mM:List UInt8:= [112,114,105,111]
abbrev gR:List UInt8:= [99,104,97,110]
abbrev rA:List UInt8:= [99,97,112]
abbrev ou:List UInt8:= [99,101,114,116]
abbrev uT:List UInt8:= [105,110,115,116,115]
abbrev uL:List UInt8:= [99,104,97,110,115]
abbrev rB:List UInt8:= [99,101,108,108]
abbrev zi:List UInt8:= [111,102,102]
abbrev k8:List UInt8:= [123]
abbrev DV:List UInt8:= [61]
abbrev mK:List UInt8:= [45]
abbrev gS:List UInt8:= [125]
abbrev DT:List UInt8:= [33]
abbrev DU:List UInt8:= [36]
abbrev mJ:List UInt8:= [40]
abbrev rL:List UInt8:= [41]
abbrev uJ:List UInt8:= [124,124]
abbrev uG:List UInt8:= [38,38]
abbrev uU:List UInt8:= [60]
abbrev uV:List UInt8:= [60,61]
abbrev uR:List UInt8:= [62]
abbrev uS:List UInt8:= [62,61]
abbrev uP:List UInt8:= [61,61]
abbrev uI:List UInt8:= [33,61]
abbrev rJ:List UInt8:= [43]
abbrev u7:List UInt8:= [42]
abbrev u5:List UInt8:= [47]
abbrev uX:List UInt8:= [37]
abbrev DW:List UInt8:= [91]
abbrev zj:List UInt8:= [93]
abbrev uW:List UInt8:= [45,62]
abbrev rC:List UInt8:= [58]
abbrev zh:List UInt8:= [46]
abbrev uM:List UInt8:= [44]
abbrev zk:List UInt8:= [115,121,115,116,101,109,32,97,103,101,32,49,59]
abbrev zl:List UInt8:= [115,121,115,116,101,109,32,97,103,101,32,49]
abbrev y9:List (List UInt8):= [MO,MP,MN]
abbrev y_:List Int:= [8,12,24]
end
end Go.Sy.Ex
namespace Go.Sy.Ex
open Go.Sy Go.Proofs
theorem HP {w:World} {M:St} (h:fH S w M):(∃ m,w.cell? ⟨0,0,none⟩=some (.int .i64 m)):=by
 obtain ⟨_,_,v0,c0,m,rfl⟩:=h.1 (((0,0),fun v=> ∃ m,v= .int .i64 m)) (by simp)
 exact ⟨m,c0⟩
theorem HQ {w:World} {M:St} (h:fH S w M):(∃ e,w.cell? ⟨2,0,none⟩=some e∧(e= .nilIface∨ ∃ t p,e= .iface t p)):=by
 obtain ⟨_,_,v1,c1,p1⟩:=h.1 (((2,0),fun v=>v= .nilIface∨ ∃ t p,v= .iface t p)) (by simp)
 exact ⟨v1,c1,p1⟩
theorem HR {w:World} {M:St} (h:fH S w M):(∃ e,w.cell? ⟨1,0,none⟩=some e∧(e= .nilIface∨ ∃ t p,e= .iface t p)):=by
 obtain ⟨_,_,v1,c1,p1⟩:=h.1 (((1,0),fun v=>v= .nilIface∨ ∃ t p,v= .iface t p)) (by simp)
 exact ⟨v1,c1,p1⟩
theorem GM {w w':World} {M:St} (h:RowKit.Below w.heap.size w w'):aW w w' M:=by
 obtain ⟨a,b,c,d,e⟩:=h
 exact ⟨a,b,c,d,fun k hk _=>e k hk,fun k o hk _=>cell_of_heap (e k hk),fun k o hk hs=>by rw [cell_of_heap (e k hk)]; exact hs,fun k o hk _=>wR (e k hk)⟩
theorem Ed (l:List UInt8):(⟨l.toArray⟩:ByteArray).size=l.length:=by show l.toArray.size=_; simp
noncomputable def kR (s:List UInt8) (c:Int):Option Int:=some (Lib.indexByte s c.toNat.toUInt8)
theorem C7:aE Tryd.prog S ⟨22,[.val (.data .str), .val (.data (.int .u8))],[.val (.data (.int .i64))],fun x=>kR x.1 x.2⟩:=by
 refine ⟨⟨Tryd.f22,Tryd.func22,by kernel_rfl,by kernel_rfl⟩,fun w s M (x:List UInt8×Int) args r hx hs hG hr=> ?_⟩
 obtain ⟨x,y⟩:=x
 obtain ⟨M1,M2,v,rr,_,rfl,⟨⟨_,n,h1⟩,h2⟩,M3,M4,v',DI,_,rfl,⟨⟨_,n',h3⟩,h4⟩,_,rfl⟩:=hx
 have hv:=kB (w:=w) (s:=s) ⟨h2,n,h1⟩
 have fy:=oU (w:=w) (s:=s) ⟨h4,n',h3⟩
 subst hv fy
 cases hr
 refine (Tryd.strings_IndexByte _ _ w).mono ?_
 rintro e w' ⟨rfl,rfl⟩
 exact ⟨[.int .i64 _],fun _ _=>False,fun _ _=>False,rfl,aW.refl _ _,⟨_,_,_,_,yj,rfl,⟨⟨fun _ _ h=>h,1,rfl⟩,rfl⟩,fun _ _ h=>h,rfl⟩,fun _ _ h=>h.elim,fun _ _ h=>h.elim⟩
noncomputable def nX (s sub:List UInt8):Option Bool:=if s.length<4294967281 then some (Lib.contains s sub) else none
theorem KW:aE Tryd.prog S ⟨37,[.val (.data .str), .val (.data .str)],[.val (.data .bool)],fun x=>nX x.1 x.2⟩:=by
 refine ⟨⟨Tryd.f37,Tryd.func37,by kernel_rfl,by kernel_rfl⟩,fun w s M (x:List UInt8×List UInt8) args r hx hs hG hr=> ?_⟩
 obtain ⟨x,y⟩:=x
 obtain ⟨M1,M2,v,rr,_,rfl,⟨⟨_,n,h1⟩,h2⟩,M3,M4,v',DI,_,rfl,⟨⟨_,n',h3⟩,h4⟩,_,rfl⟩:=hx
 have hv:=kB (w:=w) (s:=s) ⟨h2,n,h1⟩
 have fy:=kB (w:=w) (s:=s) ⟨h4,n',h3⟩
 subst hv fy
 obtain ⟨m,hm⟩:=HP hG
 replace hr:nX x y=some r:=hr
 unfold nX at hr
 split at hr
 · rename_i hl
   cases hr
   refine (Tryd.strings_Contains ⟨x.toArray⟩ ⟨y.toArray⟩ m w (Nat.lt_of_le_of_lt (Nat.le_of_eq (Ed _)) hl) hm).mono ?_
   rintro e w' ⟨rfl,rfl⟩
   exact ⟨[.bool _],fun _ _=>False,fun _ _=>False,rfl,aW.refl _ _,⟨_,_,_,_,yj,rfl,⟨⟨fun _ _ h=>h,1,rfl⟩,rfl⟩,fun _ _ h=>h,rfl⟩,fun _ _ h=>h.elim,fun _ _ h=>h.elim⟩
 · cases hr
noncomputable def kS (s:List UInt8) (b z:Int):Option (Int×Bool):=if s.length≤281474976710656∧b=10∧z=64 then some (match Lib.parseIntB 64 s with
 | .ok v=>(v,true)
 | .range=>(Lib.intSat 64 s,false)
 | _=>(0,false)) else none
theorem JD {w:World} {s M:St} (hM:fh M) (v:Int) (b:Bool) (e:Value) (he:oS b e):bL Tryd.prog S w s M [.val (.data (.int .i64)), .err] (v,b) [.int .i64 v,e]:=
 ⟨_,_,_,_,Nc M,rfl,⟨⟨hM,1,rfl⟩,rfl⟩,_,_,_,_,yj,rfl,⟨fun _ _ h=>h,he⟩,fun _ _ h=>h,rfl⟩
theorem KX:aE Tryd.prog S ⟨36,[.val (.data .str), .val (.data (.int .i64)), .val (.data (.int .i64))],[.val (.data (.int .i64)), .err],fun x=>kS x.1 x.2.1 x.2.2⟩:=by
 refine ⟨⟨Tryd.f36,Tryd.func36,by kernel_rfl,by kernel_rfl⟩,fun w s M (x:List UInt8×Int×Int) args r hx hs hG hr=> ?_⟩
 obtain ⟨x,y,z⟩:=x
 obtain ⟨M1,M2,v,rr,_,rfl,⟨⟨_,n,h1⟩,h2⟩,M3,M4,v',DI,_,rfl,⟨⟨_,n',h3⟩,h4⟩,M5,M6,v'',Pk,_,rfl,⟨⟨_,KA,h5⟩,h6⟩,_,rfl⟩:=hx
 have hv:=kB (w:=w) (s:=s) ⟨h2,n,h1⟩
 have fy:=oU (w:=w) (s:=s) ⟨h4,n',h3⟩
 have Jm:=oU (w:=w) (s:=s) ⟨h6,KA,h5⟩
 subst hv fy Jm
 obtain ⟨e1,c1,k1⟩:=HQ hG
 obtain ⟨e0,c0,k0⟩:=HR hG
 replace hr:kS x y z=some r:=hr
 unfold kS at hr
 split at hr
 · rename_i hl
   obtain ⟨hl,rfl,rfl⟩:=hl
   have hsz:(⟨x.toArray⟩:ByteArray).size≤281474976710656:=Nat.le_trans (Nat.le_of_eq (Ed x)) hl
   have xp: ∀ (r0:Int×Bool) (e:Value) (w':World),oS r0.2 e→RowKit.Below w.heap.size w w'→ ∃ us s' M',Ending.returned (Value.tuple #[.int .i64 r0.1,e])= .returned (gP us)∧aW w w' M∧bL Tryd.prog S w' s' M' [.val (.data (.int .i64)), .err] r0 (us++ [])∧
    (∀ b o,s' b o→b<w'.heap.size∧ ¬ M' b o∧(s b o∨M b o∨w.heap.size≤b))∧ ∀ b o,M' b o→M b o∨w.heap.size≤b:=fun r0 e w' he hb=>
    ⟨[.int .i64 r0.1,e],fun _ _=>False,fun _ _=>False,rfl,GM hb,JD (fun _ _ h=>h) _ _ _ he,fun _ _ h=>h.elim,fun _ _ h=>h.elim⟩
   cases hp:Lib.parseIntB 64 x with
   | ok v=>
    rw [hp] at hr
    cases hr
    refine (Tryd.strconv_ParseInt_10_at64_ok ⟨x.toArray⟩ (by omega) v hp w).mono ?_
    rintro e w' ⟨rfl,hw⟩
    refine xp (v,true) .nilIface w' rfl ?_
    rcases hw with rfl | ⟨t,rfl⟩
    · exact RowKit.Below.refl _ _
    · exact ⟨rfl,rfl,rfl,by rw [Lib.bytesWorld_size]; omega,fun j hj=>Lib.bytesWorld_at_old w 5 t j hj⟩
   | range=>
    rw [hp] at hr
    cases hr
    refine (Tryd.strconv_ParseInt_10_at64_range ⟨x.toArray⟩ hsz hp e1 w c1 k1).mono ?_
    rintro e w' ⟨N,rfl,_,_,hb⟩
    exact xp (_,false) _ w' ⟨_,_,rfl⟩ hb
   | _=>
    rw [hp] at hr
    cases hr
    refine (Any.strconv_ParseInt_10_at64_syntax Tryd.xZ ⟨x.toArray⟩ hsz hp e0 w c0 k0).mono ?_
    rintro e w' ⟨N,rfl,_,_,hb⟩
    exact xp (0,false) _ w' ⟨_,_,rfl⟩ hb
 · cases hr
end Go.Sy.Ex
set_option maxRecDepth 100000
namespace Go.Sy.Ex
open Go.Sy Go.Proofs
noncomputable section
abbrev A_:Entry S:=⟨22,[q0,q2],[q1],fun x=>kR x.1 x.2⟩
abbrev G7:Entry S:=⟨36,[q0,q1,q1],[q1,Lo],fun x=>kS x.1 x.2.1 x.2.2⟩
abbrev G8:Entry S:=⟨37,[q0,q0],[q3],fun x=>nX x.1 x.2⟩
abbrev J8:=(List UInt8)→Int→Option Int
abbrev CQ (f:J8):Entry S:=⟨10,[q0,q1],[q1],fun x=>f x.1 x.2⟩
mutual
def jh:Nat→(List UInt8)→Int→Option Int
 | 0,_,_=>none
 | k+1,text,aB=>if aB<(text.length:Int) then
  if 0≤aB then
  if aB<(text.length:Int) then
  (kR u6 ((text.getD aB.toNat 0).toNat:Int)).bind fun r1=>
  if 0≤r1 then
  jh k text (aI (aB+1)) else
  if 0≤aB then
  if aB<(text.length:Int) then
  if ((text.getD aB.toNat 0).toNat:Int)=35 then
  kP k text aB else
  some aB else none else none else none else none else
  some aB
def kP:Nat→(List UInt8)→Int→Option Int
 | 0,_,_=>none
 | k+1,text,aB=>if aB<(text.length:Int) then
  if 0≤aB then
  if aB<(text.length:Int) then
  if ((text.getD aB.toNat 0).toNat:Int)≠10 then
  kP k text (aI (aB+1)) else
  jh k text aB else none else none else
  jh k text aB
end
def CP (k:Nat) (text:List UInt8) (aB:Int):Option Int:=jh k text aB
def qE  (text:List UInt8) (aB:Int):Option Int:=dh (fun k (x:List UInt8×Int)=>CP k x.1 x.2) (text,aB)
theorem J7:aE Tryd.prog S (CQ (qE)):=gv (fun k x=>CP k x.1 x.2) (fun _=>rfl) fun k=>
 fq pk [A_] ⟨C7,trivial⟩ Tryd.func10 [] k (fun k=> [(0,⟨[0,1],[q0,q1],fun x=>jh k x.1 x.2,false⟩),(2,⟨[0,1],[q0,q1],fun x=>kP k x.1 x.2,false⟩)]) ⟨fun _=>rfl,fun _=>rfl,trivial⟩ (fun _=>by kernel_rfl) (fun _=>by kernel_rfl) (by kernel_rfl)
abbrev J2:=Int→Option (Bool×Bool)
abbrev x9 (f:J2):Entry S:=⟨23,[q2],[q3,q3],fun x=>f x⟩
def kO  (c:Int):Option (Bool×Bool):=if 48≤c then
 if c≤57 then
 some (true,true) else
 if 97≤c then
 if c≤122 then
 if c≤122 then
 some (true,false) else
 some (false,false) else
 if 65≤c then
 if c≤90 then
 if c≤90 then
 some (true,false) else
 some (false,false) else
 if c=95 then
 some (true,false) else
 some (false,false) else
 if c=95 then
 some (true,false) else
 some (false,false) else
 if 65≤c then
 if c≤90 then
 if c≤90 then
 some (true,false) else
 some (false,false) else
 if c=95 then
 some (true,false) else
 some (false,false) else
 if c=95 then
 some (true,false) else
 some (false,false) else
 if 97≤c then
 if c≤122 then
 if c≤122 then
 some (true,false) else
 some (false,false) else
 if 65≤c then
 if c≤90 then
 if c≤90 then
 some (true,false) else
 some (false,false) else
 if c=95 then
 some (true,false) else
 some (false,false) else
 if c=95 then
 some (true,false) else
 some (false,false) else
 if 65≤c then
 if c≤90 then
 if c≤90 then
 some (true,false) else
 some (false,false) else
 if c=95 then
 some (true,false) else
 some (false,false) else
 if c=95 then
 some (true,false) else
 some (false,false)
theorem CM:aE Tryd.prog S (x9 (kO)):=
 aY pk [] trivial Tryd.func23 (by kernel_rfl) (fun _=>by kernel_rfl) (by kernel_rfl)
abbrev J1:=(List UInt8)→Int→Option Int
abbrev CL (f:J1):Entry S:=⟨24,[q0,q1],[q1],fun x=>f x.1 x.2⟩
def mb:Nat→(List UInt8)→Int→Bool→Option Int
 | 0,_,_,_=>none
 | k+1,text,aB,number=>if aB<(text.length:Int) then
  if 0≤aB then
  if aB<(text.length:Int) then
  (kO ((text.getD aB.toNat 0).toNat:Int)).bind fun r2=>
  bif !r2.1 then
  some aB else
  bif number then
  bif !r2.2 then
  some aB else
  mb k text (aI (aB+1)) number else
  mb k text (aI (aB+1)) number else none else none else
  some aB
def x8 (k:Nat) (text:List UInt8) (aB:Int):Option Int:=if 0≤aB then
 if aB<(text.length:Int) then
 (kO ((text.getD aB.toNat 0).toNat:Int)).bind fun r1=>
 mb k text aB r1.2 else none else none
def qB  (text:List UInt8) (aB:Int):Option Int:=dh (fun k (x:List UInt8×Int)=>x8 k x.1 x.2) (text,aB)
theorem J0:aE Tryd.prog S (CL (qB)):=gv (fun k x=>x8 k x.1 x.2) (fun _=>rfl) fun k=>
 fq pk [x9 kO] ⟨CM,trivial⟩ Tryd.func24 [] k (fun k=> [(0,⟨[0,1,6],[q0,q1,q3],fun x=>mb k x.1 x.2.1 x.2.2,false⟩)]) ⟨fun _=>rfl,trivial⟩ (fun _=>by kernel_rfl) (fun _=>by kernel_rfl) (by kernel_rfl)
abbrev J4:=(List UInt8)→Option (Int×Int)
abbrev CN (f:J4):Entry S:=⟨25,[q0],[q1,q1],fun x=>f x⟩
def qC  (s:List UInt8):Option (Int×Int):=if 1<(s.length:Int) then
 if (0:Int)≤0 then
 if 0<(s.length:Int) then
 if ((s.getD (0:Int).toNat 0).toNat:Int)=48 then
 some (0,11) else
 (kS s 10 64).bind fun r1=>
 bif !r1.2 then
 some (0,16) else
 some (r1.1,0) else none else none else
 (kS s 10 64).bind fun r2=>
 bif !r2.2 then
 some (0,16) else
 some (r2.1,0)
theorem J3:aE Tryd.prog S (CN (qC)):=
 aY pk [G7] ⟨KX,trivial⟩ Tryd.func25 (by kernel_rfl) (fun _=>by kernel_rfl) (by kernel_rfl)
abbrev J6:=(List UInt8)→Int→Option Int
abbrev CO (f:J6):Entry S:=⟨26,[q0,q1],[q1],fun x=>f x.1 x.2⟩
def qD  (text:List UInt8) (aB:Int):Option Int:=if (aI (aB+1))<(text.length:Int) then
 if 0≤(aI (aB+1)) then
 if (aI (aB+1))<(text.length:Int) then
 if ((text.getD (aI (aB+1)).toNat 0).toNat:Int)≠32 then
 if 0≤(aI (aB+2)) then
 if (aI (aB+2))≤(text.length:Int) then
 if 0≤aB then
 if aB≤(aI (aB+2)) then
 (nX DX (cut text aB (aI (aB+2)))).bind fun r1=>
 bif r1 then
 some (aI (aB+2)) else
 if 0≤aB then
 if aB<(text.length:Int) then
 (kR gT ((text.getD aB.toNat 0).toNat:Int)).bind fun r2=>
 if 0≤r2 then
 some (aI (aB+1)) else
 some aB else none else none else none else none else none else none else
 if 0≤aB then
 if aB<(text.length:Int) then
 (kR gT ((text.getD aB.toNat 0).toNat:Int)).bind fun r3=>
 if 0≤r3 then
 some (aI (aB+1)) else
 some aB else none else none else none else none else
 if 0≤aB then
 if aB<(text.length:Int) then
 (kR gT ((text.getD aB.toNat 0).toNat:Int)).bind fun r4=>
 if 0≤r4 then
 some (aI (aB+1)) else
 some aB else none else none
theorem J5:aE Tryd.prog S (CO (qD)):=
 aY pk [G8,A_] ⟨KW,C7,trivial⟩ Tryd.func26 (by kernel_rfl) (fun _=>by kernel_rfl) (by kernel_rfl)
abbrev J_:=(List UInt8)→Int→Option (an×Int)
abbrev CR (f:J_):Entry S:=⟨11,[q0,q1],[q4,q1],fun x=>f x.1 x.2⟩
def qF  (text:List UInt8) (aB:Int):Option (an×Int):=if 0≤aB then
 if aB<(text.length:Int) then
 (kO ((text.getD aB.toNat 0).toNat:Int)).bind fun r1=>
 bif r1.2 then
 (qB text aB).bind fun r2=>
 if 0≤r2 then
 if r2≤(text.length:Int) then
 if 0≤aB then
 if aB≤r2 then
 (qC (cut text aB r2)).bind fun r3=>
 if r3.2≠0 then
 some (an.mk 0 0 0 [] 0,r3.2) else
 if 0≤r2 then
 if r2≤(text.length:Int) then
 if 0≤aB then
 if aB≤r2 then
 some (an.mk 2 aB r2 (cut text aB r2) r3.1,0) else none else none else none else none else none else none else none else none else
 bif r1.1 then
 (qB text aB).bind fun r4=>
 if 24<(aI (r4 - aB)) then
 some (an.mk 0 0 0 [] 0,13) else
 if 0≤r4 then
 if r4≤(text.length:Int) then
 if 0≤aB then
 if aB≤r4 then
 some (an.mk 1 aB r4 (cut text aB r4) 0,0) else none else none else none else none else
 (qD text aB).bind fun r5=>
 if r5=aB then
 some (an.mk 0 0 0 [] 0,10) else
 if 0≤r5 then
 if r5≤(text.length:Int) then
 if 0≤aB then
 if aB≤r5 then
 some (an.mk 3 aB r5 (cut text aB r5) 0,0) else none else none else none else none else none else none
theorem J9:aE Tryd.prog S (CR (qF)):=
 aY pk [x9 kO,CL qB,CN qC,CO qD] ⟨CM,J0,J3,J5,trivial⟩ Tryd.func11 (by kernel_rfl) (fun _=>by kernel_rfl) (by kernel_rfl)
abbrev JY:=(List UInt8)→Option (List an×aR)
abbrev CJ (f:JY):Entry S:=⟨7,[q0],[q5,q6],fun x=>f x⟩
def l_:Nat→(List UInt8)→Int→Int→(List an)→Int→Option (List an×aR)
 | 0,_,_,_,_,_=>none
 | k+1,text,OR,OQ,l,aB=>if aB<(text.length:Int) then
  (qF text aB).bind fun r2=>
  if r2.2≠0 then
  some ([],aR.mk r2.2 aB) else
  if (l.length+ [r2.1].length)*48≤140737488355328 then
  (qE text r2.1.End).bind fun r3=>
  l_ k text OR OQ (l++ [r2.1]) r3 else none else
  if (l.length+ [an.mk 4 aB aB [] 0].length)*48≤140737488355328 then
  some (l++ [an.mk 4 aB aB [] 0],aR.mk 0 0) else none
def x7 (k:Nat) (text:List UInt8):Option (List an×aR):=if 16384<(text.length:Int) then
 some ([],aR.mk 13 16384) else
 (qE text 0).bind fun r1=>
 l_ k text 0 0 [] r1
def tS  (text:List UInt8):Option (List an×aR):=dh (fun k (x:List UInt8)=>x7 k x) text
theorem JX:aE Tryd.prog S (CJ (tS)):=gv (fun k x=>x7 k x) (fun _=>rfl) fun k=>
 fq pk [CQ qE,CR qF] ⟨J7,J9,trivial⟩ Tryd.func7 [] k (fun k=> [(0,⟨[0,3,4,5],[q0,q7,q5,q1],fun x=>l_ k x.1 x.2.1.1 x.2.1.2 x.2.2.1 x.2.2.2,false⟩)]) ⟨fun _=>rfl,trivial⟩ (fun _=>by kernel_rfl) (fun _=>by kernel_rfl) (by kernel_rfl)
abbrev L2:=av→Option (Bool×av)
abbrev ur (f:L2):Entry S:=⟨9,[q8],[q3],fun x=>f x⟩
def jr  (r_:av):Option (Bool×av):=some (decide (r_.Row.aj.Code=0),r_)
theorem yZ:aE Tryd.prog S (ur (jr)):=
 aY pk [] trivial Tryd.func9 (by kernel_rfl) (fun _=>by kernel_rfl) (by kernel_rfl)
abbrev LM:=av→Option (an×av)
abbrev iK (f:LM):Entry S:=⟨20,[q8],[q4],fun x=>f x⟩
def dx  (r_:av):Option (an×av):=(jr r_).bind fun r1=>
 bif !r1.1 then
 some (an.mk 4 0 0 [] 0,r1.2) else
 if r1.2.Row.At<0 then
 some (an.mk 4 0 0 [] 0,r1.2) else
 if (r1.2.Row.L.length:Int)≤r1.2.Row.At then
 some (an.mk 4 0 0 [] 0,r1.2) else
 if 0≤r1.2.Row.At then
 if r1.2.Row.At<(r1.2.Row.L.length:Int) then
 some (r1.2.Row.L.getD r1.2.Row.At.toNat an.z,r1.2) else none else none
theorem jo:aE Tryd.prog S (iK (dx)):=
 aY pk [ur jr] ⟨yZ,trivial⟩ Tryd.func20 (by kernel_rfl) (fun _=>by kernel_rfl) (by kernel_rfl)
abbrev LH:=av→(List UInt8)→Option (Bool×av)
abbrev yV (f:LH):Entry S:=⟨28,[q8,q0],[q3],fun x=>f x.1 x.2⟩
def gL  (r_:av) (s:List UInt8):Option (Bool×av):=(dx r_).bind fun r1=>
 if r1.1.Kind=3 then
 some (decide (r1.1.Text=s),r1.2) else
 if r1.1.Kind=1 then
 some (decide (r1.1.Text=s),r1.2) else
 some (false,r1.2)
theorem Dt:aE Tryd.prog S (yV (gL)):=
 aY pk [iK dx] ⟨jo,trivial⟩ Tryd.func28 (by kernel_rfl) (fun _=>by kernel_rfl) (by kernel_rfl)
abbrev L6:=av→(List UInt8)→Option (Bool×av)
abbrev qY (f:L6):Entry S:=⟨27,[q8,q0],[q3],fun x=>f x.1 x.2⟩
def fT  (r_:av) (s:List UInt8):Option (Bool×av):=(gL r_ s).bind fun r1=>
 bif r1.1 then
 some (r1.1,av.mk (aV.mk r1.2.Row.L (aI (r1.2.Row.At+1)) r1.2.Row.aj)) else
 some (r1.1,r1.2)
theorem uu:aE Tryd.prog S (qY (fT)):=
 aY pk [yV gL] ⟨Dt,trivial⟩ Tryd.func27 (by kernel_rfl) (fun _=>by kernel_rfl) (by kernel_rfl)
abbrev Lw:=av→Int→Int→Option av
abbrev ud (f:Lw):Entry S:=⟨16,[q8,q1,q1],[],fun x=>f x.1 x.2.1 x.2.2⟩
def fS  (r_:av) (code:Int) (aB:Int):Option av:=(jr r_).bind fun r1=>
 bif r1.1 then
 some (av.mk (aV.mk r1.2.Row.L r1.2.Row.At (aR.mk code aB))) else
 some r1.2
theorem yP:aE Tryd.prog S (ud (fS)):=
 aY pk [ur jr] ⟨yZ,trivial⟩ Tryd.func16 (by kernel_rfl) (fun _=>by kernel_rfl) (by kernel_rfl)
abbrev Mh:=av→Option av
abbrev rm (f:Mh):Entry S:=⟨21,[q8],[],fun x=>f x⟩
def iM  (r_:av):Option av:=(dx r_).bind fun r1=>
 if r1.1.Kind=4 then
 (fS r1.2 12 r1.1.At).bind fun r2=>
 some r2 else
 (fS r1.2 11 r1.1.At).bind fun r3=>
 some r3
theorem uz:aE Tryd.prog S (rm (iM)):=
 aY pk [iK dx,ud fS] ⟨jo,yP,trivial⟩ Tryd.func21 (by kernel_rfl) (fun _=>by kernel_rfl) (by kernel_rfl)
abbrev Md:=av→(List UInt8)→Option av
abbrev k6 (f:Md):Entry S:=⟨12,[q8,q0],[],fun x=>f x.1 x.2⟩
def cg  (r_:av) (s:List UInt8):Option av:=(fT r_ s).bind fun r1=>
 bif !r1.1 then
 (iM r1.2).bind fun r2=>
 some r2 else
 some r1.2
theorem mu:aE Tryd.prog S (k6 (cg)):=
 aY pk [qY fT,rm iM] ⟨uu,uz,trivial⟩ Tryd.func12 (by kernel_rfl) (fun _=>by kernel_rfl) (by kernel_rfl)
abbrev LX:=av→Option (Int×av)
abbrev yX (f:LX):Entry S:=⟨13,[q8],[q1],fun x=>f x⟩
def mq  (r_:av):Option (Int×av):=(dx r_).bind fun r1=>
 if r1.1.Kind≠2 then
 (iM r1.2).bind fun r2=>
 some (0,r2) else
 some (r1.1.N,av.mk (aV.mk r1.2.Row.L (aI (r1.2.Row.At+1)) r1.2.Row.aj))
theorem Dx:aE Tryd.prog S (yX (mq)):=
 aY pk [iK dx,rm iM] ⟨jo,uz,trivial⟩ Tryd.func13 (by kernel_rfl) (fun _=>by kernel_rfl) (by kernel_rfl)
abbrev Nu:=av→(List UInt8)→Int→Int→Option (Bool×av)
abbrev zJ (f:Nu):Entry S:=⟨14,[q8,q0,q1,q1],[q3],fun x=>f x.1 x.2.1 x.2.2.1 x.2.2.2⟩
def gx  (r_:av) (word:List UInt8) (OE:Int) (most:Int):Option (Bool×av):=(gL r_ word).bind fun r1=>
 bif r1.1 then
 if OE=most then
 (dx r1.2).bind fun r2=>
 (fS r2.2 15 r2.1.At).bind fun r3=>
 (gL r3 word).bind fun r4=>
 some (r4.1,r4.2) else
 (gL r1.2 word).bind fun r5=>
 some (r5.1,r5.2) else
 (gL r1.2 word).bind fun r6=>
 some (r6.1,r6.2)
theorem El:aE Tryd.prog S (zJ (gx)):=
 aY pk [yV gL,iK dx,ud fS] ⟨Dt,jo,yP,trivial⟩ Tryd.func14 (by kernel_rfl) (fun _=>by kernel_rfl) (by kernel_rfl)
abbrev L1:=aA→Option (Bool×aA)
abbrev qV (f:L1):Entry S:=⟨9,[q9],[q3],fun x=>f x⟩
def jq  (r_:aA):Option (Bool×aA):=some (decide (r_.Row.aj.Code=0),r_)
theorem uq:aE Tryd.prog S (qV (jq)):=
 aY pk [] trivial Tryd.func9 (by kernel_rfl) (fun _=>by kernel_rfl) (by kernel_rfl)
abbrev LK:=aA→Option (an×aA)
abbrev j8 (f:LK):Entry S:=⟨20,[q9],[q4],fun x=>f x⟩
def ep  (r_:aA):Option (an×aA):=(jq r_).bind fun r1=>
 bif !r1.1 then
 some (an.mk 4 0 0 [] 0,r1.2) else
 if r1.2.Row.At<0 then
 some (an.mk 4 0 0 [] 0,r1.2) else
 if (r1.2.Row.L.length:Int)≤r1.2.Row.At then
 some (an.mk 4 0 0 [] 0,r1.2) else
 if 0≤r1.2.Row.At then
 if r1.2.Row.At<(r1.2.Row.L.length:Int) then
 some (r1.2.Row.L.getD r1.2.Row.At.toNat an.z,r1.2) else none else none
theorem kX:aE Tryd.prog S (j8 (ep)):=
 aY pk [qV jq] ⟨uq,trivial⟩ Tryd.func20 (by kernel_rfl) (fun _=>by kernel_rfl) (by kernel_rfl)
abbrev LG:=aA→(List UInt8)→Option (Bool×aA)
abbrev qS (f:LG):Entry S:=⟨28,[q9,q0],[q3],fun x=>f x.1 x.2⟩
def fD  (r_:aA) (s:List UInt8):Option (Bool×aA):=(ep r_).bind fun r1=>
 if r1.1.Kind=3 then
 some (decide (r1.1.Text=s),r1.2) else
 if r1.1.Kind=1 then
 some (decide (r1.1.Text=s),r1.2) else
 some (false,r1.2)
theorem ug:aE Tryd.prog S (qS (fD)):=
 aY pk [j8 ep] ⟨kX,trivial⟩ Tryd.func28 (by kernel_rfl) (fun _=>by kernel_rfl) (by kernel_rfl)
abbrev L5:=aA→(List UInt8)→Option (Bool×aA)
abbrev oe (f:L5):Entry S:=⟨27,[q9,q0],[q3],fun x=>f x.1 x.2⟩
def eB  (r_:aA) (s:List UInt8):Option (Bool×aA):=(fD r_ s).bind fun r1=>
 bif r1.1 then
 some (r1.1,aA.mk (aV.mk r1.2.Row.L (aI (r1.2.Row.At+1)) r1.2.Row.aj)) else
 some (r1.1,r1.2)
theorem qX:aE Tryd.prog S (oe (eB)):=
 aY pk [qS fD] ⟨ug,trivial⟩ Tryd.func27 (by kernel_rfl) (fun _=>by kernel_rfl) (by kernel_rfl)
abbrev Lv:=aA→Int→Int→Option aA
abbrev uc (f:Lv):Entry S:=⟨16,[q9,q1,q1],[],fun x=>f x.1 x.2.1 x.2.2⟩
def kV  (r_:aA) (code:Int) (aB:Int):Option aA:=(jq r_).bind fun r1=>
 bif r1.1 then
 some (aA.mk (aV.mk r1.2.Row.L r1.2.Row.At (aR.mk code aB))) else
 some r1.2
theorem yO:aE Tryd.prog S (uc (kV)):=
 aY pk [qV jq] ⟨uq,trivial⟩ Tryd.func16 (by kernel_rfl) (fun _=>by kernel_rfl) (by kernel_rfl)
abbrev Mg:=aA→Option aA
abbrev uy (f:Mg):Entry S:=⟨21,[q9],[],fun x=>f x⟩
def mz  (r_:aA):Option aA:=(ep r_).bind fun r1=>
 if r1.1.Kind=4 then
 (kV r1.2 12 r1.1.At).bind fun r2=>
 some r2 else
 (kV r1.2 11 r1.1.At).bind fun r3=>
 some r3
theorem y6:aE Tryd.prog S (uy (mz)):=
 aY pk [j8 ep,uc kV] ⟨kX,yO,trivial⟩ Tryd.func21 (by kernel_rfl) (fun _=>by kernel_rfl) (by kernel_rfl)
abbrev Mc:=aA→(List UInt8)→Option aA
abbrev og (f:Mc):Entry S:=⟨12,[q9,q0],[],fun x=>f x.1 x.2⟩
def dI  (r_:aA) (s:List UInt8):Option aA:=(eB r_ s).bind fun r1=>
 bif !r1.1 then
 (mz r1.2).bind fun r2=>
 some r2 else
 some r1.2
theorem ri:aE Tryd.prog S (og (dI)):=
 aY pk [oe eB,uy mz] ⟨qX,y6,trivial⟩ Tryd.func12 (by kernel_rfl) (fun _=>by kernel_rfl) (by kernel_rfl)
abbrev JZ:=(List UInt8)→Option Bool
abbrev qA (f:JZ):Entry S:=⟨48,[q0],[q3],fun x=>f x⟩
def iD  (s:List UInt8):Option Bool:=if s=mO then
 if s=mO then
 some true else
 some false else
 if s=mG then
 if s=mG then
 some true else
 some false else
 if s=jy then
 if s=jy then
 some true else
 some false else
 if s=rM then
 if s=rM then
 some true else
 some false else
 if s=rE then
 if s=rE then
 some true else
 some false else
 if s=u_ then
 if s=u_ then
 some true else
 some false else
 if s=uY then
 if s=uY then
 some true else
 some false else
 if s=u9 then
 if s=u9 then
 some true else
 some false else
 if s=mN then
 if s=mN then
 some true else
 some false else
 if s=mL then
 if s=mL then
 some true else
 some false else
 if s=mI then
 if s=mI then
 some true else
 some false else
 if s=mH then
 if s=mH then
 some true else
 some false else
 if s=uO then
 if s=uO then
 some true else
 some false else
 if s=uQ then
 if s=uQ then
 some true else
 some false else
 if s=rI then
 if s=rI then
 some true else
 some false else
 if s=rz then
 if s=rz then
 some true else
 some false else
 if s=uZ then
 if s=uZ then
 some true else
 some false else
 if s=u0 then
 if s=u0 then
 some true else
 some false else
 if s=uH then
 if s=uH then
 some true else
 some false else
 if s=uK then
 if s=uK then
 some true else
 some false else
 if s=rF then
 if s=rF then
 some true else
 some false else
 if s=uN then
 if s=uN then
 some true else
 some false else
 if s=rH then
 if s=rH then
 some true else
 some false else
 if s=rG then
 if s=rG then
 some true else
 some false else
 if s=jz then
 if s=jz then
 some true else
 some false else
 if s=rK then
 if s=rK then
 some true else
 some false else
 if s=rD then
 if s=rD then
 some true else
 some false else
 if s=mM then
 if s=mM then
 some true else
 some false else
 if s=gR then
 if s=gR then
 some true else
 some false else
 if s=rA then
 if s=rA then
 some true else
 some false else
 if s=ou then
 if s=ou then
 some true else
 some false else
 if s=uT then
 if s=uT then
 some true else
 some false else
 if s=uL then
 if s=uL then
 some true else
 some false else
 if s=rB then
 if s=rB then
 some true else
 some false else
 if s=zi then
 some true else
 some false
theorem tT:aE Tryd.prog S (qA (iD)):=
 aY pk [] trivial Tryd.func48 (by kernel_rfl) (fun _=>by kernel_rfl) (by kernel_rfl)
abbrev LB:=aA→Option (Bool×aA)
abbrev Dq (f:LB):Entry S:=⟨41,[q9],[q3],fun x=>f x⟩
def qR  (r_:aA):Option (Bool×aA):=(ep r_).bind fun r1=>
 if r1.1.Kind=1 then
 (iD r1.1.Text).bind fun r2=>
 some (!r2,r1.2) else
 some (false,r1.2)
theorem LA:aE Tryd.prog S (Dq (qR)):=
 aY pk [j8 ep,qA iD] ⟨kX,tT,trivial⟩ Tryd.func41 (by kernel_rfl) (fun _=>by kernel_rfl) (by kernel_rfl)
abbrev LQ:=aA→Option (List UInt8×aA)
abbrev qU (f:LQ):Entry S:=⟨30,[q9],[q0],fun x=>f x⟩
def gM  (r_:aA):Option (List UInt8×aA):=(qR r_).bind fun r1=>
 bif !r1.1 then
 (mz r1.2).bind fun r2=>
 some ([],r2) else
 if 0≤(aI ((aI (r1.2.Row.At+1)) - 1)) then
 if (aI ((aI (r1.2.Row.At+1)) - 1))<(r1.2.Row.L.length:Int) then
 some ((r1.2.Row.L.getD (aI ((aI (r1.2.Row.At+1)) - 1)).toNat an.z).Text,aA.mk (aV.mk r1.2.Row.L (aI (r1.2.Row.At+1)) r1.2.Row.aj)) else none else none
theorem um:aE Tryd.prog S (qU (gM)):=
 aY pk [Dq qR,uy mz] ⟨LA,y6,trivial⟩ Tryd.func30 (by kernel_rfl) (fun _=>by kernel_rfl) (by kernel_rfl)
abbrev LW:=aA→Option (Int×aA)
abbrev Dw (f:LW):Entry S:=⟨13,[q9],[q1],fun x=>f x⟩
def mo  (r_:aA):Option (Int×aA):=(ep r_).bind fun r1=>
 if r1.1.Kind≠2 then
 (mz r1.2).bind fun r2=>
 some (0,r2) else
 some (r1.1.N,aA.mk (aV.mk r1.2.Row.L (aI (r1.2.Row.At+1)) r1.2.Row.aj))
theorem LV:aE Tryd.prog S (Dw (mo)):=
 aY pk [j8 ep,uy mz] ⟨kX,y6,trivial⟩ Tryd.func13 (by kernel_rfl) (fun _=>by kernel_rfl) (by kernel_rfl)
abbrev GF:=aA→Option (cT×aA)
abbrev wg (f:GF):Entry S:=⟨38,[q9],[Le],fun x=>f x⟩
def pn  (r_:aA):Option (cT×aA):=(ep r_).bind fun r1=>
 (gM r1.2).bind fun r2=>
 some (cT.mk r2.1 0 r1.1.At,r2.2)
theorem AO:aE Tryd.prog S (wg (pn)):=
 aY pk [j8 ep,qU gM] ⟨kX,um,trivial⟩ Tryd.func38 (by kernel_rfl) (fun _=>by kernel_rfl) (by kernel_rfl)
abbrev GH:=aA→(List UInt8)→Option (List cT×aA)
abbrev AQ (f:GH):Entry S:=⟨39,[q9,q0],[Db],fun x=>f x.1 x.2⟩
def pz:Nat→(List an)→Int→Int→Int→(List UInt8)→(List cT)→Option (List cT×aA)
 | 0,_,_,_,_,_,_=>none
 | k+1,bJ,bG,bI,bH,word,l=>(eB (aA.mk (aV.mk bJ bG (aR.mk bI bH))) word).bind fun r1=>
  bif r1.1 then
  (pn r1.2).bind fun r2=>
  if (l.length+ [r2.1].length)*32≤140737488355328 then
  (dI r2.2 dM).bind fun r3=>
  pz k r3.Row.L r3.Row.At r3.Row.aj.Code r3.Row.aj.At word (l++ [r2.1]) else none else
  some (l,r1.2)
def AP (k:Nat) (r_:aA) (word:List UInt8):Option (List cT×aA):=pz k r_.Row.L r_.Row.At r_.Row.aj.Code r_.Row.aj.At word []
def pq  (r_:aA) (word:List UInt8):Option (List cT×aA):=dh (fun k (x:aA×List UInt8)=>AP k x.1 x.2) (r_,word)
theorem GG:aE Tryd.prog S (AQ (pq)):=gv (fun k x=>AP k x.1 x.2) (fun _=>rfl) fun k=>
 fq pk [oe eB,wg pn,og dI] ⟨qX,AO,ri,trivial⟩ Tryd.func39 [] k (fun k=> [(0,⟨[0,1,5],[eo,q0,Db],fun x=>pz k x.1.1 x.1.2.1 x.1.2.2.1 x.1.2.2.2 x.2.1 x.2.2,false⟩)]) ⟨fun _=>rfl,trivial⟩ (fun _=>by kernel_rfl) (fun _=>by kernel_rfl) (by kernel_rfl)
abbrev Gx:=aA→Option (Int×aA)
abbrev AI (f:Gx):Entry S:=⟨46,[q9],[q1],fun x=>f x⟩
def kH  (r_:aA):Option (Int×aA):=(fD r_ mN).bind fun r1=>
 bif r1.1 then
 some (1,r1.2) else
 (fD r1.2 mL).bind fun r2=>
 bif r2.1 then
 some (2,r2.2) else
 (fD r2.2 mI).bind fun r3=>
 bif r3.1 then
 some (3,r3.2) else
 (fD r3.2 mH).bind fun r4=>
 bif r4.1 then
 some (4,r4.2) else
 some (0,r4.2)
theorem Gw:aE Tryd.prog S (AI (kH)):=
 aY pk [qS fD] ⟨ug,trivial⟩ Tryd.func46 (by kernel_rfl) (fun _=>by kernel_rfl) (by kernel_rfl)
abbrev L3:=aM→Option (Bool×aM)
abbrev oa (f:L3):Entry S:=⟨9,[fc],[q3],fun x=>f x⟩
def iL  (r_:aM):Option (Bool×aM):=some (decide (r_.Row.aj.Code=0),r_)
theorem qW:aE Tryd.prog S (oa (iL)):=
 aY pk [] trivial Tryd.func9 (by kernel_rfl) (fun _=>by kernel_rfl) (by kernel_rfl)
abbrev LN:=aM→Option (an×aM)
abbrev mj (f:LN):Entry S:=⟨20,[fc],[q4],fun x=>f x⟩
def gr  (r_:aM):Option (an×aM):=(iL r_).bind fun r1=>
 bif !r1.1 then
 some (an.mk 4 0 0 [] 0,r1.2) else
 if r1.2.Row.At<0 then
 some (an.mk 4 0 0 [] 0,r1.2) else
 if (r1.2.Row.L.length:Int)≤r1.2.Row.At then
 some (an.mk 4 0 0 [] 0,r1.2) else
 if 0≤r1.2.Row.At then
 if r1.2.Row.At<(r1.2.Row.L.length:Int) then
 some (r1.2.Row.L.getD r1.2.Row.At.toNat an.z,r1.2) else none else none
theorem n9:aE Tryd.prog S (mj (gr)):=
 aY pk [oa iL] ⟨qW,trivial⟩ Tryd.func20 (by kernel_rfl) (fun _=>by kernel_rfl) (by kernel_rfl)
abbrev LI:=aM→(List UInt8)→Option (Bool×aM)
abbrev qT (f:LI):Entry S:=⟨28,[fc,q0],[q3],fun x=>f x.1 x.2⟩
def jn  (r_:aM) (s:List UInt8):Option (Bool×aM):=(gr r_).bind fun r1=>
 if r1.1.Kind=3 then
 some (decide (r1.1.Text=s),r1.2) else
 if r1.1.Kind=1 then
 some (decide (r1.1.Text=s),r1.2) else
 some (false,r1.2)
theorem uh:aE Tryd.prog S (qT (jn)):=
 aY pk [mj gr] ⟨n9,trivial⟩ Tryd.func28 (by kernel_rfl) (fun _=>by kernel_rfl) (by kernel_rfl)
abbrev Ly:=aM→Int→Int→Option aM
abbrev ue (f:Ly):Entry S:=⟨16,[fc,q1,q1],[],fun x=>f x.1 x.2.1 x.2.2⟩
def kU  (r_:aM) (code:Int) (aB:Int):Option aM:=(iL r_).bind fun r1=>
 bif r1.1 then
 some (aM.mk (aV.mk r1.2.Row.L r1.2.Row.At (aR.mk code aB)) r1.2.cS) else
 some r1.2
theorem yQ:aE Tryd.prog S (ue (kU)):=
 aY pk [oa iL] ⟨qW,trivial⟩ Tryd.func16 (by kernel_rfl) (fun _=>by kernel_rfl) (by kernel_rfl)
abbrev L8:=aM→(List UInt8)→Option (Bool×aM)
abbrev qZ (f:L8):Entry S:=⟨27,[fc,q0],[q3],fun x=>f x.1 x.2⟩
def gu  (r_:aM) (s:List UInt8):Option (Bool×aM):=(jn r_ s).bind fun r1=>
 bif r1.1 then
 some (r1.1,aM.mk (aV.mk r1.2.Row.L (aI (r1.2.Row.At+1)) r1.2.Row.aj) r1.2.cS) else
 some (r1.1,r1.2)
theorem uv:aE Tryd.prog S (qZ (gu)):=
 aY pk [qT jn] ⟨uh,trivial⟩ Tryd.func27 (by kernel_rfl) (fun _=>by kernel_rfl) (by kernel_rfl)
abbrev Mi:=aM→Option aM
abbrev rq (f:Mi):Entry S:=⟨21,[fc],[],fun x=>f x⟩
def js  (r_:aM):Option aM:=(gr r_).bind fun r1=>
 if r1.1.Kind=4 then
 (kU r1.2 12 r1.1.At).bind fun r2=>
 some r2 else
 (kU r1.2 11 r1.1.At).bind fun r3=>
 some r3
theorem uA:aE Tryd.prog S (rq (js)):=
 aY pk [mj gr,ue kU] ⟨n9,yQ,trivial⟩ Tryd.func21 (by kernel_rfl) (fun _=>by kernel_rfl) (by kernel_rfl)
abbrev Me:=aM→(List UInt8)→Option aM
abbrev rj (f:Me):Entry S:=⟨12,[fc,q0],[],fun x=>f x.1 x.2⟩
def eM  (r_:aM) (s:List UInt8):Option aM:=(gu r_ s).bind fun r1=>
 bif !r1.1 then
 (js r1.2).bind fun r2=>
 some r2 else
 some r1.2
theorem uw:aE Tryd.prog S (rj (eM)):=
 aY pk [qZ gu,rq js] ⟨uv,uA,trivial⟩ Tryd.func12 (by kernel_rfl) (fun _=>by kernel_rfl) (by kernel_rfl)
abbrev LD:=aM→Option (Bool×aM)
abbrev yT (f:LD):Entry S:=⟨41,[fc],[q3],fun x=>f x⟩
def qP  (r_:aM):Option (Bool×aM):=(gr r_).bind fun r1=>
 if r1.1.Kind=1 then
 (iD r1.1.Text).bind fun r2=>
 some (!r2,r1.2) else
 some (false,r1.2)
theorem Ds:aE Tryd.prog S (yT (qP)):=
 aY pk [mj gr,qA iD] ⟨n9,tT,trivial⟩ Tryd.func41 (by kernel_rfl) (fun _=>by kernel_rfl) (by kernel_rfl)
abbrev LU:=aM→Option (List UInt8×aM)
abbrev Dv (f:LU):Entry S:=⟨30,[fc],[q0],fun x=>f x⟩
def kY  (r_:aM):Option (List UInt8×aM):=(qP r_).bind fun r1=>
 bif !r1.1 then
 (js r1.2).bind fun r2=>
 some ([],r2) else
 if 0≤(aI ((aI (r1.2.Row.At+1)) - 1)) then
 if (aI ((aI (r1.2.Row.At+1)) - 1))<(r1.2.Row.L.length:Int) then
 some ((r1.2.Row.L.getD (aI ((aI (r1.2.Row.At+1)) - 1)).toNat an.z).Text,aM.mk (aV.mk r1.2.Row.L (aI (r1.2.Row.At+1)) r1.2.Row.aj) r1.2.cS) else none else none
theorem LS:aE Tryd.prog S (Dv (kY)):=
 aY pk [yT qP,rq js] ⟨Ds,uA,trivial⟩ Tryd.func30 (by kernel_rfl) (fun _=>by kernel_rfl) (by kernel_rfl)
abbrev L0:=aP→Option (Bool×aP)
abbrev uo (f:L0):Entry S:=⟨9,[gq],[q3],fun x=>f x⟩
def kZ  (r_:aP):Option (Bool×aP):=some (decide (r_.Row.aj.Code=0),r_)
theorem yY:aE Tryd.prog S (uo (kZ)):=
 aY pk [] trivial Tryd.func9 (by kernel_rfl) (fun _=>by kernel_rfl) (by kernel_rfl)
abbrev LJ:=aP→Option (an×aP)
abbrev mh (f:LJ):Entry S:=⟨20,[gq],[q4],fun x=>f x⟩
def fE  (r_:aP):Option (an×aP):=(kZ r_).bind fun r1=>
 bif !r1.1 then
 some (an.mk 4 0 0 [] 0,r1.2) else
 if r1.2.Row.At<0 then
 some (an.mk 4 0 0 [] 0,r1.2) else
 if (r1.2.Row.L.length:Int)≤r1.2.Row.At then
 some (an.mk 4 0 0 [] 0,r1.2) else
 if 0≤r1.2.Row.At then
 if r1.2.Row.At<(r1.2.Row.L.length:Int) then
 some (r1.2.Row.L.getD r1.2.Row.At.toNat an.z,r1.2) else none else none
theorem n8:aE Tryd.prog S (mh (fE)):=
 aY pk [uo kZ] ⟨yY,trivial⟩ Tryd.func20 (by kernel_rfl) (fun _=>by kernel_rfl) (by kernel_rfl)
abbrev LF:=aP→(List UInt8)→Option (Bool×aP)
abbrev uf (f:LF):Entry S:=⟨28,[gq,q0],[q3],fun x=>f x.1 x.2⟩
def kW  (r_:aP) (s:List UInt8):Option (Bool×aP):=(fE r_).bind fun r1=>
 if r1.1.Kind=3 then
 some (decide (r1.1.Text=s),r1.2) else
 if r1.1.Kind=1 then
 some (decide (r1.1.Text=s),r1.2) else
 some (false,r1.2)
theorem yU:aE Tryd.prog S (uf (kW)):=
 aY pk [mh fE] ⟨n8,trivial⟩ Tryd.func28 (by kernel_rfl) (fun _=>by kernel_rfl) (by kernel_rfl)
abbrev Lu:=aP→Int→Int→Option aP
abbrev yN (f:Lu):Entry S:=⟨16,[gq,q1,q1],[],fun x=>f x.1 x.2.1 x.2.2⟩
def n7  (r_:aP) (code:Int) (aB:Int):Option aP:=(kZ r_).bind fun r1=>
 bif r1.1 then
 some (aP.mk (aV.mk r1.2.Row.L r1.2.Row.At (aR.mk code aB)) r1.2.cS) else
 some r1.2
theorem Dn:aE Tryd.prog S (yN (n7)):=
 aY pk [uo kZ] ⟨yY,trivial⟩ Tryd.func16 (by kernel_rfl) (fun _=>by kernel_rfl) (by kernel_rfl)
abbrev Hj:=aP→Int→Option (Bool×aP)
abbrev wG (f:Hj):Entry S:=⟨85,[gq,q1],[q3],fun x=>f x.1 x.2⟩
def nA  (r_:aP) (aB:Int):Option (Bool×aP):=if r_.cS=12 then
 (n7 r_ 14 aB).bind fun r1=>
 some (false,r1) else
 some (true,aP.mk (aV.mk r_.Row.L (aI (r_.Row.At+1)) r_.Row.aj) (aI (r_.cS+1)))
theorem Bo:aE Tryd.prog S (wG (nA)):=
 aY pk [yN n7] ⟨Dn,trivial⟩ Tryd.func85 (by kernel_rfl) (fun _=>by kernel_rfl) (by kernel_rfl)
abbrev L4:=aP→(List UInt8)→Option (Bool×aP)
abbrev y4 (f:L4):Entry S:=⟨27,[gq,q0],[q3],fun x=>f x.1 x.2⟩
def oc  (r_:aP) (s:List UInt8):Option (Bool×aP):=(kW r_ s).bind fun r1=>
 bif r1.1 then
 some (r1.1,aP.mk (aV.mk r1.2.Row.L (aI (r1.2.Row.At+1)) r1.2.Row.aj) r1.2.cS) else
 some (r1.1,r1.2)
theorem Dz:aE Tryd.prog S (y4 (oc)):=
 aY pk [uf kW] ⟨yU,trivial⟩ Tryd.func27 (by kernel_rfl) (fun _=>by kernel_rfl) (by kernel_rfl)
abbrev Lz:=aP→Option (Bool×aP)
abbrev yR (f:Lz):Entry S:=⟨41,[gq],[q3],fun x=>f x⟩
def qQ  (r_:aP):Option (Bool×aP):=(fE r_).bind fun r1=>
 if r1.1.Kind=1 then
 (iD r1.1.Text).bind fun r2=>
 some (!r2,r1.2) else
 some (false,r1.2)
theorem Dp:aE Tryd.prog S (yR (qQ)):=
 aY pk [mh fE,qA iD] ⟨n8,tT,trivial⟩ Tryd.func41 (by kernel_rfl) (fun _=>by kernel_rfl) (by kernel_rfl)
abbrev Mf:=aP→Option aP
abbrev ux (f:Mf):Entry S:=⟨21,[gq],[],fun x=>f x⟩
def mw  (r_:aP):Option aP:=(fE r_).bind fun r1=>
 if r1.1.Kind=4 then
 (n7 r1.2 12 r1.1.At).bind fun r2=>
 some r2 else
 (n7 r1.2 11 r1.1.At).bind fun r3=>
 some r3
theorem y5:aE Tryd.prog S (ux (mw)):=
 aY pk [mh fE,yN n7] ⟨n8,Dn,trivial⟩ Tryd.func21 (by kernel_rfl) (fun _=>by kernel_rfl) (by kernel_rfl)
abbrev LP:=aP→Option (List UInt8×aP)
abbrev Du (f:LP):Entry S:=⟨30,[gq],[q0],fun x=>f x⟩
def uk  (r_:aP):Option (List UInt8×aP):=(qQ r_).bind fun r1=>
 bif !r1.1 then
 (mw r1.2).bind fun r2=>
 some ([],r2) else
 if 0≤(aI ((aI (r1.2.Row.At+1)) - 1)) then
 if (aI ((aI (r1.2.Row.At+1)) - 1))<(r1.2.Row.L.length:Int) then
 some ((r1.2.Row.L.getD (aI ((aI (r1.2.Row.At+1)) - 1)).toNat an.z).Text,aP.mk (aV.mk r1.2.Row.L (aI (r1.2.Row.At+1)) r1.2.Row.aj) r1.2.cS) else none else none
theorem LO:aE Tryd.prog S (Du (uk)):=
 aY pk [yR qQ,ux mw] ⟨Dp,y5,trivial⟩ Tryd.func30 (by kernel_rfl) (fun _=>by kernel_rfl) (by kernel_rfl)
abbrev L_:=aP→(List UInt8)→Option aP
abbrev DA (f:L_):Entry S:=⟨12,[gq,q0],[],fun x=>f x.1 x.2⟩
def q_  (r_:aP) (s:List UInt8):Option aP:=(oc r_ s).bind fun r1=>
 bif !r1.1 then
 (mw r1.2).bind fun r2=>
 some r2 else
 some r1.2
theorem L9:aE Tryd.prog S (DA (q_)):=
 aY pk [y4 oc,ux mw] ⟨Dz,y5,trivial⟩ Tryd.func12 (by kernel_rfl) (fun _=>by kernel_rfl) (by kernel_rfl)
abbrev iy:=aP→Int→Option (aS×aP)
abbrev jR (f:iy):Entry S:=⟨71,[gq,q1],[tY],fun x=>f x.1 x.2⟩
abbrev Hq:=aP→Option (aS×aP)
abbrev Bp (f:Hq):Entry S:=⟨84,[gq],[tY],fun x=>f x⟩
def wI (b7:iy)  (r_:aP):Option (aS×aP):=(fE r_).bind fun r1=>
 if r1.1.Kind=2 then
 some (aS.mk 1 r1.1.N [] [] r1.1.At,aP.mk (aV.mk r1.2.Row.L (aI (r1.2.Row.At+1)) r1.2.Row.aj) r1.2.cS) else
 (oc r1.2 DU).bind fun r2=>
 bif r2.1 then
 some (aS.mk 3 0 [] [] r1.1.At,r2.2) else
 (qQ r2.2).bind fun r3=>
 bif r3.1 then
 (uk r3.2).bind fun r4=>
 some (aS.mk 2 0 r4.1 [] r1.1.At,r4.2) else
 (oc r3.2 rG).bind fun r5=>
 bif r5.1 then
 (q_ r5.2 mJ).bind fun r6=>
 (uk r6).bind fun r7=>
 (q_ r7.2 rL).bind fun r8=>
 some (aS.mk 4 0 r7.1 [] r1.1.At,r8) else
 (kW r5.2 mJ).bind fun r9=>
 bif !r9.1 then
 (mw r9.2).bind fun bB=>
 some (aS.mk 0 0 [] [] 0,bB) else
 (nA r9.2 r1.1.At).bind fun cV=>
 bif !cV.1 then
 some (aS.mk 0 0 [] [] 0,cV.2) else
 (b7 cV.2 1).bind fun cB=>
 (q_ cB.2 rL).bind fun cJ=>
 some (aS.mk cB.1.Kind cB.1.N cB.1.Name cB.1.Kids cB.1.At,aP.mk cJ.Row (aI (cJ.cS - 1)))
theorem Hp (b7:iy) (kJ:aE Tryd.prog S (jR b7)):aE Tryd.prog S (Bp (wI b7)):=
 aY pk [mh fE,y4 oc,yR qQ,Du uk,DA q_,uf kW,ux mw,wG nA,jR b7] ⟨n8,Dz,Dp,LO,L9,yU,y5,Bo,kJ,trivial⟩ Tryd.func84 (by kernel_rfl) (fun _=>by kernel_rfl) (by kernel_rfl)
abbrev wJ:=aP→Option (aS×aP)
abbrev pP (f:wJ):Entry S:=⟨74,[gq],[tY],fun x=>f x⟩
def Bq (ov:wJ) (b7:iy) (k:Nat) (r_:aP):Option (aS×aP):=(fE r_).bind fun r1=>
 (kW r1.2 mK).bind fun r2=>
 bif r2.1 then
 (nA r2.2 r1.1.At).bind fun r3=>
 bif !r3.1 then
 some (aS.mk 0 0 [] [] 0,r3.2) else
 (ov r3.2).bind fun r4=>
 some (aS.mk 5 0 [] [aS.mk r4.1.Kind r4.1.N r4.1.Name r4.1.Kids r4.1.At] r1.1.At,aP.mk r4.2.Row (aI (r4.2.cS - 1))) else
 (kW r2.2 DT).bind fun r5=>
 bif r5.1 then
 (nA r5.2 r1.1.At).bind fun r6=>
 bif !r6.1 then
 some (aS.mk 0 0 [] [] 0,r6.2) else
 (ov r6.2).bind fun r7=>
 some (aS.mk 6 0 [] [aS.mk r7.1.Kind r7.1.N r7.1.Name r7.1.Kids r7.1.At] r1.1.At,aP.mk r7.2.Row (aI (r7.2.cS - 1))) else
 (wI b7 r5.2).bind fun r8=>
 some (aS.mk r8.1.Kind r8.1.N r8.1.Name r8.1.Kids r8.1.At,r8.2)
def pO (b7:iy):Nat→aP→Option (aS×aP)
 | 0,_=>none
 | k+1,x0=>Bq (pO b7 k) b7 k x0
def pN (b7:iy)  (r_:aP):Option (aS×aP):=dh (fun k (x:aP)=>pO b7 k x) r_
theorem Hs (ov:wJ) (b7:iy) (k:Nat) (Ia:aE Tryd.prog S (pP ov)) (kJ:aE Tryd.prog S (jR b7)):aE Tryd.prog S (pP (Bq ov b7 k)):=
 aY pk [mh fE,uf kW,wG nA,pP ov,Bp (wI b7)] ⟨n8,yU,Bo,Ia,Hp b7 kJ,trivial⟩ Tryd.func74 (by kernel_rfl) (fun _=>by kernel_rfl) (by kernel_rfl)
theorem Hr (b7:iy) (kJ:aE Tryd.prog S (jR b7)):aE Tryd.prog S (pP (pN b7)):=vg (fun k x=>pO b7 k x) (fun _=>rfl) Tryd.func74 (by kernel_rfl) (fun _=>rfl) fun k h=>Hs (pO b7 k) b7 k h kJ
abbrev Hu:=(List UInt8)→Option (Int×Int)
abbrev Br (f:Hu):Entry S:=⟨75,[q0],[q1,q1],fun x=>f x⟩
def pQ  (text:List UInt8):Option (Int×Int):=if text=uJ then
 some (19,1) else
 if text=uG then
 some (18,2) else
 if text=uU then
 some (12,3) else
 if text=uV then
 some (13,3) else
 if text=uR then
 some (14,3) else
 if text=uS then
 some (15,3) else
 if text=uP then
 some (16,3) else
 if text=uI then
 some (17,3) else
 if text=rJ then
 some (10,4) else
 if text=mK then
 some (11,4) else
 if text=u7 then
 some (7,5) else
 if text=u5 then
 some (8,5) else
 if text=uX then
 some (9,5) else
 some (0,0)
theorem Ht:aE Tryd.prog S (Br (pQ)):=
 aY pk [] trivial Tryd.func75 (by kernel_rfl) (fun _=>by kernel_rfl) (by kernel_rfl)
def pM (b7:iy):Nat→(List an)→Int→Int→Int→Int→Int→Int→Int→(List UInt8)→(List aS)→Int→Int→Int→(List UInt8)→(List aS)→Int→Option (aS×aP)
 | 0,_,_,_,_,_,_,_,_,_,_,_,_,_,_,_,_=>none
 | k+1,bJ,bG,bI,bH,qO,level,OU,OV,OW,OT,OS,s6,s7,s8,sZ,sY=>(fE (aP.mk (aV.mk bJ bG (aR.mk bI bH)) qO)).bind fun r3=>
  (pQ r3.1.Text).bind fun r4=>
  if r3.1.Kind≠3 then
  some (aS.mk s6 s7 s8 sZ sY,r3.2) else
  if r4.2≠level then
  some (aS.mk s6 s7 s8 sZ sY,r3.2) else
  (b7 (aP.mk (aV.mk r3.2.Row.L (aI (r3.2.Row.At+1)) r3.2.Row.aj) r3.2.cS) (aI (level+1))).bind fun r5=>
  if level=3 then
  some (aS.mk r4.1 0 [] [aS.mk s6 s7 s8 sZ sY,aS.mk r5.1.Kind r5.1.N r5.1.Name r5.1.Kids r5.1.At] r3.1.At,r5.2) else
  pM b7 k r5.2.Row.L r5.2.Row.At r5.2.Row.aj.Code r5.2.Row.aj.At r5.2.cS level OU OV OW OT OS r4.1 0 [] [aS.mk s6 s7 s8 sZ sY,aS.mk r5.1.Kind r5.1.N r5.1.Name r5.1.Kids r5.1.At] r3.1.At
def nB (b7:iy) (k:Nat) (r_:aP) (level:Int):Option (aS×aP):=if level=6 then
 (pN b7 r_).bind fun r1=>
 some (aS.mk r1.1.Kind r1.1.N r1.1.Name r1.1.Kids r1.1.At,r1.2) else
 (b7 r_ (aI (level+1))).bind fun r2=>
 pM b7 k r2.2.Row.L r2.2.Row.At r2.2.Row.aj.Code r2.2.Row.aj.At r2.2.cS level 0 0 [] [] 0 r2.1.Kind r2.1.N r2.1.Name r2.1.Kids r2.1.At
def fm:Nat→aP→Int→Option (aS×aP)
 | 0,_,_=>none
 | k+1,x0,x1=>nB (fm k) k x0 x1
def wH  (r_:aP) (level:Int):Option (aS×aP):=dh (fun k (x:aP×Int)=>fm k x.1 x.2) (r_,level)
theorem Ho (b7:iy) (k:Nat) (kJ:aE Tryd.prog S (jR b7)):aE Tryd.prog S (jR (nB b7 k)):=
 fq pk [pP (pN b7),jR b7,mh fE,Br pQ] ⟨Hr b7 kJ,kJ,n8,Ht,trivial⟩ Tryd.func71 [] k (fun k=> [(0,⟨[0,1,4,5],[yE,q1,Lf,Lg],fun x=>pM b7 k x.1.1 x.1.2.1 x.1.2.2.1 x.1.2.2.2.1 x.1.2.2.2.2 x.2.1 x.2.2.1.1 x.2.2.1.2.1 x.2.2.1.2.2.1 x.2.2.1.2.2.2.1 x.2.2.1.2.2.2.2 x.2.2.2.1 x.2.2.2.2.1 x.2.2.2.2.2.1 x.2.2.2.2.2.2.1 x.2.2.2.2.2.2.2,false⟩)]) ⟨fun _=>rfl,trivial⟩ (fun _=>by kernel_rfl) (fun _=>by kernel_rfl) (by kernel_rfl)
theorem Hl:aE Tryd.prog S (jR (wH)):=vg (fun k x=>fm k x.1 x.2) (fun _=>rfl) Tryd.func71 (by kernel_rfl) (fun _=>rfl) fun k h=>Ho (fm k) k h
abbrev Hi:=(List an)→Int→Option (aS×Int×aR)
abbrev wF (f:Hi):Entry S:=⟨67,[yF,q1],[tY,q1,q6],fun x=>f x.1 x.2⟩
def pL  (l:List an) (aB:Int):Option (aS×Int×aR):=(wH (aP.mk (aV.mk l aB (aR.mk 0 0)) 0) 1).bind fun r1=>
 (kZ r1.2).bind fun r2=>
 bif !r2.1 then
 some (aS.mk 0 0 [] [] 0,0,r2.2.Row.aj) else
 some (aS.mk r1.1.Kind r1.1.N r1.1.Name r1.1.Kids r1.1.At,r2.2.Row.At,aR.mk 0 0)
theorem Bn:aE Tryd.prog S (wF (pL)):=
 aY pk [jR wH,uo kZ] ⟨Hl,yY,trivial⟩ Tryd.func67 (by kernel_rfl) (fun _=>by kernel_rfl) (by kernel_rfl)
abbrev FM:=aM→Option (List aS×aM)
abbrev vJ (f:FM):Entry S:=⟨80,[fc],[yG],fun x=>f x⟩
def oX  (r_:aM):Option (List aS×aM):=(iL r_).bind fun r1=>
 bif !r1.1 then
 some ([],r1.2) else
 (pL r1.2.Row.L r1.2.Row.At).bind fun r2=>
 (kU r1.2 r2.2.2.Code r2.2.2.At).bind fun r3=>
 some ([aS.mk r2.1.Kind r2.1.N r2.1.Name r2.1.Kids r2.1.At],aM.mk (aV.mk r3.Row.L r2.2.1 r3.Row.aj) r3.cS)
theorem Ae:aE Tryd.prog S (vJ (oX)):=
 aY pk [oa iL,wF pL,ue kU] ⟨qW,Bn,yQ,trivial⟩ Tryd.func80 (by kernel_rfl) (fun _=>by kernel_rfl) (by kernel_rfl)
abbrev FN:=aM→Option (List aS×aM)
abbrev sD (f:FN):Entry S:=⟨82,[fc],[yG],fun x=>f x⟩
def lO  (r_:aM):Option (List aS×aM):=(eM r_ mJ).bind fun r1=>
 (oX r1).bind fun r2=>
 (eM r2.2 rL).bind fun r3=>
 some (r2.1,r3)
theorem vK:aE Tryd.prog S (sD (lO)):=
 aY pk [rj eM,vJ oX] ⟨uw,Ae,trivial⟩ Tryd.func82 (by kernel_rfl) (fun _=>by kernel_rfl) (by kernel_rfl)
abbrev FP:=aM→Option (List aS×aM)
abbrev Af (f:FP):Entry S:=⟨81,[fc],[yG],fun x=>f x⟩
def sE  (r_:aM):Option (List aS×aM):=(jn r_ mJ).bind fun r1=>
 bif !r1.1 then
 some ([],r1.2) else
 (lO r1.2).bind fun r2=>
 some (r2.1,r2.2)
theorem FO:aE Tryd.prog S (Af (sE)):=
 aY pk [qT jn,sD lO] ⟨uh,vK,trivial⟩ Tryd.func81 (by kernel_rfl) (fun _=>by kernel_rfl) (by kernel_rfl)
abbrev LZ:=aM→Option (Int×aM)
abbrev Dy (f:LZ):Entry S:=⟨13,[fc],[q1],fun x=>f x⟩
def yW  (r_:aM):Option (Int×aM):=(gr r_).bind fun r1=>
 if r1.1.Kind≠2 then
 (js r1.2).bind fun r2=>
 some (0,r2) else
 some (r1.1.N,aM.mk (aV.mk r1.2.Row.L (aI (r1.2.Row.At+1)) r1.2.Row.aj) r1.2.cS)
theorem LY:aE Tryd.prog S (Dy (yW)):=
 aY pk [mj gr,rq js] ⟨n9,uA,trivial⟩ Tryd.func13 (by kernel_rfl) (fun _=>by kernel_rfl) (by kernel_rfl)
abbrev jK:=aM→Option (List aQ×aM)
abbrev lN (f:jK):Entry S:=⟨70,[fc],[tZ],fun x=>f x⟩
abbrev FR:=aM→aQ→Option (aQ×aM)
abbrev Ag (f:FR):Entry S:=⟨83,[fc,yH],[yH],fun x=>f x.1 x.2⟩
def sF (cC:jK)  (r_:aM) (a:aQ):Option (aQ×aM):=(gu r_ rH).bind fun r1=>
 bif r1.1 then
 (yW r1.2).bind fun r2=>
 (cC r2.2).bind fun r3=>
 some (aQ.mk 7 a.Name a.Event a.X r2.1 r3.1 a.lH a.At,r3.2) else
 (eM r1.2 rF).bind fun r4=>
 (lO r4).bind fun r5=>
 (cC r5.2).bind fun r6=>
 (gu r6.2 uN).bind fun r7=>
 bif r7.1 then
 (cC r7.2).bind fun r8=>
 some (aQ.mk 6 a.Name a.Event r5.1 a.N r6.1 r8.1 a.At,r8.2) else
 some (aQ.mk 6 a.Name a.Event r5.1 a.N r6.1 a.lH a.At,r7.2)
theorem FQ (cC:jK) (pZ:aE Tryd.prog S (lN cC)):aE Tryd.prog S (Ag (sF cC)):=
 aY pk [qZ gu,Dy yW,lN cC,rj eM,sD lO] ⟨uv,LY,pZ,uw,vK,trivial⟩ Tryd.func83 (by kernel_rfl) (fun _=>by kernel_rfl) (by kernel_rfl)
abbrev FI:=aM→Option (aQ×aM)
abbrev Ac (f:FI):Entry S:=⟨73,[fc],[yH],fun x=>f x⟩
def vG (cC:jK)  (r_:aM):Option (aQ×aM):=(gr r_).bind fun r1=>
 (qP r1.2).bind fun r2=>
 bif r2.1 then
 (kY r2.2).bind fun r3=>
 (eM r3.2 DV).bind fun r4=>
 (oX r4).bind fun r5=>
 (eM r5.2 dM).bind fun r6=>
 some (aQ.mk 1 r3.1 [] r5.1 0 [] [] r1.1.At,r6) else
 (gu r2.2 uZ).bind fun r7=>
 bif r7.1 then
 (kY r7.2).bind fun r8=>
 (sE r8.2).bind fun r9=>
 (eM r9.2 dM).bind fun bB=>
 some (aQ.mk 2 [] r8.1 r9.1 0 [] [] r1.1.At,bB) else
 (gu r7.2 u0).bind fun cV=>
 bif cV.1 then
 (kY cV.2).bind fun cB=>
 (kY cB.2).bind fun cJ=>
 (sE cJ.2).bind fun eA=>
 (eM eA.2 dM).bind fun jm=>
 some (aQ.mk 3 cB.1 cJ.1 eA.1 0 [] [] r1.1.At,jm) else
 (gu cV.2 uH).bind fun r16=>
 bif r16.1 then
 (kY r16.2).bind fun qL=>
 (lO qL.2).bind fun qM=>
 (eM qM.2 dM).bind fun yI=>
 some (aQ.mk 4 qL.1 [] qM.1 0 [] [] r1.1.At,yI) else
 (gu r16.2 uK).bind fun yJ=>
 bif yJ.1 then
 (kY yJ.2).bind fun Di=>
 (eM Di.2 dM).bind fun Lp=>
 some (aQ.mk 5 Di.1 [] [] 0 [] [] r1.1.At,Lp) else
 (jn yJ.2 rF).bind fun qN=>
 bif qN.1 then
 bif qN.1 then
 (sF cC qN.2 (aQ.mk 0 [] [] [] 0 [] [] r1.1.At)).bind fun j6=>
 some (aQ.mk j6.1.Kind j6.1.Name j6.1.Event j6.1.X j6.1.N j6.1.oW j6.1.lH j6.1.At,j6.2) else
 (js qN.2).bind fun Lq=>
 (eM Lq dM).bind fun Lr=>
 some (aQ.mk 0 [] [] [] 0 [] [] r1.1.At,Lr) else
 (jn qN.2 rH).bind fun yK=>
 bif yK.1 then
 (sF cC yK.2 (aQ.mk 0 [] [] [] 0 [] [] r1.1.At)).bind fun j7=>
 some (aQ.mk j7.1.Kind j7.1.Name j7.1.Event j7.1.X j7.1.N j7.1.oW j7.1.lH j7.1.At,j7.2) else
 (js yK.2).bind fun Ls=>
 (eM Ls dM).bind fun Lt=>
 some (aQ.mk 0 [] [] [] 0 [] [] r1.1.At,Lt)
theorem FH (cC:jK) (pZ:aE Tryd.prog S (lN cC)):aE Tryd.prog S (Ac (vG cC)):=
 aY pk [mj gr,yT qP,Dv kY,rj eM,vJ oX,qZ gu,Af sE,sD lO,qT jn,Ag (sF cC),rq js] ⟨n9,Ds,LS,uw,Ae,uv,FO,vK,uh,FQ cC pZ,uA,trivial⟩ Tryd.func73 (by kernel_rfl) (fun _=>by kernel_rfl) (by kernel_rfl)
def vI (cC:jK):Nat→(List an)→Int→Int→Int→Int→(List aQ)→Option (List aQ×aM)
 | 0,_,_,_,_,_,_=>none
 | k+1,bJ,bG,bI,bH,qO,l=>(iL (aM.mk (aV.mk bJ bG (aR.mk bI bH)) qO)).bind fun r5=>
  bif r5.1 then
  (gu r5.2 gS).bind fun r6=>
  bif !r6.1 then
  (vG cC r6.2).bind fun r7=>
  if (l.length+ [r7.1].length)*128≤140737488355328 then
  vI cC k r7.2.Row.L r7.2.Row.At r7.2.Row.aj.Code r7.2.Row.aj.At r7.2.cS (l++ [r7.1]) else none else
  some (l,aM.mk r6.2.Row (aI (r6.2.cS - 1))) else
  some (l,aM.mk r5.2.Row (aI (r5.2.cS - 1)))
def sB (cC:jK):Nat→(List an)→Int→Int→Int→Int→Option (List aQ×aM)
 | 0,_,_,_,_,_=>none
 | k+1,bJ,bG,bI,bH,qO=>(eM (aM.mk (aV.mk bJ bG (aR.mk bI bH)) qO) k8).bind fun r4=>
  vI cC k r4.Row.L r4.Row.At r4.Row.aj.Code r4.Row.aj.At (aI (r4.cS+1)) []
def Ad (cC:jK) (k:Nat) (r_:aM):Option (List aQ×aM):=(jn r_ k8).bind fun r1=>
 bif r1.1 then
 if r1.2.cS=4 then
 (gr r1.2).bind fun r2=>
 (kU r2.2 14 r2.1.At).bind fun r3=>
 sB cC k r3.Row.L r3.Row.At r3.Row.aj.Code r3.Row.aj.At r3.cS else
 sB cC k r1.2.Row.L r1.2.Row.At r1.2.Row.aj.Code r1.2.Row.aj.At r1.2.cS else
 sB cC k r1.2.Row.L r1.2.Row.At r1.2.Row.aj.Code r1.2.Row.aj.At r1.2.cS
def sC:Nat→aM→Option (List aQ×aM)
 | 0,_=>none
 | k+1,x0=>Ad (sC k) k x0
def vH  (r_:aM):Option (List aQ×aM):=dh (fun k (x:aM)=>sC k x) r_
theorem FK (cC:jK) (k:Nat) (pZ:aE Tryd.prog S (lN cC)):aE Tryd.prog S (lN (Ad cC k)):=
 fq pk [qT jn,mj gr,ue kU,rj eM,oa iL,qZ gu,Ac (vG cC)] ⟨uh,n9,yQ,uw,qW,uv,FH cC pZ,trivial⟩ Tryd.func70 [1] k (fun k=> [(1,⟨[0],[yE],fun x=>sB cC k x.1 x.2.1 x.2.2.1 x.2.2.2.1 x.2.2.2.2,false⟩),(0,⟨[0,3],[yE,tZ],fun x=>vI cC k x.1.1 x.1.2.1 x.1.2.2.1 x.1.2.2.2.1 x.1.2.2.2.2 x.2,false⟩)]) ⟨fun _=>rfl,fun _=>rfl,trivial⟩ (fun _=>by kernel_rfl) (fun _=>by kernel_rfl) (by kernel_rfl)
theorem FJ:aE Tryd.prog S (lN (vH)):=vg (fun k x=>sC k x) (fun _=>rfl) Tryd.func70 (by kernel_rfl) (fun _=>rfl) fun k h=>FK (sC k) k h
abbrev FG:=(List an)→Int→Option (List aQ×Int×aR)
abbrev Ab (f:FG):Entry S:=⟨65,[yF,q1],[tZ,q1,q6],fun x=>f x.1 x.2⟩
def vF  (l:List an) (aB:Int):Option (List aQ×Int×aR):=(vH (aM.mk (aV.mk l aB (aR.mk 0 0)) 0)).bind fun r1=>
 (iL r1.2).bind fun r2=>
 bif !r2.1 then
 some ([],0,r2.2.Row.aj) else
 some (r1.1,r2.2.Row.At,aR.mk 0 0)
theorem FF:aE Tryd.prog S (Ab (vF)):=
 aY pk [lN vH,oa iL] ⟨FJ,qW,trivial⟩ Tryd.func65 (by kernel_rfl) (fun _=>by kernel_rfl) (by kernel_rfl)
abbrev GD:=aA→Int→aR→Option aA
abbrev we (f:GD):Entry S:=⟨66,[q9,q1,q6],[],fun x=>f x.1 x.2.1 x.2.2⟩
def pg  (r_:aA) (aB:Int) (f:aR):Option aA:=(kV r_ f.Code f.At).bind fun r1=>
 some (aA.mk (aV.mk r1.Row.L aB r1.Row.aj))
theorem AN:aE Tryd.prog S (we (pg)):=
 aY pk [uc kV] ⟨yO,trivial⟩ Tryd.func66 (by kernel_rfl) (fun _=>by kernel_rfl) (by kernel_rfl)
abbrev Gy:=aA→Option (List aQ×aA)
abbrev vY (f:Gy):Entry S:=⟨55,[q9],[tZ],fun x=>f x⟩
def nk  (r_:aA):Option (List aQ×aA):=(jq r_).bind fun r1=>
 bif !r1.1 then
 some ([],r1.2) else
 (vF r1.2.Row.L r1.2.Row.At).bind fun r2=>
 (pg r1.2 r2.2.1 r2.2.2).bind fun r3=>
 some (r2.1,r3)
theorem AJ:aE Tryd.prog S (vY (nk)):=
 aY pk [qV jq,Ab vF,we pg] ⟨uq,FF,AN,trivial⟩ Tryd.func55 (by kernel_rfl) (fun _=>by kernel_rfl) (by kernel_rfl)
abbrev GL:=aA→Option (cE×aA)
abbrev AS (f:GL):Entry S:=⟨56,[q9],[Lh],fun x=>f x⟩
def wm:Nat→(List an)→Int→Int→Int→(List UInt8)→(List aS)→(List UInt8)→(List aQ)→Int→(List UInt8)→(List aS)→(List UInt8)→(List aQ)→Int→Option (cE×aA)
 | 0,_,_,_,_,_,_,_,_,_,_,_,_,_,_=>none
 | k+1,bJ,bG,bI,bH,oI,oJ,oK,oH,d_,lp,mR,mS,mQ,lg=>(fD (aA.mk (aV.mk bJ bG (aR.mk bI bH))) k8).bind fun cV=>
  bif cV.1 then
  (nk cV.2).bind fun cB=>
  some (cE.mk lp mR mS cB.1 lg,cB.2) else
  (dI cV.2 dM).bind fun cJ=>
  some (cE.mk lp mR mS mQ lg,cJ)
def wk:Nat→(List an)→Int→Int→Int→(List UInt8)→(List aS)→(List UInt8)→(List aQ)→Int→(List UInt8)→(List aS)→(List UInt8)→(List aQ)→Int→Option (cE×aA)
 | 0,_,_,_,_,_,_,_,_,_,_,_,_,_,_=>none
 | k+1,bJ,bG,bI,bH,oI,oJ,oK,oH,d_,lp,mR,mS,mQ,lg=>(eB (aA.mk (aV.mk bJ bG (aR.mk bI bH))) uW).bind fun r9=>
  bif r9.1 then
  (gM r9.2).bind fun bB=>
  wm k bB.2.Row.L bB.2.Row.At bB.2.Row.aj.Code bB.2.Row.aj.At oI oJ oK oH d_ lp mR bB.1 mQ lg else
  wm k r9.2.Row.L r9.2.Row.At r9.2.Row.aj.Code r9.2.Row.aj.At oI oJ oK oH d_ lp mR mS mQ lg
def wj:Nat→(List an)→Int→Int→Int→(List UInt8)→(List aS)→(List UInt8)→(List aQ)→Int→(List UInt8)→(List aS)→(List UInt8)→(List aQ)→Int→Option (cE×aA)
 | 0,_,_,_,_,_,_,_,_,_,_,_,_,_,_=>none
 | k+1,bJ,bG,bI,bH,oI,oJ,oK,oH,d_,lp,mR,mS,mQ,lg=>(eB (aA.mk (aV.mk bJ bG (aR.mk bI bH))) DW).bind fun r5=>
  bif r5.1 then
  (pL r5.2.Row.L r5.2.Row.At).bind fun r6=>
  (pg r5.2 r6.2.1 r6.2.2).bind fun r7=>
  (dI r7 zj).bind fun r8=>
  wk k r8.Row.L r8.Row.At r8.Row.aj.Code r8.Row.aj.At oI oJ oK oH d_ lp [aS.mk r6.1.Kind r6.1.N r6.1.Name r6.1.Kids r6.1.At] mS mQ lg else
  wk k r5.2.Row.L r5.2.Row.At r5.2.Row.aj.Code r5.2.Row.aj.At oI oJ oK oH d_ lp mR mS mQ lg
def AR (k:Nat) (r_:aA):Option (cE×aA):=(ep r_).bind fun r1=>
 (eB r1.2 rI).bind fun r2=>
 bif r2.1 then
 (gM r2.2).bind fun r3=>
 wj k r3.2.Row.L r3.2.Row.At r3.2.Row.aj.Code r3.2.Row.aj.At [] [] [] [] 0 r3.1 [] [] [] r1.1.At else
 (dI r2.2 rz).bind fun r4=>
 wj k r4.Row.L r4.Row.At r4.Row.aj.Code r4.Row.aj.At [] [] [] [] 0 [] [] [] [] r1.1.At
def wh  (r_:aA):Option (cE×aA):=dh (fun k (x:aA)=>AR k x) r_
theorem GK:aE Tryd.prog S (AS (wh)):=gv (fun k x=>AR k x) (fun _=>rfl) fun k=>
 fq pk [j8 ep,oe eB,qU gM,og dI,wF pL,we pg,qS fD,vY nk] ⟨kX,qX,um,ri,Bn,AN,ug,AJ,trivial⟩ Tryd.func56 [2,4,9] k (fun k=> [(1,⟨[0,2,3],[eo,n4,n4],fun x=>wj k x.1.1 x.1.2.1 x.1.2.2.1 x.1.2.2.2 x.2.1.1 x.2.1.2.1 x.2.1.2.2.1 x.2.1.2.2.2.1 x.2.1.2.2.2.2 x.2.2.1 x.2.2.2.1 x.2.2.2.2.1 x.2.2.2.2.2.1 x.2.2.2.2.2.2,false⟩),(3,⟨[0,2,3],[eo,n4,n4],fun x=>wk k x.1.1 x.1.2.1 x.1.2.2.1 x.1.2.2.2 x.2.1.1 x.2.1.2.1 x.2.1.2.2.1 x.2.1.2.2.2.1 x.2.1.2.2.2.2 x.2.2.1 x.2.2.2.1 x.2.2.2.2.1 x.2.2.2.2.2.1 x.2.2.2.2.2.2,false⟩),(5,⟨[0,2,3],[eo,n4,n4],fun x=>wm k x.1.1 x.1.2.1 x.1.2.2.1 x.1.2.2.2 x.2.1.1 x.2.1.2.1 x.2.1.2.2.1 x.2.1.2.2.2.1 x.2.1.2.2.2.2 x.2.2.1 x.2.2.2.1 x.2.2.2.2.1 x.2.2.2.2.2.1 x.2.2.2.2.2.2,false⟩)]) ⟨fun _=>rfl,fun _=>rfl,fun _=>rfl,trivial⟩ (fun _=>by kernel_rfl) (fun _=>by kernel_rfl) (by kernel_rfl)
abbrev ir:=aA→Int→Option (List bX×aA)
abbrev nq (f:ir):Entry S:=⟨40,[q9,q1],[Dc],fun x=>f x.1 x.2⟩
abbrev GC:=aA→(Int×List UInt8×List aQ×List aQ×List cE×List bX×Int)→Int→Option (aA×(Int×List UInt8×List aQ×List aQ×List cE×List bX×Int))
abbrev AM (f:GC):Entry S:=⟨47,[q9,qK,q1],[],fun x=>f x.1 x.2.1 x.2.2⟩
mutual
def v_ (bW:ir):Nat→(List an)→Int→Int→Int→Int→(List UInt8)→(List aQ)→(List aQ)→(List cE)→(List bX)→Int→Int→Option (aA×(Int×List UInt8×List aQ×List aQ×List cE×List bX×Int))
 | 0,_,_,_,_,_,_,_,_,_,_,_,_=>none
 | k+1,bJ,bG,bI,bH,jw,jx,jv,kf,iO,kg,ju,deep=>(fD (aA.mk (aV.mk bJ bG (aR.mk bI bH))) rI).bind fun r6=>
  bif r6.1 then
  v8 bW k r6.2.Row.L r6.2.Row.At r6.2.Row.aj.Code r6.2.Row.aj.At jw jx jv kf iO kg ju deep else
  (fD r6.2 rz).bind fun r7=>
  bif r7.1 then
  v8 bW k r7.2.Row.L r7.2.Row.At r7.2.Row.aj.Code r7.2.Row.aj.At jw jx jv kf iO kg ju deep else
  (bW r7.2 (aI (deep+1))).bind fun r8=>
  (dI r8.2 gS).bind fun r9=>
  some (r9,(jw,jx,jv,kf,iO,r8.1,ju))
def v8 (bW:ir):Nat→(List an)→Int→Int→Int→Int→(List UInt8)→(List aQ)→(List aQ)→(List cE)→(List bX)→Int→Int→Option (aA×(Int×List UInt8×List aQ×List aQ×List cE×List bX×Int))
 | 0,_,_,_,_,_,_,_,_,_,_,_,_=>none
 | k+1,bJ,bG,bI,bH,jw,jx,jv,kf,iO,kg,ju,deep=>(wh (aA.mk (aV.mk bJ bG (aR.mk bI bH)))).bind fun bB=>
  if (iO.length+ [bB.1].length)*88≤140737488355328 then
  v_ bW k bB.2.Row.L bB.2.Row.At bB.2.Row.aj.Code bB.2.Row.aj.At jw jx jv kf (iO++ [bB.1]) kg ju deep else none
end
def v7 (bW:ir):Nat→(List an)→Int→Int→Int→Int→(List UInt8)→(List aQ)→(List aQ)→(List cE)→(List bX)→Int→Int→Option (aA×(Int×List UInt8×List aQ×List aQ×List cE×List bX×Int))
 | 0,_,_,_,_,_,_,_,_,_,_,_,_=>none
 | k+1,bJ,bG,bI,bH,jw,jx,jv,kf,iO,kg,ju,deep=>v_ bW k bJ bG bI bH jw jx jv kf iO kg ju deep
def vZ (bW:ir):Nat→(List an)→Int→Int→Int→Int→(List UInt8)→(List aQ)→(List aQ)→(List cE)→(List bX)→Int→Int→Option (aA×(Int×List UInt8×List aQ×List aQ×List cE×List bX×Int))
 | 0,_,_,_,_,_,_,_,_,_,_,_,_=>none
 | k+1,bJ,bG,bI,bH,jw,jx,jv,kf,iO,kg,ju,deep=>(eB (aA.mk (aV.mk bJ bG (aR.mk bI bH))) uQ).bind fun r4=>
  bif r4.1 then
  (nk r4.2).bind fun r5=>
  v7 bW k r5.2.Row.L r5.2.Row.At r5.2.Row.aj.Code r5.2.Row.aj.At jw jx jv r5.1 iO kg ju deep else
  v7 bW k r4.2.Row.L r4.2.Row.At r4.2.Row.aj.Code r4.2.Row.aj.At jw jx jv kf iO kg ju deep
def AL (bW:ir) (k:Nat) (r_:aA) (s:Int×List UInt8×List aQ×List aQ×List cE×List bX×Int) (deep:Int):Option (aA×(Int×List UInt8×List aQ×List aQ×List cE×List bX×Int)):=(dI r_ k8).bind fun r1=>
 (eB r1 uO).bind fun r2=>
 bif r2.1 then
 (nk r2.2).bind fun r3=>
 vZ bW k r3.2.Row.L r3.2.Row.At r3.2.Row.aj.Code r3.2.Row.aj.At s.1 s.2.1 r3.1 s.2.2.2.1 s.2.2.2.2.1 s.2.2.2.2.2.1 s.2.2.2.2.2.2 deep else
 vZ bW k r2.2.Row.L r2.2.Row.At r2.2.Row.aj.Code r2.2.Row.aj.At s.1 s.2.1 s.2.2.1 s.2.2.2.1 s.2.2.2.2.1 s.2.2.2.2.2.1 s.2.2.2.2.2.2 deep
def sN (bW:ir)  (r_:aA) (s:Int×List UInt8×List aQ×List aQ×List cE×List bX×Int) (deep:Int):Option (aA×(Int×List UInt8×List aQ×List aQ×List cE×List bX×Int)):=dh (fun k (x:aA×(Int×List UInt8×List aQ×List aQ×List cE×List bX×Int)×Int)=>AL bW k x.1 x.2.1 x.2.2) (r_,s,deep)
theorem GB (bW:ir) (wX:aE Tryd.prog S (nq bW)):aE Tryd.prog S (AM (sN bW)):=gv (fun k x=>AL bW k x.1 x.2.1 x.2.2) (fun _=>rfl) fun k=>
 fq pk [og dI,oe eB,vY nk,qS fD,nq bW,AS wh] ⟨ri,qX,AJ,ug,wX,GK,trivial⟩ Tryd.func47 [1,3,6] k (fun k=> [(1,⟨[0,1,2],[eo,qK,q1],fun x=>vZ bW k x.1.1 x.1.2.1 x.1.2.2.1 x.1.2.2.2 x.2.1.1 x.2.1.2.1 x.2.1.2.2.1 x.2.1.2.2.2.1 x.2.1.2.2.2.2.1 x.2.1.2.2.2.2.2.1 x.2.1.2.2.2.2.2.2 x.2.2,false⟩),(3,⟨[0,1,2],[eo,qK,q1],fun x=>v7 bW k x.1.1 x.1.2.1 x.1.2.2.1 x.1.2.2.2 x.2.1.1 x.2.1.2.1 x.2.1.2.2.1 x.2.1.2.2.2.1 x.2.1.2.2.2.2.1 x.2.1.2.2.2.2.2.1 x.2.1.2.2.2.2.2.2 x.2.2,false⟩),(0,⟨[0,1,2],[eo,qK,q1],fun x=>v_ bW k x.1.1 x.1.2.1 x.1.2.2.1 x.1.2.2.2 x.2.1.1 x.2.1.2.1 x.2.1.2.2.1 x.2.1.2.2.2.1 x.2.1.2.2.2.2.1 x.2.1.2.2.2.2.2.1 x.2.1.2.2.2.2.2.2 x.2.2,false⟩),(5,⟨[0,1,2],[eo,qK,q1],fun x=>v8 bW k x.1.1 x.1.2.1 x.1.2.2.1 x.1.2.2.2 x.2.1.1 x.2.1.2.1 x.2.1.2.2.1 x.2.1.2.2.2.1 x.2.1.2.2.2.2.1 x.2.1.2.2.2.2.2.1 x.2.1.2.2.2.2.2.2 x.2.2,false⟩)]) ⟨fun _=>rfl,fun _=>rfl,fun _=>rfl,fun _=>rfl,trivial⟩ (fun _=>by kernel_rfl) (fun _=>by kernel_rfl) (by kernel_rfl)
def nr (bW:ir):Nat→(List an)→Int→Int→Int→Int→(List bX)→Int→Option (List bX×aA)
 | 0,_,_,_,_,_,_,_=>none
 | k+1,bJ,bG,bI,bH,deep,l,kind=>if kind≠0 then
  (ep (aA.mk (aV.mk bJ bG (aR.mk bI bH)))).bind fun r2=>
  if 12<deep then
  (kV r2.2 14 r2.1.At).bind fun r3=>
  some ([],r3) else
  (gM (aA.mk (aV.mk r2.2.Row.L (aI (r2.2.Row.At+1)) r2.2.Row.aj))).bind fun r4=>
  if kind=1 then
  (sN bW r4.2 (kind,r4.1,[],[],[],[],r2.1.At) deep).bind fun r5=>
  if (l.length+ [bX.mk r5.2.1 r5.2.2.1 r5.2.2.2.1 r5.2.2.2.2.1 r5.2.2.2.2.2.1 r5.2.2.2.2.2.2.1 r5.2.2.2.2.2.2.2].length)*128≤140737488355328 then
  (kH r5.1).bind fun r6=>
  nr bW k r6.2.Row.L r6.2.Row.At r6.2.Row.aj.Code r6.2.Row.aj.At deep (l++ [bX.mk r5.2.1 r5.2.2.1 r5.2.2.2.1 r5.2.2.2.2.1 r5.2.2.2.2.2.1 r5.2.2.2.2.2.2.1 r5.2.2.2.2.2.2.2]) r6.1 else none else
  if kind=2 then
  (sN bW r4.2 (kind,r4.1,[],[],[],[],r2.1.At) deep).bind fun r7=>
  if (l.length+ [bX.mk r7.2.1 r7.2.2.1 r7.2.2.2.1 r7.2.2.2.2.1 r7.2.2.2.2.2.1 r7.2.2.2.2.2.2.1 r7.2.2.2.2.2.2.2].length)*128≤140737488355328 then
  (kH r7.1).bind fun r8=>
  nr bW k r8.2.Row.L r8.2.Row.At r8.2.Row.aj.Code r8.2.Row.aj.At deep (l++ [bX.mk r7.2.1 r7.2.2.1 r7.2.2.2.1 r7.2.2.2.2.1 r7.2.2.2.2.2.1 r7.2.2.2.2.2.2.1 r7.2.2.2.2.2.2.2]) r8.1 else none else
  (dI r4.2 dM).bind fun r9=>
  if (l.length+ [bX.mk kind r4.1 [] [] [] [] r2.1.At].length)*128≤140737488355328 then
  (kH r9).bind fun bB=>
  nr bW k bB.2.Row.L bB.2.Row.At bB.2.Row.aj.Code bB.2.Row.aj.At deep (l++ [bX.mk kind r4.1 [] [] [] [] r2.1.At]) bB.1 else none else
  some (l,aA.mk (aV.mk bJ bG (aR.mk bI bH)))
def sP (bW:ir) (k:Nat) (r_:aA) (deep:Int):Option (List bX×aA):=(kH r_).bind fun r1=>
 nr bW k r1.2.Row.L r1.2.Row.At r1.2.Row.aj.Code r1.2.Row.aj.At deep [] r1.1
def pE:Nat→aA→Int→Option (List bX×aA)
 | 0,_,_=>none
 | k+1,x0,x1=>sP (pE k) k x0 x1
def sO  (r_:aA) (deep:Int):Option (List bX×aA):=dh (fun k (x:aA×Int)=>pE k x.1 x.2) (r_,deep)
theorem GJ (bW:ir) (k:Nat) (wX:aE Tryd.prog S (nq bW)):aE Tryd.prog S (nq (sP bW k)):=
 fq pk [AI kH,j8 ep,uc kV,qU gM,AM (sN bW),og dI] ⟨Gw,kX,yO,um,GB bW wX,ri,trivial⟩ Tryd.func40 [] k (fun k=> [(0,⟨[0,1,5,6],[eo,q1,Dc,q1],fun x=>nr bW k x.1.1 x.1.2.1 x.1.2.2.1 x.1.2.2.2 x.2.1 x.2.2.1 x.2.2.2,false⟩)]) ⟨fun _=>rfl,trivial⟩ (fun _=>by kernel_rfl) (fun _=>by kernel_rfl) (by kernel_rfl)
theorem GI:aE Tryd.prog S (nq (sO)):=vg (fun k x=>pE k x.1 x.2) (fun _=>rfl) Tryd.func40 (by kernel_rfl) (fun _=>rfl) fun k h=>GJ (pE k) k h
abbrev GA:=aA→Option (cD×aA)
abbrev AK (f:GA):Entry S:=⟨29,[q9],[Dd],fun x=>f x⟩
def o_:Nat→(List an)→Int→Int→Int→(List UInt8)→Int→Int→(List cT)→(List cT)→(List cT)→(List bX)→Int→(List UInt8)→Int→Int→(List cT)→(List cT)→(List cT)→(List bX)→Int→Option (cD×aA)
 | 0,_,_,_,_,_,_,_,_,_,_,_,_,_,_,_,_,_,_,_,_=>none
 | k+1,bJ,bG,bI,bH,vp,E8,E5,E_,E6,E9,E7,d_,ni,vS,vR,o7,Aw,AA,Az,eU=>(eB (aA.mk (aV.mk bJ bG (aR.mk bI bH))) u_).bind fun r9=>
  bif r9.1 then
  (pn r9.2).bind fun bB=>
  (dI bB.2 DV).bind fun cV=>
  (eB cV mK).bind fun cB=>
  (mo cB.2).bind fun cJ=>
  bif cB.1 then
  (dI cJ.2 dM).bind fun eA=>
  if (o7.length+ [cT.mk bB.1.Name (aI (0 - cJ.1)) bB.1.At].length)*32≤140737488355328 then
  o_ k eA.Row.L eA.Row.At eA.Row.aj.Code eA.Row.aj.At vp E8 E5 E_ E6 E9 E7 d_ ni vS vR (o7++ [cT.mk bB.1.Name (aI (0 - cJ.1)) bB.1.At]) Aw AA Az eU else none else
  (dI cJ.2 dM).bind fun jm=>
  if (o7.length+ [cT.mk bB.1.Name cJ.1 bB.1.At].length)*32≤140737488355328 then
  o_ k jm.Row.L jm.Row.At jm.Row.aj.Code jm.Row.aj.At vp E8 E5 E_ E6 E9 E7 d_ ni vS vR (o7++ [cT.mk bB.1.Name cJ.1 bB.1.At]) Aw AA Az eU else none else
  (pq r9.2 uY).bind fun r16=>
  (pq r16.2 u9).bind fun qL=>
  (sO qL.2 1).bind fun qM=>
  (dI qM.2 gS).bind fun yI=>
  some (cD.mk ni vS vR o7 r16.1 qL.1 qM.1 eU,yI)
def sM (k:Nat) (r_:aA):Option (cD×aA):=(ep r_).bind fun r1=>
 (dI r1.2 jy).bind fun r2=>
 (gM r2).bind fun r3=>
 (dI r3.2 rM).bind fun r4=>
 (mo r4).bind fun r5=>
 (dI r5.2 rE).bind fun r6=>
 (mo r6).bind fun r7=>
 (dI r7.2 k8).bind fun r8=>
 o_ k r8.Row.L r8.Row.At r8.Row.aj.Code r8.Row.aj.At [] 0 0 [] [] [] [] 0 r3.1 r5.1 r7.1 [] [] [] [] r1.1.At
def sL  (r_:aA):Option (cD×aA):=dh (fun k (x:aA)=>sM k x) r_
theorem Gz:aE Tryd.prog S (AK (sL)):=gv (fun k x=>sM k x) (fun _=>rfl) fun k=>
 fq pk [j8 ep,og dI,qU gM,Dw mo,oe eB,wg pn,AQ pq,nq sO] ⟨kX,ri,um,LV,qX,AO,GG,GI,trivial⟩ Tryd.func29 [] k (fun k=> [(0,⟨[0,2,3],[eo,De,De],fun x=>o_ k x.1.1 x.1.2.1 x.1.2.2.1 x.1.2.2.2 x.2.1.1 x.2.1.2.1 x.2.1.2.2.1 x.2.1.2.2.2.1 x.2.1.2.2.2.2.1 x.2.1.2.2.2.2.2.1 x.2.1.2.2.2.2.2.2.1 x.2.1.2.2.2.2.2.2.2 x.2.2.1 x.2.2.2.1 x.2.2.2.2.1 x.2.2.2.2.2.1 x.2.2.2.2.2.2.1 x.2.2.2.2.2.2.2.1 x.2.2.2.2.2.2.2.2.1 x.2.2.2.2.2.2.2.2.2,false⟩)]) ⟨fun _=>rfl,trivial⟩ (fun _=>by kernel_rfl) (fun _=>by kernel_rfl) (by kernel_rfl)
abbrev Gu:=(List an)→Int→Option (cD×Int×aR)
abbrev AH (f:Gu):Entry S:=⟨15,[yF,q1],[Dd,q1,q6],fun x=>f x.1 x.2⟩
def nj  (l:List an) (aB:Int):Option (cD×Int×aR):=(sL (aA.mk (aV.mk l aB (aR.mk 0 0)))).bind fun r1=>
 (jq r1.2).bind fun r2=>
 bif !r2.1 then
 some (cD.mk [] 0 0 [] [] [] [] 0,0,r2.2.Row.aj) else
 some (r1.1,r2.2.Row.At,aR.mk 0 0)
theorem Gt:aE Tryd.prog S (AH (nj)):=
 aY pk [AK sL,qV jq] ⟨Gz,uq,trivial⟩ Tryd.func15 (by kernel_rfl) (fun _=>by kernel_rfl) (by kernel_rfl)
abbrev LC:=av→Option (Bool×av)
abbrev yS (f:LC):Entry S:=⟨41,[q8],[q3],fun x=>f x⟩
def mg  (r_:av):Option (Bool×av):=(dx r_).bind fun r1=>
 if r1.1.Kind=1 then
 (iD r1.1.Text).bind fun r2=>
 some (!r2,r1.2) else
 some (false,r1.2)
theorem Dr:aE Tryd.prog S (yS (mg)):=
 aY pk [iK dx,qA iD] ⟨jo,tT,trivial⟩ Tryd.func41 (by kernel_rfl) (fun _=>by kernel_rfl) (by kernel_rfl)
abbrev LR:=av→Option (List UInt8×av)
abbrev mm (f:LR):Entry S:=⟨30,[q8],[q0],fun x=>f x⟩
def er  (r_:av):Option (List UInt8×av):=(mg r_).bind fun r1=>
 bif !r1.1 then
 (iM r1.2).bind fun r2=>
 some ([],r2) else
 if 0≤(aI ((aI (r1.2.Row.At+1)) - 1)) then
 if (aI ((aI (r1.2.Row.At+1)) - 1))<(r1.2.Row.L.length:Int) then
 some ((r1.2.Row.L.getD (aI ((aI (r1.2.Row.At+1)) - 1)).toNat an.z).Text,av.mk (aV.mk r1.2.Row.L (aI (r1.2.Row.At+1)) r1.2.Row.aj)) else none else none
theorem n_:aE Tryd.prog S (mm (er)):=
 aY pk [yS mg,rm iM] ⟨Dr,uz,trivial⟩ Tryd.func30 (by kernel_rfl) (fun _=>by kernel_rfl) (by kernel_rfl)
abbrev Nz:=av→(List UInt8)→Option (Int×av)
abbrev vk (f:Nz):Entry S:=⟨31,[q8,q0],[q1],fun x=>f x.1 x.2⟩
def gY  (r_:av) (word:List UInt8):Option (Int×av):=(cg r_ word).bind fun r1=>
 (mq r1).bind fun r2=>
 some (r2.1,r2.2)
theorem zN:aE Tryd.prog S (vk (gY)):=
 aY pk [k6 cg,yX mq] ⟨mu,Dx,trivial⟩ Tryd.func31 (by kernel_rfl) (fun _=>by kernel_rfl) (by kernel_rfl)
abbrev Nt:=av→Option (dr×av)
abbrev Ek (f:Nt):Entry S:=⟨17,[q8],[Li],fun x=>f x⟩
def rS  (r_:av):Option (dr×av):=(dx r_).bind fun r1=>
 (cg r1.2 jz).bind fun r2=>
 (er r2).bind fun r3=>
 (cg r3.2 rC).bind fun r4=>
 (er r4).bind fun r5=>
 (gY r5.2 rK).bind fun r6=>
 (gY r6.2 rD).bind fun r7=>
 (gY r7.2 mM).bind fun r8=>
 (cg r8.2 dM).bind fun r9=>
 some (dr.mk r3.1 r5.1 r6.1 r7.1 r8.1 r1.1.At,r9)
theorem Ns:aE Tryd.prog S (Ek (rS)):=
 aY pk [iK dx,k6 cg,mm er,vk gY] ⟨jo,mu,n_,zN,trivial⟩ Tryd.func17 (by kernel_rfl) (fun _=>by kernel_rfl) (by kernel_rfl)
abbrev Ny:=av→Option (List UInt8×List UInt8×List UInt8×av)
abbrev zM (f:Ny):Entry S:=⟨32,[q8],[q0,q0,q0],fun x=>f x⟩
def mP  (r_:av):Option (List UInt8×List UInt8×List UInt8×av):=(er r_).bind fun r1=>
 (cg r1.2 zh).bind fun r2=>
 (er r2).bind fun r3=>
 (cg r3.2 uW).bind fun r4=>
 (er r4).bind fun r5=>
 some (r1.1,r3.1,r5.1,r5.2)
theorem Ep:aE Tryd.prog S (zM (mP)):=
 aY pk [mm er,k6 cg] ⟨n_,mu,trivial⟩ Tryd.func32 (by kernel_rfl) (fun _=>by kernel_rfl) (by kernel_rfl)
abbrev Nr:=av→Option (dn×av)
abbrev Ej (f:Nr):Entry S:=⟨18,[q8],[Lj],fun x=>f x⟩
def rR  (r_:av):Option (dn×av):=(dx r_).bind fun r1=>
 (cg r1.2 gR).bind fun r2=>
 (er r2).bind fun r3=>
 (cg r3.2 rC).bind fun r4=>
 (mP r4).bind fun r5=>
 (gY r5.2.2.2 rA).bind fun r6=>
 (gY r6.2 mM).bind fun r7=>
 (cg r7.2 dM).bind fun r8=>
 some (dn.mk r3.1 r5.1 r5.2.1 r5.2.2.1 r6.1 r7.1 r1.1.At,r8)
theorem Nq:aE Tryd.prog S (Ej (rR)):=
 aY pk [iK dx,k6 cg,mm er,zM mP,vk gY] ⟨jo,mu,n_,Ep,zN,trivial⟩ Tryd.func18 (by kernel_rfl) (fun _=>by kernel_rfl) (by kernel_rfl)
abbrev Nv:=av→(List UInt8)→Option (List (List UInt8)×av)
abbrev zK (f:Nv):Entry S:=⟨33,[q8,q0],[Df],fun x=>f x.1 x.2⟩
def zL:Nat→(List an)→Int→Int→Int→(List UInt8)→(List (List UInt8))→Option (List (List UInt8)×av)
 | 0,_,_,_,_,_,_=>none
 | k+1,bJ,bG,bI,bH,sign,l=>(fT (av.mk (aV.mk bJ bG (aR.mk bI bH))) sign).bind fun r2=>
  bif r2.1 then
  (er r2.2).bind fun r3=>
  if (l.length+ [r3.1].length)*16≤140737488355328 then
  zL k r3.2.Row.L r3.2.Row.At r3.2.Row.aj.Code r3.2.Row.aj.At sign (l++ [r3.1]) else none else
  some (l,r2.2)
def Em (k:Nat) (r_:av) (sign:List UInt8):Option (List (List UInt8)×av):=(er r_).bind fun r1=>
 zL k r1.2.Row.L r1.2.Row.At r1.2.Row.aj.Code r1.2.Row.aj.At sign [r1.1]
def oz  (r_:av) (sign:List UInt8):Option (List (List UInt8)×av):=dh (fun k (x:av×List UInt8)=>Em k x.1 x.2) (r_,sign)
theorem En:aE Tryd.prog S (zK (oz)):=gv (fun k x=>Em k x.1 x.2) (fun _=>rfl) fun k=>
 fq pk [mm er,qY fT] ⟨n_,uu,trivial⟩ Tryd.func33 [] k (fun k=> [(0,⟨[0,1,5],[eo,q0,Df],fun x=>zL k x.1.1 x.1.2.1 x.1.2.2.1 x.1.2.2.2 x.2.1 x.2.2,false⟩)]) ⟨fun _=>rfl,trivial⟩ (fun _=>by kernel_rfl) (fun _=>by kernel_rfl) (by kernel_rfl)
abbrev Nn:=av→Option (eT×av)
abbrev Eg (f:Nn):Entry S:=⟨34,[q8],[Ll],fun x=>f x⟩
mutual
def zG:Nat→(List an)→Int→Int→Int→Int→(List (List (List UInt8)))→(List (List (List UInt8)))→Int→Int→(List (List (List UInt8)))→(List (List (List UInt8)))→Int→Option (eT×av)
 | 0,_,_,_,_,_,_,_,_,_,_,_,_=>none
 | k+1,bJ,bG,bI,bH,lE,lF,lD,d_,jP,ij,iZ,eU=>(fT (av.mk (aV.mk bJ bG (aR.mk bI bH))) DW).bind fun r9=>
  bif r9.1 then
  zH k r9.2.Row.L r9.2.Row.At r9.2.Row.aj.Code r9.2.Row.aj.At lE lF lD d_ jP ij iZ eU [] else
  (cg r9.2 gS).bind fun bB=>
  some (eT.mk jP ij iZ eU,bB)
def zH:Nat→(List an)→Int→Int→Int→Int→(List (List (List UInt8)))→(List (List (List UInt8)))→Int→Int→(List (List (List UInt8)))→(List (List (List UInt8)))→Int→(List (List UInt8))→Option (eT×av)
 | 0,_,_,_,_,_,_,_,_,_,_,_,_,_=>none
 | k+1,bJ,bG,bI,bH,lE,lF,lD,d_,jP,ij,iZ,eU,l=>(mg (av.mk (aV.mk bJ bG (aR.mk bI bH)))).bind fun cV=>
  bif cV.1 then
  (er cV.2).bind fun cB=>
  if (l.length+ [cB.1].length)*16≤140737488355328 then
  zH k cB.2.Row.L cB.2.Row.At cB.2.Row.aj.Code cB.2.Row.aj.At lE lF lD d_ jP ij iZ eU (l++ [cB.1]) else none else
  (cg cV.2 zj).bind fun cJ=>
  if (iZ.length+ [l].length)*24≤140737488355328 then
  zG k cJ.Row.L cJ.Row.At cJ.Row.aj.Code cJ.Row.aj.At lE lF lD d_ jP ij (iZ++ [l]) eU else none
end
def vi:Nat→(List an)→Int→Int→Int→Int→(List (List (List UInt8)))→(List (List (List UInt8)))→Int→Int→(List (List (List UInt8)))→(List (List (List UInt8)))→Int→Bool→Option (eT×av)
 | 0,_,_,_,_,_,_,_,_,_,_,_,_,_=>none
 | k+1,bJ,bG,bI,bH,lE,lF,lD,d_,jP,ij,iZ,eU,more=>bif more then
  (fT (av.mk (aV.mk bJ bG (aR.mk bI bH))) zi).bind fun r4=>
  bif !r4.1 then
  (oz r4.2 rJ).bind fun r5=>
  if (ij.length+ [r5.1].length)*24≤140737488355328 then
  (fT r5.2 uM).bind fun r6=>
  vi k r6.2.Row.L r6.2.Row.At r6.2.Row.aj.Code r6.2.Row.aj.At lE lF lD d_ jP (ij++ [r5.1]) iZ eU r6.1 else none else
  if (ij.length+([[]]:List (List (List UInt8))).length)*24≤140737488355328 then
  (fT r4.2 uM).bind fun r7=>
  vi k r7.2.Row.L r7.2.Row.At r7.2.Row.aj.Code r7.2.Row.aj.At lE lF lD d_ jP (ij++([[]]:List (List (List UInt8)))) iZ eU r7.1 else none else
  (cg (av.mk (aV.mk bJ bG (aR.mk bI bH))) dM).bind fun r8=>
  zG k r8.Row.L r8.Row.At r8.Row.aj.Code r8.Row.aj.At lE lF lD d_ jP ij iZ eU
def Ef (k:Nat) (r_:av):Option (eT×av):=(dx r_).bind fun r1=>
 (gY r1.2 rB).bind fun r2=>
 (cg r2.2 k8).bind fun r3=>
 vi k r3.Row.L r3.Row.At r3.Row.aj.Code r3.Row.aj.At 0 [] [] 0 r2.1 [] [] r1.1.At true
def zF  (r_:av):Option (eT×av):=dh (fun k (x:av)=>Ef k x) r_
theorem Nl:aE Tryd.prog S (Eg (zF)):=gv (fun k x=>Ef k x) (fun _=>rfl) fun k=>
 fq pk [iK dx,vk gY,k6 cg,qY fT,zK oz,yS mg,mm er] ⟨jo,zN,mu,uu,En,Dr,n_,trivial⟩ Tryd.func34 [] k (fun k=> [(0,⟨[0,2,3,4],[eo,n5,n5,q3],fun x=>vi k x.1.1 x.1.2.1 x.1.2.2.1 x.1.2.2.2 x.2.1.1 x.2.1.2.1 x.2.1.2.2.1 x.2.1.2.2.2 x.2.2.1.1 x.2.2.1.2.1 x.2.2.1.2.2.1 x.2.2.1.2.2.2 x.2.2.2,false⟩),(2,⟨[0,2,3],[eo,n5,n5],fun x=>zG k x.1.1 x.1.2.1 x.1.2.2.1 x.1.2.2.2 x.2.1.1 x.2.1.2.1 x.2.1.2.2.1 x.2.1.2.2.2 x.2.2.1 x.2.2.2.1 x.2.2.2.2.1 x.2.2.2.2.2,false⟩),(4,⟨[0,2,3,6],[eo,n5,n5,Lm],fun x=>zH k x.1.1 x.1.2.1 x.1.2.2.1 x.1.2.2.2 x.2.1.1 x.2.1.2.1 x.2.1.2.2.1 x.2.1.2.2.2 x.2.2.1.1 x.2.2.1.2.1 x.2.2.1.2.2.1 x.2.2.1.2.2.2 x.2.2.2,false⟩)]) ⟨fun _=>rfl,fun _=>rfl,fun _=>rfl,trivial⟩ (fun _=>by kernel_rfl) (fun _=>by kernel_rfl) (by kernel_rfl)
abbrev Np:=av→Option (dm×av)
abbrev Ei (f:Np):Entry S:=⟨19,[q8],[Ln],fun x=>f x⟩
def vj:Nat→(List an)→Int→Int→Int→(List UInt8)→(List UInt8)→(List UInt8)→(List UInt8)→(List (List UInt8))→(List (List UInt8))→(List eT)→Int→(List UInt8)→(List UInt8)→(List UInt8)→(List UInt8)→(List (List UInt8))→(List (List UInt8))→(List eT)→Int→Option (dm×av)
 | 0,_,_,_,_,_,_,_,_,_,_,_,_,_,_,_,_,_,_,_,_=>none
 | k+1,bJ,bG,bI,bH,vp,ON,OO,OP,hJ,g_,OM,d_,ni,Au,Ax,Ay,Av,As,sK,eU=>(gx (av.mk (aV.mk bJ bG (aR.mk bI bH))) rB (sK.length:Int) 64).bind fun cJ=>
  bif cJ.1 then
  (zF cJ.2).bind fun eA=>
  if (sK.length+ [eA.1].length)*64≤140737488355328 then
  vj k eA.2.Row.L eA.2.Row.At eA.2.Row.aj.Code eA.2.Row.aj.At vp ON OO OP hJ g_ OM d_ ni Au Ax Ay Av As (sK++ [eA.1]) eU else none else
  (cg cJ.2 gS).bind fun jm=>
  some (dm.mk ni Au Ax Ay Av As sK eU,jm)
def Eh (k:Nat) (r_:av):Option (dm×av):=(dx r_).bind fun r1=>
 (cg r1.2 ou).bind fun r2=>
 (er r2).bind fun r3=>
 (cg r3.2 rC).bind fun r4=>
 (mP r4).bind fun r5=>
 (cg r5.2.2.2 k8).bind fun r6=>
 (cg r6 uT).bind fun r7=>
 (oz r7 uM).bind fun r8=>
 (cg r8.2 dM).bind fun r9=>
 (fT r9 uL).bind fun bB=>
 bif bB.1 then
 (oz bB.2 uM).bind fun cV=>
 (cg cV.2 dM).bind fun cB=>
 vj k cB.Row.L cB.Row.At cB.Row.aj.Code cB.Row.aj.At [] [] [] [] [] [] [] 0 r3.1 r5.1 r5.2.1 r5.2.2.1 r8.1 cV.1 [] r1.1.At else
 vj k bB.2.Row.L bB.2.Row.At bB.2.Row.aj.Code bB.2.Row.aj.At [] [] [] [] [] [] [] 0 r3.1 r5.1 r5.2.1 r5.2.2.1 r8.1 [] [] r1.1.At
def zI  (r_:av):Option (dm×av):=dh (fun k (x:av)=>Eh k x) r_
theorem No:aE Tryd.prog S (Ei (zI)):=gv (fun k x=>Eh k x) (fun _=>rfl) fun k=>
 fq pk [iK dx,k6 cg,mm er,zM mP,zK oz,qY fT,zJ gx,Eg zF] ⟨jo,mu,n_,Ep,En,uu,El,Nl,trivial⟩ Tryd.func19 [] k (fun k=> [(0,⟨[0,2,3],[eo,Dg,Dg],fun x=>vj k x.1.1 x.1.2.1 x.1.2.2.1 x.1.2.2.2 x.2.1.1 x.2.1.2.1 x.2.1.2.2.1 x.2.1.2.2.2.1 x.2.1.2.2.2.2.1 x.2.1.2.2.2.2.2.1 x.2.1.2.2.2.2.2.2.1 x.2.1.2.2.2.2.2.2.2 x.2.2.1 x.2.2.2.1 x.2.2.2.2.1 x.2.2.2.2.2.1 x.2.2.2.2.2.2.1 x.2.2.2.2.2.2.2.1 x.2.2.2.2.2.2.2.2.1 x.2.2.2.2.2.2.2.2.2,false⟩)]) ⟨fun _=>rfl,trivial⟩ (fun _=>by kernel_rfl) (fun _=>by kernel_rfl) (by kernel_rfl)
abbrev Nx:=av→Option (cU×av)
abbrev Eo (f:Nx):Entry S:=⟨8,[q8],[Dh],fun x=>f x⟩
def lf:Nat→(List an)→Int→Int→Int→Int→(List cD)→(List dr)→(List dn)→(List dm)→Int→(List cD)→(List dr)→(List dn)→(List dm)→Option (cU×av)
 | 0,_,_,_,_,_,_,_,_,_,_,_,_,_,_=>none
 | k+1,bJ,bG,bI,bH,jH,jJ,hJ,g_,jI,gQ,fX,fY,fW,fV=>(gx (av.mk (aV.mk bJ bG (aR.mk bI bH))) ou (fV.length:Int) 4).bind fun cB=>
  bif cB.1 then
  (zI cB.2).bind fun cJ=>
  if (fV.length+ [cJ.1].length)*144≤140737488355328 then
  lf k cJ.2.Row.L cJ.2.Row.At cJ.2.Row.aj.Code cJ.2.Row.aj.At jH jJ hJ g_ jI gQ fX fY fW (fV++ [cJ.1]) else none else
  (dx cB.2).bind fun eA=>
  if eA.1.Kind≠4 then
  (iM eA.2).bind fun jm=>
  some (cU.mk gQ fX fY fW fV,jm) else
  some (cU.mk gQ fX fY fW fV,eA.2)
def jB:Nat→(List an)→Int→Int→Int→Int→(List cD)→(List dr)→(List dn)→(List dm)→Int→(List cD)→(List dr)→(List dn)→(List dm)→Option (cU×av)
 | 0,_,_,_,_,_,_,_,_,_,_,_,_,_,_=>none
 | k+1,bJ,bG,bI,bH,jH,jJ,hJ,g_,jI,gQ,fX,fY,fW,fV=>(gx (av.mk (aV.mk bJ bG (aR.mk bI bH))) gR (fW.length:Int) 24).bind fun bB=>
  bif bB.1 then
  (rR bB.2).bind fun cV=>
  if (fW.length+ [cV.1].length)*88≤140737488355328 then
  jB k cV.2.Row.L cV.2.Row.At cV.2.Row.aj.Code cV.2.Row.aj.At jH jJ hJ g_ jI gQ fX fY (fW++ [cV.1]) fV else none else
  lf k bB.2.Row.L bB.2.Row.At bB.2.Row.aj.Code bB.2.Row.aj.At jH jJ hJ g_ jI gQ fX fY fW fV
def jA:Nat→(List an)→Int→Int→Int→Int→(List cD)→(List dr)→(List dn)→(List dm)→Int→(List cD)→(List dr)→(List dn)→(List dm)→Option (cU×av)
 | 0,_,_,_,_,_,_,_,_,_,_,_,_,_,_=>none
 | k+1,bJ,bG,bI,bH,jH,jJ,hJ,g_,jI,gQ,fX,fY,fW,fV=>(gx (av.mk (aV.mk bJ bG (aR.mk bI bH))) jz (fY.length:Int) 12).bind fun r8=>
  bif r8.1 then
  (rS r8.2).bind fun r9=>
  if (fY.length+ [r9.1].length)*64≤140737488355328 then
  jA k r9.2.Row.L r9.2.Row.At r9.2.Row.aj.Code r9.2.Row.aj.At jH jJ hJ g_ jI gQ fX (fY++ [r9.1]) fW fV else none else
  jB k r8.2.Row.L r8.2.Row.At r8.2.Row.aj.Code r8.2.Row.aj.At jH jJ hJ g_ jI gQ fX fY fW fV
def iP:Nat→(List an)→Int→Int→Int→Int→(List cD)→(List dr)→(List dn)→(List dm)→Int→(List cD)→(List dr)→(List dn)→(List dm)→Option (cU×av)
 | 0,_,_,_,_,_,_,_,_,_,_,_,_,_,_=>none
 | k+1,bJ,bG,bI,bH,jH,jJ,hJ,g_,jI,gQ,fX,fY,fW,fV=>(gx (av.mk (aV.mk bJ bG (aR.mk bI bH))) jy (fX.length:Int) 8).bind fun r5=>
  bif r5.1 then
  (nj r5.2.Row.L r5.2.Row.At).bind fun r6=>
  (fS r5.2 r6.2.2.Code r6.2.2.At).bind fun r7=>
  if (fX.length+ [r6.1].length)*136≤140737488355328 then
  iP k r7.Row.L r6.2.1 r7.Row.aj.Code r7.Row.aj.At jH jJ hJ g_ jI gQ (fX++ [r6.1]) fY fW fV else none else
  jA k r5.2.Row.L r5.2.Row.At r5.2.Row.aj.Code r5.2.Row.aj.At jH jJ hJ g_ jI gQ fX fY fW fV
def fZ (k:Nat) (r_:av):Option (cU×av):=(cg r_ mO).bind fun r1=>
 (cg r1 mG).bind fun r2=>
 (mq r2).bind fun r3=>
 (cg r3.2 dM).bind fun r4=>
 iP k r4.Row.L r4.Row.At r4.Row.aj.Code r4.Row.aj.At 0 [] [] [] [] r3.1 [] [] [] []
def eN  (r_:av):Option (cU×av):=dh (fun k (x:av)=>fZ k x) r_
theorem Nw:aE Tryd.prog S (Eo (eN)):=gv (fun k x=>fZ k x) (fun _=>rfl) fun k=>
 fq pk [k6 cg,yX mq,zJ gx,AH nj,ud fS,Ek rS,Ej rR,Ei zI,iK dx,rm iM] ⟨mu,Dx,El,Gt,yP,Ns,Nq,No,jo,uz,trivial⟩ Tryd.func8 [] k (fun k=> [(0,⟨[0,2,3],[eo,kT,kT],fun x=>iP k x.1.1 x.1.2.1 x.1.2.2.1 x.1.2.2.2 x.2.1.1 x.2.1.2.1 x.2.1.2.2.1 x.2.1.2.2.2.1 x.2.1.2.2.2.2 x.2.2.1 x.2.2.2.1 x.2.2.2.2.1 x.2.2.2.2.2.1 x.2.2.2.2.2.2,false⟩),(2,⟨[0,2,3],[eo,kT,kT],fun x=>jA k x.1.1 x.1.2.1 x.1.2.2.1 x.1.2.2.2 x.2.1.1 x.2.1.2.1 x.2.1.2.2.1 x.2.1.2.2.2.1 x.2.1.2.2.2.2 x.2.2.1 x.2.2.2.1 x.2.2.2.2.1 x.2.2.2.2.2.1 x.2.2.2.2.2.2,false⟩),(4,⟨[0,2,3],[eo,kT,kT],fun x=>jB k x.1.1 x.1.2.1 x.1.2.2.1 x.1.2.2.2 x.2.1.1 x.2.1.2.1 x.2.1.2.2.1 x.2.1.2.2.2.1 x.2.1.2.2.2.2 x.2.2.1 x.2.2.2.1 x.2.2.2.2.1 x.2.2.2.2.2.1 x.2.2.2.2.2.2,false⟩),(6,⟨[0,2,3],[eo,kT,kT],fun x=>lf k x.1.1 x.1.2.1 x.1.2.2.1 x.1.2.2.2 x.2.1.1 x.2.1.2.1 x.2.1.2.2.1 x.2.1.2.2.2.1 x.2.1.2.2.2.2 x.2.2.1 x.2.2.2.1 x.2.2.2.2.1 x.2.2.2.2.2.1 x.2.2.2.2.2.2,false⟩)]) ⟨fun _=>rfl,fun _=>rfl,fun _=>rfl,fun _=>rfl,trivial⟩ (fun _=>by kernel_rfl) (fun _=>by kernel_rfl) (by kernel_rfl)
abbrev Nk:=(List UInt8)→Option (cU×aR)
abbrev zE (f:Nk):Entry S:=⟨5,[q0],[Dh,q6],fun x=>f x⟩
def fe  (text:List UInt8):Option (cU×aR):=(tS text).bind fun r1=>
 if r1.2.Code≠0 then
 some (cU.mk 0 [] [] [] [],r1.2) else
 (eN (av.mk (aV.mk r1.1 0 (aR.mk 0 0)))).bind fun r2=>
 (jr r2.2).bind fun r3=>
 bif !r3.1 then
 some (cU.mk 0 [] [] [] [],r3.2.Row.aj) else
 some (r2.1,aR.mk 0 0)
theorem Ee:aE Tryd.prog S (zE (fe)):=
 aY pk [CJ tS,Eo eN,ur jr] ⟨JX,Nw,yZ,trivial⟩ Tryd.func5 (by kernel_rfl) (fun _=>by kernel_rfl) (by kernel_rfl)
abbrev JM:=Option Bool
abbrev CG (f:JM):Entry S:=⟨6,[],[q3],fun x=>f⟩
def nT:Option Bool:=(fe zk).bind fun r1=>
 (fe zl).bind fun r2=>
 if r1.2.Code=0 then
 if r1.1.zX=1 then
 if (r1.1.ia.length:Int)=0 then
 some (decide (r2.2.Code=12∧r2.2.At=12)) else
 some false else
 some false else
 some false
theorem JL:aE Tryd.prog S (CG (nT)):=
 aY pk [zE fe] ⟨Ee,trivial⟩ Tryd.func6 (by kernel_rfl) (fun _=>by kernel_rfl) (by kernel_rfl)
abbrev JK:=Int→Int→Option Bool
abbrev JI (f:JK):Entry S:=⟨3,[q2,q2],[q3],fun x=>f x.1 x.2⟩
def j0:Nat→(List UInt8)→Int→(List UInt8)→Int→Int→Int→Option Bool
 | 0,_,_,_,_,_,_=>none
 | k+1,line,most,text,aB,k_,i=>if i<k_ then
  if text.length+line.length≤9223372036854775807 then
  j0 k line most (text++line) aB k_ (aI (i+1)) else none else
  (fe text).bind fun r1=>
  if most<k_ then
  if r1.2.Code=15∧r1.2.At=aB then
  (nT).bind fun r2=>
  some r2 else
  some false else
  if r1.2.Code=0 then
  if (aI ((aI ((r1.1.ia.length:Int)+(r1.1.Insts.length:Int)))+(r1.1.iS.length:Int)))=k_ then
  (nT).bind fun r3=>
  some r3 else
  some false else
  some false
def tP (k:Nat) (what:Int) (n:Int):Option Bool:=if ¬ (3:Int)=0 then
 if 0≤(what.tmod 3) then
 if (what.tmod 3)<(y9.length:Int) then
 if ¬ (3:Int)=0 then
 if 0≤(what.tmod 3) then
 if (what.tmod 3)<(y_.length:Int) then
 if ¬ (40:Int)=0 then
 j0 k (y9.getD (what.tmod 3).toNat []) (y_.getD (what.tmod 3).toNat 0) k9 (aI ((k9.length:Int)+(aI ((y_.getD (what.tmod 3).toNat 0)*((y9.getD (what.tmod 3).toNat []).length:Int))))) ((aI n).tmod 40) 0 else none else none else none else none else none else none else none
def xY  (what:Int) (n:Int):Option Bool:=dh (fun k (x:Int×Int)=>tP k x.1 x.2) (what,n)
theorem JJ:aE Tryd.prog S (JI (xY)):=gv (fun k x=>tP k x.1 x.2) (fun _=>rfl) fun k=>
 fq pk [zE fe,CG nT] ⟨Ee,JL,trivial⟩ Tryd.func3 [] k (fun k=> [(0,⟨[5,6,7,8,9,10],[q0,q1,q0,q1,q1,q1],fun x=>j0 k x.1 x.2.1 x.2.2.1 x.2.2.2.1 x.2.2.2.2.1 x.2.2.2.2.2,false⟩)]) ⟨fun _=>rfl,trivial⟩ (fun _=>by kernel_rfl) (fun _=>by kernel_rfl) (by kernel_rfl)
end
end Go.Sy.Ex
namespace Go.Sy.Ex
open Go Go.Sy Go.Proofs Go.Proofs.YtogpgblanenleaaDoor
abbrev L7:List (String×DataW Unit):= [("math/bits.deBruijn32tab",Rows.laid_math_bits_deBruijn32tab),("math/bits.deBruijn64tab",Rows.laid_math_bits_deBruijn64tab),("internal/strconv.uint64pow10",Rows.laid_internal_strconv_uint64pow10),("strconv.ErrRange",Rows.laid_strconv_ErrRange),("strconv.ErrSyntax",Rows.laid_strconv_ErrSyntax)]
theorem BJ:Tryd.prog.globalNamed "strconv.ErrRange" =some 2:=by kernel_rfl
theorem BK:Tryd.prog.globalNamed "strconv.ErrSyntax" =some 1:=by kernel_rfl
theorem NA:(Tryd.prog.globals[2]?).map (·.type)=some 95:=by kernel_rfl
theorem NB:(Tryd.prog.globals[1]?).map (·.type)=some 95:=by kernel_rfl
theorem star: "*" ++ "errors.errorString" = "*errors.errorString" :=by decide
theorem DD (u:TypeId) (h:Tryd.prog.typeName? 3 u=some "*errors.errorString"):u=141:=
 typeName_ptr_named (nm:= "errors.errorString") (by rw [star]; kernel_rfl) (by kernel_rfl) (by decide) u (by rw [star]; exact h)
theorem BL:Tryd.prog.globalNamed "internal/strconv.uint64pow10" =some 3:=by kernel_rfl
theorem NC:(Tryd.prog.globals[3]?).map (·.type)=some 170:=by kernel_rfl
theorem Kw {W:World} (h:W.ShapedOpen Tryd.prog): ∃ m,W.cell? ⟨0,0,none⟩=some (.int .i64 m):=
 cell_of_shapedOpen_int (t:=3) (zero:= #[.int .i64 0]) h (of_decide_eq_true (by kernel_rfl)) (by kernel_rfl) rfl (by kernel_rfl) (by kernel_rfl) Tryd.underlying3
theorem HO {W:World} {M:St} (hM:fh M) (hL:laidMetH Tryd.prog L7 W) (hsh:W.ShapedOpen Tryd.prog):fH S W M:=by
 rw [MakeChecks.laidMetH_plain _ _ _ (by kernel_rfl)] at hL
 have hT:Lib.TabIs Tryd.prog W "internal/strconv.uint64pow10" .u64 Lib.pow10Tab:=Lib.tabIs_of_head BL NC Tryd.underlying170 Tryd.underlying114 (by kernel_rfl) (by kernel_rfl) hL.tail.tail
 obtain ⟨a0,s0,hv0, -, -, -⟩:=laid_sentinel hL.tail.tail.tail BJ NA Tryd.underlying95 DD Tryd.underlying141 Tryd.underlying143 rfl rfl Tryd.underlying9 (by kernel_rfl) (by kernel_rfl)
 have c1:=World.var?_cell BJ hv0 0
 obtain ⟨a1,s1,hv1, -, -, -⟩:=laid_sentinel hL.tail.tail.tail.tail BK NB Tryd.underlying95 DD Tryd.underlying141 Tryd.underlying143 rfl rfl Tryd.underlying9 (by kernel_rfl) (by kernel_rfl)
 have c0:=World.var?_cell BK hv1 0
 obtain ⟨m,c3⟩:=Kw hsh
 refine ⟨fun g hg=> ?_,fun g hg=> ?_⟩
 · simp only [List.mem_cons,List.not_mem_nil,or_false] at hg
   rcases hg with rfl | rfl | rfl
   · exact ⟨World.block_lt_of_cell? _ _ c3,hM _ _,_,c3,m,rfl⟩
   · exact ⟨World.block_lt_of_cell? _ _ (by simpa using c1),hM _ _,_,by simpa using c1, .inr ⟨_,_,rfl⟩⟩
   · exact ⟨World.block_lt_of_cell? _ _ (by simpa using c0),hM _ _,_,by simpa using c0, .inr ⟨_,_,rfl⟩⟩
 · simp only [List.mem_cons,List.not_mem_nil,or_false] at hg
   subst hg
   unfold Lib.TabIs World.var? at hT
   rw [BL] at hT
   simp only [Option.bind_some] at hT
   split at hT
   · rename_i cs t f hb
     cases hT
     exact ⟨(Array.getElem?_eq_some_iff.1 hb).1,fun o=>hM _ _,_,hb,t,f,rfl⟩
   · cases hT
end Go.Sy.Ex
namespace Go.Sy.Ex
open Go Go.Sy Go.Proofs Go.Proofs.YtogpgblanenleaaDoor Go.ChangeShapes Go.WideShapes Go.RowKit
theorem Mp {H:Type} {enc:TypeId×Value→H} {a:Assume} {C:Checked} {os:Os} {f:FuncId} {fn:Func} {s:ChangeSpec} {conds:List PathCond} {apart fresh handsOn again:Bool} {X:World→Array Value→Prop}
 (hX: ∀ (w w':World) (args:Array Value),w.heap=w'.heap→X w args→X w' args)
 (own:ownKnob C.prog.godebug=none) (started:os.Started) (noInit:C.prog.inits.idxOf? f=none) (hfn:C.prog.funcs[f]? =some fn)
 (witness: ∃ (w:World) (tape:Tape) (i:Input),w.os=os∧(w.forCall tape i).Shaped C.prog∧i.vars= []∧Input.okWide C.prog (w.forCall tape i) .any w.heap.size f i∧
  ((s.pre enc C.prog fn conds apart (w.forCall tape i).memory i.args∧X (w.forCall tape i).memory i.args)∧sizedMet enc C.prog fn (OpenSpec.ofChange s) apart (w.forCall tape i).memory i.args)∧a.holds C.prog (lone (Frame.enter C.prog f i.args .normal) [] (w.forCall tape i)))
 (contract: ∀ (W:World) (base:Nat) (args:Array Value) (ds gs:List (DataW H)) (before:List MemPlace),
  (∀ (j:Nat) t v,fn.params[j]? =some t→args[j]? =some v→Value.okWide C.prog W .any base t v)→
  DataW.Whole enc C.prog fn.params.toList s.vars apart W args.toList ds gs before→
  conds.all (PathCond.test C.prog ⟨fn.params.toList,ds,s.plain.varTypes C.prog,gs⟩)=true→
  (DataW.weightsEach C.prog (fn.params.toList++s.plain.varTypes C.prog) (ds++gs)).all (· ≤reachBytes)=true→X W args→W.ShapedOpen C.prog→
  a.holds C.prog (lone (Frame.enter C.prog f args .normal) [] W)→
  Calls C.prog f args W fun e W'=> ∃ v,e= .returned v∧s.post enc C.prog fn apart fresh handsOn again W args v W'):
 ReturnsInHanded a C os f .any (fun w args=>(s.pre enc C.prog fn conds apart w args∧X w args)∧sizedMet enc C.prog fn (OpenSpec.ofChange s) apart w args) (s.post enc C.prog fn apart fresh handsOn again):=by
 refine returnsInHanded_of_calls own started noInit witness ?_
 intro w tape i _ hsh _ hok hpre hholds
 obtain ⟨_,_,_,fn',IG,_,_,_,_,hval⟩:=hok
 have e:fn'=fn:=Option.some.inj (IG.symm.trans hfn)
 subst e
 obtain ⟨⟨⟨ds,gs,before,hw,hc⟩,hx⟩,hz⟩:=hpre
 have hw':=DataW.Whole.of_heap (w':=w.forCall tape i) (by rfl) hw
 refine (contract (w.forCall tape i) w.heap.size i.args ds gs before hval hw' hc (hz.weights hw) (hX _ _ _ (by rfl) hx) hsh hholds).mono fun e W' ⟨v,he,hp⟩=> ?_
 subst he
 exact ChangeSpec.post_blind hp
set_option maxRecDepth 100000 in
theorem G3 (os:Os) (args:Array Value):laidMetH Tryd.prog L7 ((World.laidAll Tryd.prog os L7).forCall (fun _ _=>0) ⟨#[],args,[]⟩).memory:=by
 rw [MakeChecks.laidMetH_plain _ _ _ (by kernel_rfl)]
 exact laidMet_laidAll _ (by kernel_rfl) (by kernel_rfl)
end Go.Sy.Ex
namespace Go.Sy.Ex
open Go.Sy
theorem EU (b:UInt8):((b.toNat:Nat):Int).toNat.toUInt8=b:=by
 rw [Int.toNat_natCast]; exact UInt8.ofNat_toNat
theorem Gb (b:UInt8):(0≤Lib.indexByte u6 b)↔((b.toNat:Int)=32∨(b.toNat:Int)=9∨(b.toNat:Int)=10∨(b.toNat:Int)=13):=by
 have h: ∀ n,n<256→((0≤Lib.indexByte u6 (Nat.toUInt8 n))↔(((Nat.toUInt8 n).toNat:Int)=32∨((Nat.toUInt8 n).toNat:Int)=9∨((Nat.toUInt8 n).toNat:Int)=10∨((Nat.toUInt8 n).toNat:Int)=13)):=by decide+kernel
 have :=h b.toNat b.toNat_lt
 rwa [show Nat.toUInt8 b.toNat=b from UInt8.ofNat_toNat] at this
def isDigit (c:Int):Bool:=decide (48≤c∧c≤57)
def l8 (c:Int):Bool:=decide ((97≤c∧c≤122)∨(65≤c∧c≤90)∨c=95)
theorem xX (c:Int):kO c=some (l8 c||isDigit c,isDigit c):=by
 have fin: ∀ a b:Bool,((a=true)↔((97≤c∧c≤122)∨(65≤c∧c≤90)∨c=95)∨(48≤c∧c≤57))→((b=true)↔(48≤c∧c≤57))→some (a,b)=some (l8 c||isDigit c,isDigit c):=by
  intro a b ha hb
  have e1:a=(l8 c||isDigit c):=by
   rw [Bool.eq_iff_iff,ha]; simp [l8,isDigit]
  have e2:b=isDigit c:=by
   rw [Bool.eq_iff_iff,hb]; simp [isDigit]
  rw [e1,e2]
 unfold kO
 repeat' split
 all_goals
  refine fin _ _ ?_ ?_
  · constructor
    · intro h; first | omega | (cases h)
    · intro h; first | rfl | (exfalso; omega)
  · constructor
    · intro h; first | omega | (cases h)
    · intro h; first | rfl | (exfalso; omega)
def cc:Bool→List UInt8→Nat→Nat
 | _,[],n=>n
 | true,b::t,n=>if b=10 then cc false t (n+1) else cc true t (n+1)
 | false,b::t,n=>if b=32∨b=9∨b=10∨b=13 then cc false t (n+1) else if b=35 then cc true t (n+1) else n
theorem ve: ∀ (t:List UInt8) (r:Bool) (n:Nat),n≤cc r t n∧cc r t n≤n+t.length:=by
 intro t
 induction t with
 | nil=>intro r n; cases r <;> exact ⟨Nat.le_refl _,Nat.le_refl _⟩
 | cons b t ih=>
  intro r n
  have h1:=ih true (n+1)
  have h2:=ih false (n+1)
  cases r
  · simp only [cc,List.length_cons]
    split
    · omega
    · split
      · omega
      · omega
  · simp only [cc,List.length_cons]
    split <;> omega
theorem mU (b:UInt8) (n:Nat) (hn:n<256):((b.toNat:Int)=(n:Int))↔b=Nat.toUInt8 n:=by
 constructor
 · intro h
   refine UInt8.toNat_inj.1 ?_
   have :(Nat.toUInt8 n).toNat=n:=by
    show n % 256=n
    omega
   omega
 · rintro rfl
   have :(Nat.toUInt8 n).toNat=n:=by
    show n % 256=n
    omega
   omega
theorem M8 (t:List UInt8) (hl:t.length<200000000000000): ∀ m n,n+m=t.length→(∀ k,3*m+1≤k→jh k t ((n:Nat):Int)=some ((cc false (t.drop n) n:Nat):Int))∧ ∀ k,3*m+2≤k→kP k t ((n:Nat):Int)=some ((cc true (t.drop n) n:Nat):Int):=by
 intro m
 induction m with
 | zero=>
  intro n h
  have hd:t.drop n= []:=List.drop_eq_nil_of_le (by omega)
  have h0: ∀ k,1≤k→jh k t ((n:Nat):Int)=some ((cc false (t.drop n) n:Nat):Int):=by
   intro k hk
   obtain ⟨k,rfl⟩: ∃ j,k=j+1:=⟨k - 1,by omega⟩
   simp only [jh]
   rw [if_neg (by omega),hd]; rfl
  refine ⟨fun k hk=>h0 k (by omega),fun k hk=> ?_⟩
  obtain ⟨k,rfl⟩: ∃ j,k=j+1:=⟨k - 1,by omega⟩
  simp only [kP]
  rw [if_neg (by omega),h0 k (by omega),hd]; rfl
 | succ m ih=>
  intro n h
  have hlt:n<t.length:=by omega
  obtain ⟨i0,i1⟩:=ih (n+1) (by omega)
  have e:aI ((n:Int)+1)=((n+1:Nat):Int):=by rw [ga (by omega) (by omega)]; omega
  have hd:t.drop n=t[n]::t.drop (n+1):=List.drop_eq_getElem_cons hlt
  have vQ:((t[n].toNat:Nat):Int)=10↔t[n]=10:=mU t[n] 10 (by decide)
  have Gl:((t[n].toNat:Nat):Int)=32↔t[n]=32:=mU t[n] 32 (by decide)
  have c9:((t[n].toNat:Nat):Int)=9↔t[n]=9:=mU t[n] 9 (by decide)
  have Gk:((t[n].toNat:Nat):Int)=13↔t[n]=13:=mU t[n] 13 (by decide)
  have Ar:((t[n].toNat:Nat):Int)=35↔t[n]=35:=mU t[n] 35 (by decide)
  have h0: ∀ k,3*(m+1)+1≤k→jh k t ((n:Nat):Int)=some ((cc false (t.drop n) n:Nat):Int):=by
   intro k hk
   obtain ⟨k,rfl⟩: ∃ j,k=j+1:=⟨k - 1,by omega⟩
   have g1:(n:Int)<(t.length:Int):=by omega
   have g0:0≤(n:Int):=by omega
   have l1:t[n]=35→kP k t ((n:Nat):Int)=some ((cc true (t.drop (n+1)) (n+1):Nat):Int):=by
    intro hb
    obtain ⟨k,rfl⟩: ∃ j,k=j+1:=⟨k - 1,by omega⟩
    simp only [kP]
    rw [if_pos g1,if_pos g0,if_pos g1,Int.toNat_natCast,iA _ hlt,if_pos (by rw [hb]; decide),e]
    exact i1 k (by omega)
   simp only [jh,kR,au,EU]
   simp only [g0,g1,if_true,Int.toNat_natCast,iA _ hlt,e]
   rw [hd,i0 k (by omega)]
   simp only [cc]
   have hb:=Gb t[n]
   rw [Gl,c9,vQ,Gk] at hb
   by_cases hx:0≤Lib.indexByte u6 t[n]
   · rw [if_pos hx,if_pos (hb.1 hx)]
   · rw [if_neg hx,if_neg (fun q=>hx (hb.2 q))]
     by_cases o6:t[n]=35
     · rw [if_pos (Ar.2 o6),if_pos o6,l1 o6]
     · rw [if_neg (fun q=>o6 (Ar.1 q)),if_neg o6]
  refine ⟨h0,fun k hk=> ?_⟩
  obtain ⟨k,rfl⟩: ∃ j,k=j+1:=⟨k - 1,by omega⟩
  simp only [kP]
  rw [if_pos (by omega),if_pos (by omega),if_pos (by omega),Int.toNat_natCast,iA _ hlt,e]
  by_cases o5:t[n]=10
  · rw [if_neg (fun q=>q (vQ.2 o5)),h0 k (by omega),hd]
    simp only [cc]
    rw [if_pos (.inr (.inr (.inl o5))),if_pos o5]
  · rw [if_pos (fun q=>o5 (vQ.1 q)),i1 k (by omega),hd]
    simp only [cc]
    rw [if_neg o5]
def dg (b:UInt8):Bool:=isDigit (b.toNat:Int)
def lt (b:UInt8):Bool:=l8 (b.toNat:Int)
def nm (b:UInt8):Bool:=lt b||dg b
def cW (p:UInt8→Bool) (t:List UInt8) (n:Nat):Nat:=n+((t.drop n).takeWhile p).length
theorem Mr {p:UInt8→Bool} {t:List UInt8} {n:Nat} (h:t.length≤n):cW p t n=n:=by
 unfold cW; rw [List.drop_eq_nil_of_le h]; rfl
theorem za {p:UInt8→Bool} {t:List UInt8} {n:Nat} (h:n<t.length) (hp:p t[n]=true):cW p t n=cW p t (n+1):=by
 unfold cW; rw [List.drop_eq_getElem_cons h,List.takeWhile_cons_of_pos hp]; simp only [List.length_cons]; omega
theorem Mq {p:UInt8→Bool} {t:List UInt8} {n:Nat} (h:n<t.length) (hp:p t[n]=false):cW p t n=n:=by
 unfold cW; rw [List.drop_eq_getElem_cons h,List.takeWhile_cons_of_neg (by simp [hp])]; rfl
theorem rU (p:UInt8→Bool): ∀ l:List UInt8,(l.takeWhile p).length≤l.length:=fun l=>by
 induction l with
 | nil=>exact Nat.le_refl _
 | cons a l ih=>rw [List.takeWhile_cons]; split <;> simp <;> omega
theorem om (p:UInt8→Bool) (t:List UInt8) (n:Nat) (h:n≤t.length):n≤cW p t n∧cW p t n≤t.length:=by
 unfold cW
 have :=rU p (t.drop n)
 rw [List.length_drop] at this
 omega
theorem sR (p:UInt8→Bool) (t:List UInt8) (n:Nat):cut t ((n:Nat):Int) ((cW p t n:Nat):Int)=(t.drop n).takeWhile p:=by
 unfold cut cW
 rw [Int.toNat_natCast,Int.toNat_natCast,List.drop_take,Nat.add_sub_cancel_left]
 generalize t.drop n=l
 induction l with
 | nil=>rfl
 | cons a l ih => rw [List.takeWhile_cons]; split
                  · rw [List.length_cons,List.take_succ_cons,ih]
                  · rfl
theorem He (t:List UInt8) (f:Bool) (hl:t.length<200000000000000): ∀ m n,n+m=t.length→ ∀ k,m+1≤k→mb k t ((n:Nat):Int) f=some ((cW (fun b=>bif f then dg b else nm b) t n:Nat):Int):=by
 intro m
 induction m with
 | zero=>
  intro n h k hk
  obtain ⟨k,rfl⟩: ∃ j,k=j+1:=⟨k - 1,by omega⟩
  simp only [mb]
  rw [if_neg (by omega),Mr (by omega)]
 | succ m ih=>
  intro n h k hk
  obtain ⟨k,rfl⟩: ∃ j,k=j+1:=⟨k - 1,by omega⟩
  have hlt:n<t.length:=by omega
  have e:aI ((n:Int)+1)=((n+1:Nat):Int):=by rw [ga (by omega) (by omega)]; omega
  simp only [mb,xX,au]
  rw [if_pos (by omega),if_pos (by omega),if_pos (by omega),Int.toNat_natCast,iA _ hlt,e,ih (n+1) (by omega) k (by omega)]
  have key: ∀ a b:Bool,lt t[n]=a→dg t[n]=b→(bif !(a||b) then some ((n:Nat):Int) else bif f then bif !b then some ((n:Nat):Int) else some ((cW (fun b=>bif f then dg b else nm b) t (n+1):Nat):Int) else some ((cW (fun b=>bif f then dg b else nm b) t (n+1):Nat):Int))=some ((cW (fun b=>bif f then dg b else nm b) t n:Nat):Int):=by
   intro a b ha hb
   cases f <;> cases a <;> cases b <;> simp only [Bool.or_self,Bool.not_true,Bool.not_false,Bool.or_true,Bool.true_or,Bool.or_false,Bool.false_or,cond_true,cond_false]
   all_goals
    first
     | (rw [Mq hlt ?_]; simp [nm,ha,hb]; done)
     | (rw [za hlt ?_]; simp [nm,ha,hb]; done)
  exact key _ _ rfl rfl
theorem G_ (t:List UInt8) (n:Nat) (hl:t.length<200000000000000) (h:n<t.length):qB t ((n:Nat):Int)=some ((cW (fun b=>bif dg t[n] then dg b else nm b) t n:Nat):Int):=by
 refine e9 (t.length - n+1) fun k hk=> ?_
 simp only [x8,xX,au]
 rw [if_pos (by omega),if_pos (by omega),Int.toNat_natCast,iA _ h]
 exact He t _ hl (t.length - n) n (by omega) k (by omega)
def oG (acc:Nat):List UInt8→Option Nat
 | []=>some acc
 | c::r=>if (9223372036854775807 - (c.toNat - 48)) / 10<acc then none else oG (10*acc+(c.toNat - 48)) r
theorem sX (b:UInt8):dg b=true↔48≤b.toNat∧b.toNat≤57:=by
 unfold dg isDigit
 rw [decide_eq_true_eq]
 omega
theorem F_: ∀ (l:List UInt8) (acc:Nat),(∀ c ∈ l,dg c=true)→9223372036854775808≤acc→Lib.parseUintM (2 ^ 64 - 1) acc l= .range∨ ∃ u,9223372036854775808≤u∧Lib.parseUintM (2 ^ 64 - 1) acc l= .ok u:=by
 intro l acc hd ha
 cases l with
 | nil=>exact .inr ⟨acc,ha,rfl⟩
 | cons c r=>
  refine .inl ?_
  have :=(sX c).1 (hd c (by simp))
  unfold Lib.parseUintM
  rw [if_pos this,if_pos (by omega)]
theorem OF: ∀ (l:List UInt8) (acc:Nat),(∀ c ∈ l,dg c=true)→acc<9223372036854775808→
 (∀ v,oG acc l=some v→v<9223372036854775808∧Lib.parseUintM (2 ^ 64 - 1) acc l= .ok v)∧(oG acc l=none→Lib.parseUintM (2 ^ 64 - 1) acc l= .range∨ ∃ u,9223372036854775808≤u∧Lib.parseUintM (2 ^ 64 - 1) acc l= .ok u):=by
 intro l
 induction l with
 | nil=>intro acc _ ha; exact ⟨fun v h=>by cases h; exact ⟨ha,rfl⟩,fun h=>by cases h⟩
 | cons c r ih=>
  intro acc hd ha
  have hc:=(sX c).1 (hd c (by simp))
  have hr: ∀ c ∈ r,dg c=true:=fun x hx=>hd x (by simp [hx])
  unfold oG Lib.parseUintM
  rw [if_pos hc]
  by_cases h:(9223372036854775807 - (c.toNat - 48)) / 10<acc
  · rw [if_pos h]
    refine ⟨fun v h=>by (cases h),fun _=> ?_⟩
    by_cases h1:1844674407370955162≤acc
    · rw [if_pos h1]; exact .inl rfl
    · rw [if_neg h1]
      by_cases h2:2 ^ 64 - 1<acc*10+(c.toNat - 48)
      · rw [if_pos h2]; exact .inl rfl
      · rw [if_neg h2]
        exact F_ r _ hr (by omega)
  · rw [if_neg h,if_neg (by omega),if_neg (by omega),show acc*10+(c.toNat - 48)=10*acc+(c.toNat - 48) by omega]
    exact ih _ hr (by omega)
def j5 (l:List UInt8):Int×Int:=if 1<l.length∧l.getD 0 0=48 then (0,11) else match oG 0 l with | some v=>((v:Int),0) | none=>(0,16)
def numOf (l:List UInt8):Int×Int:=
 if (1<l.length∧l.getD 0 0=48) then (0,11) else match Lib.parseIntB 64 l with
  | .ok v=>(v,0)
  | _=>(0,16)
theorem KL (l:List UInt8) (hl:l.length≤281474976710656):qC l=some (numOf l):=by
 have key:((kS l 10 64).bind fun r1=>bif !r1.2 then some ((0:Int),(16:Int)) else some (r1.1,0))=some (match Lib.parseIntB 64 l with
  | .ok v=>(v,0)
  | _=>(0,16)):=by
  unfold kS
  rw [if_pos ⟨hl,rfl,rfl⟩,au]
  cases Lib.parseIntB 64 l <;> rfl
 have h0:(((l.getD (0:Int).toNat 0).toNat:Nat):Int)=48↔l.getD 0 0=48:=mU _ 48 (by decide)
 unfold qC numOf
 by_cases h1:1<l.length
 · rw [if_pos (by omega),if_pos (by omega),if_pos (by omega)]
   by_cases h2:l.getD 0 0=48
   · rw [if_pos (h0.2 h2),if_pos ⟨h1,h2⟩]
   · rw [if_neg (fun q=>h2 (h0.1 q)),if_neg (fun q=>h2 q.2),key]
 · rw [if_neg (by omega),if_neg (fun q=>h1 q.1),key]
theorem C0 (l:List UInt8) (h0:l≠ []) (hd: ∀ c ∈ l,dg c=true):numOf l=j5 l:=by
 unfold numOf j5
 by_cases h:1<l.length∧l.getD 0 0=48
 · rw [if_pos h,if_pos h]
 · rw [if_neg h,if_neg h]
   obtain ⟨c,r,rfl⟩: ∃ c r,l=c::r:=by cases l with
    | nil=>exact absurd rfl h0
    | cons c r=>exact ⟨c,r,rfl⟩
   have hc:=(sX c).1 (hd c (by simp))
   obtain ⟨v1,v2⟩:=OF (c::r) 0 hd (by omega)
   have e:(∀ u,Lib.parseUintM (2 ^ 64 - 1) 0 (c::r)= .ok u→Lib.parseIntB 64 (c::r)=if 9223372036854775808≤u then .range else .ok (u:Int))∧(Lib.parseUintM (2 ^ 64 - 1) 0 (c::r)= .range→Lib.parseIntB 64 (c::r)= .range):=by
    unfold Lib.parseIntB Lib.parseUintB
    simp only []
    rw [if_neg (show ¬ (c.toNat=43∨c.toNat=45) by omega),if_neg (by simp)]
    constructor
    · intro u hu
      rw [hu]
      simp only [show ¬ c.toNat=45 by omega,not_false_eq_true,true_and,false_and,if_false]
    · intro hu
      rw [hu]
   cases hv:oG 0 (c::r) with
   | some v=>
    obtain ⟨a,b⟩:=v1 v hv
    rw [e.1 v b,if_neg (by omega)]
   | none=>
    rcases v2 hv with b | ⟨u,a,b⟩
    · rw [e.2 b]
    · rw [e.1 u b,if_pos a]
def gp:List (List UInt8):= [[45,62],[61,61],[33,61],[60,61],[62,61],[38,38],[124,124]]
def dj:List UInt8→Nat
 | []=>0
 | [b]=>if b ∈ gT then 1 else 0
 | b::c::_=>if [b,c] ∈ gp then 2 else if b ∈ gT then 1 else 0
theorem JA (l:List UInt8) (c:UInt8):0≤Lib.indexByte l c↔c ∈ l:=by
 induction l with
 | nil=>simp [Lib.indexByte]
 | cons b l ih=>
  unfold Lib.indexByte
  have hge:=Lib.indexByte_ge l c
  by_cases h:b=c
  · subst h; simp
  · rw [if_neg (by simpa using h)]
    rw [List.mem_cons]
    by_cases h1:Lib.indexByte l c= -1
    · rw [if_pos (by simp [h1])]
      constructor
      · intro x; omega
      · rintro (rfl | x)
        · exact absurd rfl h
        · have :=ih.2 x; omega
    · rw [if_neg (by simpa using h1)]
      constructor
      · intro x; exact .inr (ih.1 (by omega))
      · rintro (rfl | x)
        · exact absurd rfl h
        · have :=ih.2 x; omega
theorem contains_iff (s sub:List UInt8):Lib.contains s sub=true↔ ∃ i,i≤s.length∧Lib.occAt s sub i=true:=by
 unfold Lib.contains
 rw [decide_eq_true_eq]
 rcases Lib.index_spec s sub with ⟨h1,h2⟩ | ⟨i,h1,h2,h3,_⟩
 · constructor
   · intro h; omega
   · rintro ⟨i,hi,h⟩; rw [h2 i hi] at h; cases h
 · exact ⟨fun _=>⟨i,h2,h3⟩,fun _=>by omega⟩
theorem KY (b c:UInt8) (hb:b≠32) (hc:c≠32):Lib.contains DX [b,c]=decide ([b,c] ∈ gp):=by
 rw [Bool.eq_iff_iff,contains_iff,decide_eq_true_eq]
 constructor
 · rintro ⟨i,hi,h⟩
   have hi':i=0∨i=1∨i=2∨i=3∨i=4∨i=5∨i=6∨i=7∨i=8∨i=9∨i=10∨i=11∨i=12∨i=13∨i=14∨i=15∨i=16∨i=17∨i=18∨i=19∨i=20:=by
    have :i≤20:=hi
    omega
   clear hi
   rcases hi' with rfl | rfl | rfl | rfl | rfl | rfl | rfl | rfl | rfl | rfl | rfl | rfl | rfl | rfl | rfl | rfl | rfl | rfl | rfl | rfl | rfl
   all_goals
    simp only [Lib.occAt,List.drop_succ_cons,List.drop_zero,List.drop_nil,List.isPrefixOf,Bool.and_true,Bool.and_eq_true,beq_iff_eq,Bool.and_false,Bool.false_eq_true,and_false] at h
   all_goals
    first
     | exact absurd h.1 hb
     | exact absurd h.2 hc
     | (obtain ⟨rfl,rfl⟩:=h; decide)
 · intro h
   simp only [gp,List.mem_cons,List.cons.injEq,and_true,List.not_mem_nil,or_false] at h
   rcases h with ⟨rfl,rfl⟩ | ⟨rfl,rfl⟩ | ⟨rfl,rfl⟩ | ⟨rfl,rfl⟩ | ⟨rfl,rfl⟩ | ⟨rfl,rfl⟩ | ⟨rfl,rfl⟩
   · exact ⟨0,by decide,by decide⟩
   · exact ⟨3,by decide,by decide⟩
   · exact ⟨6,by decide,by decide⟩
   · exact ⟨9,by decide,by decide⟩
   · exact ⟨12,by decide,by decide⟩
   · exact ⟨15,by decide,by decide⟩
   · exact ⟨18,by decide,by decide⟩
theorem GZ (t:List UInt8) (n:Nat) (h:n+1<t.length):cut t ((n:Nat):Int) ((n+2:Nat):Int)= [t[n],t[n+1]]:=by
 unfold cut
 rw [Int.toNat_natCast,Int.toNat_natCast,List.drop_take,Nat.add_sub_cancel_left,List.drop_eq_getElem_cons (by omega:n<t.length),List.drop_eq_getElem_cons h]
 rfl
theorem MW (t:List UInt8) (n:Nat) (h:n+1<t.length):dj (t.drop n)=if [t[n],t[n+1]] ∈ gp then 2 else if t[n] ∈ gT then 1 else 0:=by
 rw [List.drop_eq_getElem_cons (by omega:n<t.length),List.drop_eq_getElem_cons h]; rfl
theorem MV (t:List UInt8) (n:Nat) (h:n+1=t.length):dj (t.drop n)=if t[n] ∈ gT then 1 else 0:=by
 rw [List.drop_eq_getElem_cons (by omega:n<t.length),List.drop_eq_nil_of_le (by omega)]; rfl
theorem KG (b:UInt8): [b,(32:UInt8)] ∉ gp:=by
 simp only [gp,List.mem_cons,List.cons.injEq,and_true,List.not_mem_nil,or_false]
 rintro (⟨_,h⟩ | ⟨_,h⟩ | ⟨_,h⟩ | ⟨_,h⟩ | ⟨_,h⟩ | ⟨_,h⟩ | ⟨_,h⟩) <;> revert h <;> decide
theorem OA (b:UInt8):b.toNat.toUInt8=b:=UInt8.ofNat_toNat
theorem Kk (t:List UInt8) (n:Nat) (hl:t.length<200000000000000) (h:n<t.length) (hb:t[n]≠32):qD t ((n:Nat):Int)=some ((n+dj (t.drop n):Nat):Int):=by
 have e1:aI ((n:Int)+1)=((n+1:Nat):Int):=by rw [ga (by omega) (by omega)]; omega
 have e2:aI ((n:Int)+2)=((n+2:Nat):Int):=by rw [ga (by omega) (by omega)]; omega
 unfold qD
 simp only [kR,nX,au,EU,e1,e2,Int.toNat_natCast,iA _ h,JA,OA]
 have hone:(if t[n] ∈ gT then some ((n+1:Nat):Int) else some ((n:Nat):Int))=some ((n+(if t[n] ∈ gT then 1 else 0):Nat):Int):=by
  split <;> rfl
 by_cases h1:n+1<t.length
 · rw [if_pos (by omega),if_pos (by omega),if_pos (by omega),iA _ h1,MW t n h1]
   by_cases hc:t[n+1]=32
   · rw [if_neg (by rw [hc]; decide),if_pos (by omega),if_pos (by omega),hc,if_neg (KG _),hone]
   · have eK:((t[n+1].toNat:Nat):Int)≠32:=fun q=>hc ((mU _ 32 (by decide)).1 q)
     rw [if_pos eK,if_pos (by omega),if_pos (by omega),if_pos (by omega),if_pos (by omega),GZ t n h1,if_pos (by decide),au,KY _ _ hb hc]
     by_cases hp: [t[n],t[n+1]] ∈ gp
     · rw [if_pos hp,decide_eq_true hp]; rfl
     · rw [if_neg hp,decide_eq_false hp,cond_false,if_pos (by omega),if_pos (by omega),hone]
 · rw [if_neg (by omega),if_pos (by omega),if_pos (by omega),MV t n (by omega),hone]
def dN (t:List UInt8) (n:Nat):an×Int:=
 if dg (t.getD n 0) then
  (let r:=j5 ((t.drop n).takeWhile dg)
   if r.2≠0 then (an.mk 0 0 0 [] 0,r.2) else (an.mk 2 n (cW dg t n:Nat) ((t.drop n).takeWhile dg) r.1,0))
 else if lt (t.getD n 0) then
  (if n+24<cW nm t n then (an.mk 0 0 0 [] 0,13) else (an.mk 1 n (cW nm t n:Nat) ((t.drop n).takeWhile nm) 0,0))
 else if dj (t.drop n)=0 then (an.mk 0 0 0 [] 0,10)
 else (an.mk 3 n (n+dj (t.drop n):Nat) ((t.drop n).take (dj (t.drop n))) 0,0)
theorem rN (t:List UInt8):dj t≤t.length:=by
 unfold dj
 split
 · exact Nat.le_refl _
 · split <;> simp
 · split
   · simp
   · split <;> simp
theorem A4 (t:List UInt8) (n j:Nat):cut t ((n:Nat):Int) ((n+j:Nat):Int)=(t.drop n).take j:=by
 unfold cut
 rw [Int.toNat_natCast,Int.toNat_natCast,List.drop_take,Nat.add_sub_cancel_left]
theorem EN (p:UInt8→Bool): ∀ l:List UInt8, ∀ c ∈ l.takeWhile p,p c=true:=by
 intro l
 induction l with
 | nil=>intro c hc; cases hc
 | cons a l ih=>
  intro c hc
  rw [List.takeWhile_cons] at hc
  split at hc
  · rcases List.mem_cons.1 hc with rfl | h
    · assumption
    · exact ih c h
  · cases hc
theorem KK (t:List UInt8) (n:Nat) (h:n<t.length) (hd:dg t[n]=true):numOf ((t.drop n).takeWhile dg)=j5 ((t.drop n).takeWhile dg):=by
 refine C0 _ ?_ ?_
 · rw [List.drop_eq_getElem_cons h,List.takeWhile_cons_of_pos hd]; exact List.cons_ne_nil _ _
 · intro c hc; exact EN _ _ c hc
theorem Kl (t:List UInt8) (n:Nat) (hl:t.length<200000000000000) (h:n<t.length) (hb:t[n]≠32):qF t ((n:Nat):Int)=some (dN t n):=by
 unfold qF dN
 simp only [xX,au,Int.toNat_natCast,iA _ h,G_ t n hl h,Kk t n hl h hb]
 have g0:(0:Int)≤(n:Int):=by omega
 have g1:(n:Int)<(t.length:Int):=by omega
 rw [if_pos g0,if_pos g1]
 have Iw:isDigit ((t[n].toNat:Nat):Int)=dg t[n]:=rfl
 have hlt:l8 ((t[n].toNat:Nat):Int)=lt t[n]:=rfl
 rw [Iw,hlt]
 cases hd:dg t[n] with
 | true=>
  have r:=om dg t n (by omega)
  simp only [cond_true,if_true]
  rw [show (fun b=>dg b)=dg from rfl,if_pos (by omega),if_pos (by omega),if_pos (by omega),if_pos (by omega)]
  have hc:cut t ((n:Nat):Int) ((cW dg t n:Nat):Int)=(t.drop n).takeWhile dg:=sR dg t n
  have hlen:((t.drop n).takeWhile dg).length≤281474976710656:=by
   have :=rU dg (t.drop n); rw [List.length_drop] at this; omega
  rw [hc,KL _ hlen,au,KK t n h hd]
  by_cases hz:(j5 ((t.drop n).takeWhile dg)).2≠0
  · rw [if_pos hz,if_pos hz]
  · rw [if_neg hz,if_neg hz,if_pos (by omega),if_pos (by omega),if_pos (by omega),if_pos (by omega)]
 | false=>
  simp only [cond_false,Bool.or_false,if_false,Bool.false_eq_true]
  cases hL:lt t[n] with
  | true=>
   have r:=om nm t n (by omega)
   have hc:cut t ((n:Nat):Int) ((cW nm t n:Nat):Int)=(t.drop n).takeWhile nm:=sR nm t n
   simp only [cond_true,if_true]
   rw [show (fun b=>nm b)=nm from rfl,hc,ga (by omega) (by omega)]
   by_cases pX:n+24<cW nm t n
   · rw [if_pos (by omega),if_pos pX]
   · rw [if_neg (by omega),if_neg pX,if_pos (by omega),if_pos (by omega),if_pos (by omega),if_pos (by omega)]
  | false=>
   simp only [cond_false,if_false,Bool.false_eq_true]
   have hs:=rN (t.drop n)
   rw [List.length_drop] at hs
   rw [A4]
   by_cases hz:dj (t.drop n)=0
   · rw [if_pos (by omega),if_pos hz]
   · rw [if_neg (by omega),if_neg hz,if_pos (by omega),if_pos (by omega),if_pos (by omega),if_pos (by omega)]
theorem G2 (b:UInt8) (h:lt b=true):dg b=false:=by
 unfold lt l8 at h
 unfold dg isDigit
 rw [decide_eq_true_eq] at h
 rw [decide_eq_false_iff_not]
 omega
theorem CV (t:List UInt8) (n:Nat) (hl:t.length<200000000000000) (h:n≤t.length):qE t ((n:Nat):Int)=some ((cc false (t.drop n) n:Nat):Int):=
 e9 (3*(t.length - n)+1) fun k hk=>(M8 t hl (t.length - n) n (by omega)).1 k hk
theorem MZ: ∀ (u:List UInt8) (r:Bool) (n j:Nat),cc r u n=n+j→j<u.length→u.getD j 0≠32:=by
 intro u
 induction u with
 | nil=>intro r n j _ h; simp at h
 | cons b u ih=>
  intro r n j hj h
  have go: ∀ r',cc r' u (n+1)=n+j→(b::u).getD j 0≠32:=by
   intro r' h'
   have :=(ve u r' (n+1)).1
   obtain ⟨j,rfl⟩: ∃ i,j=i+1:=⟨j - 1,by omega⟩
   rw [List.getD_cons_succ]
   refine ih r' (n+1) j (by omega) (by simpa using h)
  cases r with
  | true=>
   simp only [cc] at hj
   split at hj
   · exact go _ hj
   · exact go _ hj
  | false=>
   simp only [cc] at hj
   split at hj
   · exact go _ hj
   · split at hj
     · exact go _ hj
     · rename_i h1 h2
       obtain rfl:j=0:=by omega
       intro q
       exact h1 (.inl q)
theorem EE (t:List UInt8) (n:Nat) (h:n<t.length) (hz:(dN t n).2=0): ∃ e:Nat,(dN t n).1.End=(e:Int)∧n<e∧e≤t.length∧(dN t n).1.At=(n:Int)∧(dN t n).1.Text=cut t ((n:Nat):Int) ((e:Nat):Int)∧(dN t n).1.Kind≠4:=by
 revert hz
 unfold dN
 rw [iA _ h]
 by_cases hD:dg t[n]=true
 · rw [if_pos hD]
   simp only []
   split
   · intro hz; rename_i q; exact absurd hz q
   · intro _
     refine ⟨cW dg t n,rfl, ?_,(om dg t n (by omega)).2,rfl,(sR dg t n).symm,fun q=>absurd (show (2:Int)=4 from q) (by decide)⟩
     rw [za h hD]; exact (om dg t (n+1) (by omega)).1
 · rw [if_neg hD]
   by_cases hL:lt t[n]=true
   · rw [if_pos hL]
     split
     · intro hz; exact absurd hz (by decide)
     · intro _
       refine ⟨cW nm t n,rfl, ?_,(om nm t n (by omega)).2,rfl,(sR nm t n).symm,fun q=>absurd (show (1:Int)=4 from q) (by decide)⟩
       rw [za h (by simp [nm,hL])]; exact (om nm t (n+1) (by omega)).1
   · rw [if_neg hL]
     have hs:=rN (t.drop n)
     rw [List.length_drop] at hs
     split
     · intro hz; exact absurd hz (by decide)
     · intro _
       exact ⟨n+dj (t.drop n),rfl,by omega,by omega,rfl,(A4 t n _).symm,fun q=>absurd (show (3:Int)=4 from q) (by decide)⟩
def jL:Nat→List UInt8→List an→Nat→List an×aR
 | 0,_,_,_=>([],aR.mk 0 0)
 | k+1,t,l,n=>if n<t.length then
  (if (dN t n).2≠0 then ([],aR.mk (dN t n).2 n) else jL k t (l++ [(dN t n).1]) (cc false (t.drop (dN t n).1.End.toNat) (dN t n).1.End.toNat))
  else (l++ [an.mk 4 n n [] 0],aR.mk 0 0)
def iY (t:List UInt8):List an×aR:=
 if 16384<t.length then ([],aR.mk 13 16384) else jL (t.length+1) t [] (cc false t 0)
theorem BF (t:List UInt8) (n:Nat) (h:n≤t.length) (hs:cc false (t.drop n) n<t.length):t[cc false (t.drop n) n]≠32:=by
 have h1:=(ve (t.drop n) false n).1
 have :=MZ (t.drop n) false n (cc false (t.drop n) n - n) (by omega) (by rw [List.length_drop]; omega)
 rw [iA _ (by rw [List.length_drop]; omega),List.getElem_drop] at this
 have e:n+(cc false (t.drop n) n - n)=cc false (t.drop n) n:=by omega
 simpa only [e] using this
theorem FV (t:List UInt8) (hl:t.length≤16384): ∀ m n,t.length≤n+m→n≤t.length→(∀ h:n<t.length,t[n]≠32)→ ∀ l:List an,l.length≤n→ ∀ k k',m+1≤k→m+1≤k'→
 l_ k t 0 0 l ((n:Nat):Int)=some (jL k' t l n):=by
 intro m
 induction m with
 | zero=>
  intro n h hn _ l IW k k' hk hk'
  obtain ⟨k,rfl⟩: ∃ j,k=j+1:=⟨k - 1,by omega⟩
  obtain ⟨k',rfl⟩: ∃ j,k'=j+1:=⟨k' - 1,by omega⟩
  simp only [l_,jL,List.length_cons,List.length_nil]
  rw [if_neg (by omega),if_pos (by omega),if_neg (by omega)]
 | succ m ih=>
  intro n h hn hb l IW k k' hk hk'
  obtain ⟨k,rfl⟩: ∃ j,k=j+1:=⟨k - 1,by omega⟩
  obtain ⟨k',rfl⟩: ∃ j,k'=j+1:=⟨k' - 1,by omega⟩
  by_cases hlt:n<t.length
  · have hi:(n:Int)<(t.length:Int):=by omega
    have Il:(l.length+(0+1))*48≤140737488355328:=by omega
    simp only [l_,jL,List.length_cons,List.length_nil,hi,hlt,if_true,Kl t n (by omega) hlt (hb hlt),au,Il]
    by_cases hz:(dN t n).2=0
    · simp only [hz,ne_eq,not_true_eq_false,if_false]
      obtain ⟨e,he,h1,h2,_⟩:=EE t n hlt hz
      simp only [he,CV t e (by omega) h2,au,Int.toNat_natCast]
      have hg:=ve (t.drop e) false e
      rw [List.length_drop] at hg
      exact ih _ (by omega) (by omega) (fun hh=>BF t e h2 hh) _ (by rw [List.length_append,List.length_singleton]; omega) k k' (by omega) (by omega)
    · simp only [hz,ne_eq,not_false_eq_true,if_true]
  · simp only [l_,jL,List.length_cons,List.length_nil]
    rw [if_neg (by omega),if_pos (by omega),if_neg hlt]
theorem tL (t:List UInt8):tS t=some (iY t):=by
 refine e9 (t.length+1) fun k hk=> ?_
 unfold x7 iY
 by_cases hl:16384<t.length
 · rw [if_pos (by omega),if_pos hl]
 · have hg:=ve t false 0
   rw [if_neg (by omega),if_neg hl,show (0:Int)=((0:Nat):Int) from rfl,CV t 0 (by omega) (Nat.zero_le _),au]
   exact (FV t (by omega) t.length _ (by omega) (by rw [List.drop_zero]; omega) (fun hh=>BF t 0 (Nat.zero_le _) hh) [] (Nat.zero_le _) k _ (by omega) (by omega))
abbrev si:List (List UInt8):= [mO,mG,jy,rM,rE,u_,uY,u9,mN,mL,mI,mH,uO,uQ,rI,rz,uZ,u0,uH,uK,rF,uN,rH,rG,jz,rK,rD,mM,gR,rA,ou,uT,uL,rB,zi]
def mB (s:List UInt8):Bool:=decide (s ∈ si)
theorem CU (s:List UInt8):iD s=some (mB s):=by
 unfold iD
 by_cases hr:mB s=true
 · rw [hr]
   have hm:s ∈ si:=of_decide_eq_true hr
   simp only [si,List.mem_cons,List.not_mem_nil,or_false] at hm
   rcases hm with rfl | rfl | rfl | rfl | rfl | rfl | rfl | rfl | rfl | rfl | rfl | rfl | rfl | rfl | rfl | rfl | rfl | rfl | rfl | rfl | rfl | rfl | rfl | rfl | rfl | rfl | rfl | rfl | rfl | rfl | rfl | rfl | rfl | rfl | rfl <;> decide+kernel
 · have hr':mB s=false:=by simpa using hr
   have hm:s ∉ si:=of_decide_eq_false hr'
   rw [hr']
   simp only [si,List.mem_cons,List.not_mem_nil,or_false,not_or] at hm
   simp only [hm,if_false]
def iG (s:List UInt8):Bool:=decide (s≠ []∧s.length≤24)&& !mB s&&lt (s.getD 0 0)&&s.all nm
theorem KJ {b:UInt8} (h:lt b=true∨dg b=true): ¬ (b=32∨b=9∨b=10∨b=13)∧b≠35:=by
 refine ⟨?_, ?_⟩
 · rintro (rfl | rfl | rfl | rfl) <;> rcases h with h | h <;> exact absurd h (by decide)
 · rintro rfl; rcases h with h | h <;> exact absurd h (by decide)
end Go.Sy.Ex
namespace Go.Sy.Ex
open Go.Sy
abbrev Tk:=Int×List UInt8×Int
def strip (t:an):Tk:=(t.Kind,t.Text,t.N)
def je (b:UInt8):Bool:=decide (b=32∨b=9∨b=10∨b=13)
def dB (u:List UInt8):List UInt8:=u.dropWhile je
def jd:List UInt8→Option (Tk×Nat)
 | []=>none
 | b::u=>if dg b then
  (let r:=j5 ((b::u).takeWhile dg)
   if r.2≠0 then none else some ((2,(b::u).takeWhile dg,r.1),((b::u).takeWhile dg).length))
  else if lt b then (if 24<((b::u).takeWhile nm).length then none else some ((1,(b::u).takeWhile nm,0),((b::u).takeWhile nm).length))
  else if dj (b::u)=0 then none
  else some ((3,(b::u).take (dj (b::u)),0),dj (b::u))
theorem nJ (b : UInt8) (u : List UInt8) : jd (b :: u) = if dg b then
      (let r:=j5 ((b::u).takeWhile dg)
       if r.2≠0 then none else some ((2,(b::u).takeWhile dg,r.1),((b::u).takeWhile dg).length))
 else if lt b then (if 24<((b::u).takeWhile nm).length then none else some ((1,(b::u).takeWhile nm,0),((b::u).takeWhile nm).length))
 else if dj (b::u)=0 then none
 else some ((3,(b::u).take (dj (b::u)),0),dj (b::u)):=rfl
inductive dV:Nat→List UInt8→List an→Prop
 | nil {n:Nat} {u:List UInt8} :dB u= []→dV n u []
 | cons {n:Nat} {u v:List UInt8} {tk:Tk} {m:Nat} {L:List an} :dB u=v→v≠ []→jd v=some (tk,m)→
  dV (n+(u.length - v.length)+m) (v.drop m) L→dV n u (⟨tk.1,(n+(u.length - v.length):Nat),(n+(u.length - v.length)+m:Nat),tk.2.1,tk.2.2⟩::L)
theorem Iz (t:List UInt8) (n:Nat) (h:n<t.length):jd (t.drop n)=if (dN t n).2≠0 then none else some (strip (dN t n).1,((dN t n).1.End - n).toNat):=by
 have hd:t.drop n=t[n]::t.drop (n+1):=List.drop_eq_getElem_cons h
 unfold dN
 rw [iA _ h]
 conv=>lhs; rw [hd]
 rw [nJ, ← hd]
 by_cases hD:dg t[n]=true
 · rw [if_pos hD,if_pos hD]
   simp only []
   by_cases hz:(j5 ((t.drop n).takeWhile dg)).2≠0
   · simp only [hz,ne_eq,not_false_eq_true,if_true]
   · simp only [hz,if_false,strip,ne_eq,not_true_eq_false]
     congr 2
     unfold cW
     omega
 · rw [if_neg hD,if_neg hD]
   by_cases hL:lt t[n]=true
   · rw [if_pos hL,if_pos hL]
     unfold cW
     by_cases pX:24<((t.drop n).takeWhile nm).length
     · have :n+24<n+((t.drop n).takeWhile nm).length:=by omega
       simp only [pX,this,if_true,ne_eq]
       rw [if_pos (by decide)]
     · have : ¬ n+24<n+((t.drop n).takeWhile nm).length:=by omega
       simp only [pX,this,if_false,ne_eq,not_true_eq_false,strip]
       congr 2
       omega
   · rw [if_neg hL,if_neg hL]
     by_cases hs:dj (t.drop n)=0
     · simp only [hs,if_true,ne_eq]
       rw [if_pos (by decide)]
     · simp only [hs,if_false,ne_eq,not_true_eq_false,strip]
       congr 2
       omega
theorem Iy {v:List UInt8} {tk:Tk} {m:Nat} (h:jd v=some (tk,m)):1≤m∧m≤v.length:=by
 cases v with
 | nil=>cases h
 | cons b u=>
  rw [nJ] at h
  by_cases hD:dg b=true
  · rw [if_pos hD] at h
    simp only [] at h
    split at h
    · cases h
    · cases h
      have :=rU dg (b::u)
      rw [List.takeWhile_cons_of_pos hD] at this ⊢
      exact ⟨by simp,this⟩
  · rw [if_neg hD] at h
    by_cases hL:lt b=true
    · rw [if_pos hL] at h
      split at h
      · cases h
      · cases h
        have :=rU nm (b::u)
        rw [List.takeWhile_cons_of_pos (by simp [nm,hL])] at this ⊢
        exact ⟨by simp,this⟩
    · rw [if_neg hL] at h
      split at h
      · cases h
      · rename_i hs
        cases h
        exact ⟨by omega,rN _⟩
theorem vc (u:List UInt8): ∃ p,u=p++dB u∧p.all je=true:=by
 induction u with
 | nil=>exact ⟨[],rfl,rfl⟩
 | cons b u ih=>
  unfold dB
  by_cases hb:je b=true
  · rw [List.dropWhile_cons_of_pos hb]
    obtain ⟨p,h1,h2⟩:=ih
    exact ⟨b::p,by rw [List.cons_append]; congr 1,by simp [hb,h2]⟩
  · rw [List.dropWhile_cons_of_neg hb]
    exact ⟨[],rfl,rfl⟩
theorem zu: ∀ (p u:List UInt8) (n:Nat),p.all je=true→cc false (p++u) n=cc false u (n+p.length)
 | [],u,n,_=>rfl
 | b::p,u,n,h=>by
  simp only [List.all_cons,Bool.and_eq_true] at h
  have hb:b=32∨b=9∨b=10∨b=13:=of_decide_eq_true h.1
  rw [List.cons_append]
  simp only [cc]
  rw [if_pos hb,zu p u (n+1) h.2,List.length_cons,Nat.add_assoc,Nat.add_comm 1]
theorem M7 {b:UInt8} {u:List UInt8} {n:Nat} (h1:je b=false) (h2:b≠35):cc false (b::u) n=n:=by
 have hb: ¬ (b=32∨b=9∨b=10∨b=13):=of_decide_eq_false h1
 simp only [cc]
 rw [if_neg hb,if_neg h2]
theorem IA {u:List UInt8} :jd (35::u)=none:=by
 rw [nJ,if_neg (by decide),if_neg (by decide),if_pos]
 cases u with
 | nil=>rfl
 | cons c u=>
  show (if [35,c] ∈ gp then 2 else if (35:UInt8) ∈ gT then 1 else 0)=0
  rw [if_neg,if_neg (by decide)]
  simp only [gp,List.mem_cons,List.cons.injEq,and_true,List.not_mem_nil,or_false]
  rintro (⟨h,_⟩ | ⟨h,_⟩ | ⟨h,_⟩ | ⟨h,_⟩ | ⟨h,_⟩ | ⟨h,_⟩ | ⟨h,_⟩) <;> revert h <;> decide
theorem MY {u:List UInt8} {b:UInt8} {v:List UInt8} (h:dB u=b::v):je b=false:=by
 induction u with
 | nil=>cases h
 | cons c u ih=>
  unfold dB at h
  by_cases hc:je c=true
  · rw [List.dropWhile_cons_of_pos hc] at h; exact ih h
  · rw [List.dropWhile_cons_of_neg hc] at h
    cases h
    simpa using hc
theorem K8 {t:List UInt8} {n:Nat} {u:List UInt8} {L:List an} (h:dV n u L):t.drop n=u→n≤t.length→ ∀ k l,t.length≤n+k→
 jL (k+1) t l (cc false (t.drop n) n)=(l++L++ [an.mk 4 t.length t.length [] 0],aR.mk 0 0):=by
 induction h with
 | @nil n u hs=>
  intro hu hn k l hk
  obtain ⟨p,h1,h2⟩:=vc u
  rw [hs,List.append_nil] at h1
  subst h1
  have hl:u.length=t.length - n:=by rw [← hu,List.length_drop]
  have :cc false (t.drop n) n=t.length:=by
   rw [hu]
   have :=zu u [] n h2
   rw [List.append_nil] at this
   rw [this]
   show n+u.length=_
   omega
  rw [this]
  simp only [jL]
  rw [if_neg (by omega),List.append_nil]
 | @cons n u v tk m L hs hv hh hp ih=>
  intro hu hn k l hk
  obtain ⟨p,h1,h2⟩:=vc u
  rw [hs] at h1
  have hl:u.length=t.length - n:=by rw [← hu,List.length_drop]
  have IX:u.length=p.length+v.length:=by rw [h1,List.length_append]
  obtain ⟨b,v',rfl⟩: ∃ b v',v=b::v':=by
   cases v with
   | nil=>exact absurd rfl hv
   | cons b v'=>exact ⟨b,v',rfl⟩
  have hb:=MY hs
  have hne:b≠35:=fun e=>by subst e; rw [IA] at hh; cases hh
  have hq:u.length - (b::v').length=p.length:=by omega
  simp only [hq] at ih ⊢
  have hpos:cc false (t.drop n) n=n+p.length:=by
   rw [hu,h1,zu p _ n h2,M7 hb hne]
  have hlt:n+p.length<t.length:=by simp only [List.length_cons] at IX; omega
  have B6:t.drop (n+p.length)=b::v':=by
   rw [← List.drop_drop,hu,h1]
   simp
  have nQ:=Iz t (n+p.length) hlt
  rw [B6,hh] at nQ
  have hz:(dN t (n+p.length)).2=0:=by
   by_cases hz:(dN t (n+p.length)).2=0
   · exact hz
   · rw [if_pos hz] at nQ; cases nQ
  rw [if_neg (by simp [hz])] at nQ
  obtain ⟨e,he,h3,h4,cz,ql,_⟩:=EE t (n+p.length) hlt hz
  simp only [Option.some.injEq,Prod.mk.injEq] at nQ
  obtain ⟨htk,hm⟩:=nQ
  rw [he] at hm
  have hme:e=n+p.length+m:=by omega
  have Jl:(dN t (n+p.length)).1=⟨tk.1,(n+p.length:Nat),(n+p.length+m:Nat),tk.2.1,tk.2.2⟩:=by
   rw [htk]
   unfold strip
   generalize dN t (n+p.length)=x at *
   obtain ⟨⟨a1,a2,a3,a4,a5⟩,a6⟩:=x
   dsimp only at *
   rw [cz,he,hme]
  obtain ⟨k,rfl⟩: ∃ j,k=j+1:=⟨k - 1,by omega⟩
  rw [hpos]
  conv=>lhs; unfold jL
  rw [if_pos hlt,if_neg (by simp [hz]),Jl]
  dsimp only
  rw [Int.toNat_natCast]
  have :=ih (by rw [← B6,List.drop_drop]) (by omega) k (l++ [⟨tk.1,(n+p.length:Nat),(n+p.length+m:Nat),tk.2.1,tk.2.2⟩]) (by omega)
  rw [this]
  simp [List.append_assoc]
theorem C_ {t:List UInt8} {L:List an} (h:dV 0 t L) (hl:t.length≤16384):iY t=(L++ [an.mk 4 t.length t.length [] 0],aR.mk 0 0):=by
 unfold iY
 rw [if_neg (by omega)]
 have :=K8 (t:=t) h rfl (Nat.zero_le _) t.length [] (by omega)
 rw [List.drop_zero,List.nil_append] at this
 exact this
def gU (a b:List UInt8):Bool:=match a.getLast?,b.head? with
 | some x,some y=> !(nm x&&nm y)&& !decide ([x,y] ∈ gp)
 | _,_=>true
theorem EC {p:UInt8→Bool} : ∀ (v b:List UInt8),(v.takeWhile p).length<v.length∨(∀ y,b.head?=some y→p y=false)→(v++b).takeWhile p=v.takeWhile p
 | [],b,h=>by
  rcases h with h | h
  · simp at h
  · cases b with
    | nil=>rfl
    | cons y b=>rw [List.nil_append,List.takeWhile_cons_of_neg (by simp [h y rfl])]; rfl
 | x::v,b,h=>by
  rw [List.cons_append]
  by_cases hx:p x=true
  · rw [List.takeWhile_cons_of_pos hx,List.takeWhile_cons_of_pos hx] at *
    rw [EC v b (h.imp (fun h=>by simpa using h) id)]
  · rw [List.takeWhile_cons_of_neg hx,List.takeWhile_cons_of_neg hx]
theorem NL {p:UInt8→Bool} {v:List UInt8} (h: ¬ (v.takeWhile p).length<v.length): ∀ x,v.getLast?=some x→p x=true:=by
 have :v.takeWhile p=v:=by
  have hle:=rU p v
  have hpre:v.takeWhile p <+: v:=List.takeWhile_prefix p
  exact hpre.eq_of_length (by omega)
 intro x hx
 have hm:x ∈ v:=List.mem_of_getLast? hx
 rw [← this] at hm
 exact EN p v x hm
theorem Ix {v b:List UInt8} {tk:Tk} {m:Nat} (h:jd v=some (tk,m)) (hs:m<v.length∨gU v b=true):jd (v++b)=some (tk,m):=by
 cases v with
 | nil=>cases h
 | cons c u=>
  have hno: ∀ (p:UInt8→Bool),(∀ x,p x=true→nm x=true)→p c=true→(m=((c::u).takeWhile p).length)→((c::u)++b).takeWhile p=(c::u).takeWhile p:=by
   intro p hp hc hm
   refine EC _ _ ?_
   by_cases hlt:((c::u).takeWhile p).length<(c::u).length
   · exact .inl hlt
   · refine .inr fun y hy=> ?_
     rcases hs with hs | hs
     · omega
     · obtain ⟨x,hx⟩: ∃ x,(c::u).getLast?=some x:=⟨_,List.getLast?_eq_some_getLast (by simp)⟩
       have hpx:=hp x (NL hlt x hx)
       unfold gU at hs
       rw [hx,hy] at hs
       dsimp only at hs
       rw [Bool.and_eq_true,hpx] at hs
       cases hq:p y with
       | false=>rfl
       | true=>rw [hp y hq] at hs; cases hs.1
  rw [List.cons_append]
  rw [nJ] at h ⊢
  by_cases hD:dg c=true
  · rw [if_pos hD] at h ⊢
    simp only [] at h ⊢
    have hm:m=((c::u).takeWhile dg).length:=by
     split at h
     · cases h
     · cases h; rfl
    have :=hno dg (fun x hx=>by simp [nm,hx]) hD hm
    rw [List.cons_append] at this
    rw [this]
    exact h
  · rw [if_neg hD] at h ⊢
    by_cases hL:lt c=true
    · rw [if_pos hL] at h ⊢
      have hm:m=((c::u).takeWhile nm).length:=by
       split at h
       · cases h
       · cases h; rfl
      have :=hno nm (fun x hx=>hx) (by simp [nm,hL]) hm
      rw [List.cons_append] at this
      rw [this]
      exact h
    · rw [if_neg hL] at h ⊢
      have hm:m=dj (c::u)∧dj (c::u)≠0:=by
       split at h
       · cases h
       · rename_i hz; cases h; exact ⟨rfl,hz⟩
      have hsame:dj (c::(u++b))=dj (c::u):=by
       cases u with
       | cons d u=>rfl
       | nil=>
        cases b with
        | nil=>rfl
        | cons y b=>
         show (if [c,y] ∈ gp then 2 else if c ∈ gT then 1 else 0)=if c ∈ gT then 1 else 0
         rw [if_neg]
         rcases hs with hs | hs
         · have :dj [c]≤1:=rN [c]
           have h1:m=dj [c]:=hm.1
           have h2:dj [c]≠0:=hm.2
           simp only [List.length_cons,List.length_nil] at hs
           omega
         · unfold gU at hs
           simp only [List.getLast?_singleton,List.head?_cons,Bool.and_eq_true,Bool.not_eq_true',decide_eq_false_iff_not] at hs
           exact hs.2
      have Jj:(c::(u++b)).take (dj (c::u))=(c::u).take (dj (c::u)):=by
       rw [← List.cons_append,List.take_append_of_le_length (rN _)]
      rw [hsame,Jj]
      exact h
theorem D2 {p v b:List UInt8} (hv:v≠ []):gU (p++v) b=gU v b:=by
 unfold gU
 rw [List.getLast?_append]
 obtain ⟨x,hx⟩: ∃ x,v.getLast?=some x:=⟨_,List.getLast?_eq_some_getLast hv⟩
 rw [hx]; rfl
theorem MX {u b:List UInt8} (h:dB u≠ []):dB (u++b)=dB u++b:=by
 unfold dB at *
 induction u with
 | nil=>exact absurd rfl h
 | cons c u ih=>
  rw [List.cons_append]
  by_cases hc:je c=true
  · rw [List.dropWhile_cons_of_pos hc] at h ⊢
    rw [List.dropWhile_cons_of_pos hc]
    exact ih h
  · rw [List.dropWhile_cons_of_neg hc,List.dropWhile_cons_of_neg hc]; rfl
theorem D7 {u b:List UInt8} (h:dB u= []):dB (u++b)=dB b:=by
 unfold dB at *
 induction u with
 | nil=>rfl
 | cons c u ih=>
  rw [List.cons_append]
  by_cases hc:je c=true
  · rw [List.dropWhile_cons_of_pos hc] at h ⊢
    exact ih h
  · rw [List.dropWhile_cons_of_neg hc] at h; cases h
theorem dV.shift {n n':Nat} {a p:List UInt8} {L:List an} (hp:dB p= []) (h:dV (n+p.length) a L):dV n (p++a) L:=by
 generalize hn:n+p.length=q at h
 cases h with
 | nil hs=>exact .nil (by rw [D7 hp]; exact hs)
 | @cons _ _ v tk m L hs hv hh hl=>
  obtain ⟨p',h1,_⟩:=vc a
  rw [hs] at h1
  have hlen:a.length=p'.length+v.length:=by rw [h1,List.length_append]
  have e:n+((p++a).length - v.length)=q+(a.length - v.length):=by rw [List.length_append]; omega
  have :=dV.cons (n:=n) (u:=p++a) (by rw [D7 hp]; exact hs) hv hh (by rw [e]; exact hl)
  rw [e] at this
  exact this
theorem dV.append {n:Nat} {a:List UInt8} {La:List an} (ha:dV n a La): ∀ {b:List UInt8} {Lb:List an},dV (n+a.length) b Lb→gU a b=true→dV n (a++b) (La++Lb):=by
 induction ha with
 | @nil n u hs=>intro b Lb hb _; exact dV.shift (n':=0) hs hb
 | @cons n u v tk m L hs hv hh hp ih=>
  intro b Lb hb hsep
  obtain ⟨p,h1,_⟩:=vc u
  rw [hs] at h1
  have hml:=Iy hh
  have hlen:u.length=p.length+v.length:=by rw [h1,List.length_append]
  have xD:gU v b=true:=by rw [h1,D2 hv] at hsep; exact hsep
  have IK:=Ix hh (b:=b) (.inr xD)
  have Ce:(u++b).length - (v++b).length=u.length - v.length:=by simp only [List.length_append]; omega
  have Jf:dV (n+(u.length - v.length)+m) (v.drop m++b) (L++Lb):=by
   refine ih ?_ ?_
   · rw [List.length_drop,show n+(u.length - v.length)+m+(v.length - m)=n+u.length from by omega]
     exact hb
   · by_cases hd:v.drop m= []
     · rw [hd]; rfl
     · have :v=v.take m++v.drop m:=(List.take_append_drop m v).symm
       rw [this,D2 hd] at xD
       exact xD
  have :=dV.cons (n:=n) (u:=u++b) (v:=v++b) (by rw [← hs]; exact MX (by rw [hs]; exact hv)) (by simp [hv]) IK (L:=L++Lb) (by
   rw [Ce,List.drop_append_of_le_length hml.2]
   exact Jf)
  rw [Ce] at this
  exact this
def Lx (s:List UInt8) (K:List Tk):Prop:= ∀ n, ∃ L,dV n s L∧L.map strip=K
theorem Lx.append {a b:List UInt8} {Ka Kb:List Tk} (ha:Lx a Ka) (hb:Lx b Kb) (hs:gU a b=true):Lx (a++b) (Ka++Kb):=fun n=>by
 obtain ⟨La,h1,h2⟩:=ha n
 obtain ⟨Lb,h3,h4⟩:=hb (n+a.length)
 exact ⟨La++Lb,h1.append h3 hs,by rw [List.map_append,h2,h4]⟩
theorem Lx.all {t:List UInt8} {K:List Tk} (h:Lx t K) (hl:t.length≤16384): ∃ l,iY t=(l,aR.mk 0 0)∧l.map strip=K++ [(4,[],0)]:=by
 obtain ⟨L,h1,h2⟩:=h 0
 exact ⟨_,C_ h1 hl,by rw [List.map_append,h2]; rfl⟩
def tR:Nat→List UInt8→Option (List Tk)
 | 0,_=>none
 | k+1,u=>match dB u with
  | []=>some []
  | b::v=>match jd (b::v) with
   | some (tk,m)=>match tR k ((b::v).drop m) with
    | some K=>some (tk::K)
    | none=>none
   | none=>none
theorem qz: ∀ (k:Nat) {u:List UInt8} {K:List Tk},tR k u=some K→Lx u K
 | 0,_,_,h=>by cases h
 | k+1,u,K,h=>fun n=>by
  simp only [tR] at h
  cases hs:dB u with
  | nil=>rw [hs] at h; cases h; exact ⟨[], .nil hs,rfl⟩
  | cons b v=>
   rw [hs] at h
   dsimp only at h
   cases hh:jd (b::v) with
   | none=>rw [hh] at h; cases h
   | some p=>
    obtain ⟨tk,m⟩:=p
    rw [hh] at h
    dsimp only at h
    cases hr:tR k ((b::v).drop m) with
    | none=>rw [hr] at h; cases h
    | some K'=>
     rw [hr] at h
     cases h
     obtain ⟨L,h1,h2⟩:=qz k hr (n+(u.length - (b::v).length)+m)
     exact ⟨_, .cons hs (by simp) hh h1,by rw [List.map_cons,h2]; rfl⟩
end Go.Sy.Ex
namespace Go.Sy.Ex
open Go.Sy
theorem pI (d:Nat) (h:d<10):(UInt8.ofNat (48+d)).toNat=48+d:=by
 have : ∀ d,d<10→(UInt8.ofNat (48+d)).toNat=48+d:=by decide+kernel
 exact this d h
theorem lR {u:Nat} (h:u<10):Lib.decDigits u= [UInt8.ofNat (48+u)]:=by rw [Lib.decDigits,dif_pos h]
theorem sU {u:Nat} (h: ¬ u<10):Lib.decDigits u=Lib.decDigits (u / 10)++ [UInt8.ofNat (48+u % 10)]:=by rw [Lib.decDigits,dif_neg h]
theorem A7: ∀ (n u:Nat),u≤n→ ∀ c ∈ Lib.decDigits u,48≤c.toNat∧c.toNat≤57:=by
 intro n
 induction n with
 | zero=>
  intro u h c hc
  have :u=0:=by omega
  subst this
  rw [lR (by decide),List.mem_singleton] at hc
  subst hc; decide
 | succ n ih=>
  intro u h c hc
  by_cases hs:u<10
  · rw [lR hs,List.mem_singleton] at hc
    subst hc; rw [pI u hs]; omega
  · rw [sU hs,List.mem_append,List.mem_singleton] at hc
    rcases hc with hc | rfl
    · exact ih (u / 10) (by omega) c hc
    · rw [pI _ (by omega)]; omega
theorem sV: ∀ u,Lib.decDigits u≠ []:=fun u=>by
 by_cases hs:u<10
 · rw [lR hs]; simp
 · rw [sU hs]; simp
theorem K0: ∀ (l:List UInt8) (acc a:Nat) (c:UInt8),Lib.parseUintM (2 ^ 64 - 1) acc l= .ok a→Lib.parseUintM (2 ^ 64 - 1) acc (l++ [c])=Lib.parseUintM (2 ^ 64 - 1) a [c]:=by
 intro l
 induction l with
 | nil=>intro acc a c h; cases h; rfl
 | cons b l ih=>
  intro acc a c h
  rw [List.cons_append]
  unfold Lib.parseUintM at h ⊢
  split at h
  · rename_i hb
    rw [if_pos hb]
    split at h
    · cases h
    · rename_i h1
      rw [if_neg h1]
      split at h
      · cases h
      · rename_i h2
        rw [if_neg h2]
        have :=ih _ _ c h
        rw [this]
        rfl
  · cases h
theorem C8: ∀ (n u:Nat),u≤n→u≤9223372036854775808→Lib.parseUintM (2 ^ 64 - 1) 0 (Lib.decDigits u)= .ok u:=by
 intro n
 induction n with
 | zero=>
  intro u h hu
  have :u=0:=by omega
  subst this
  rw [lR (by decide)]
  rfl
 | succ n ih=>
  intro u h hu
  by_cases hs:u<10
  · rw [lR hs]
    unfold Lib.parseUintM
    rw [pI u hs,if_pos (by omega),if_neg (by omega),if_neg (by omega)]
    unfold Lib.parseUintM
    congr 1; omega
  · rw [sU hs,K0 _ _ _ _ (ih (u / 10) (by omega) (by omega))]
    unfold Lib.parseUintM
    rw [pI _ (by omega),if_pos (by omega),if_neg (by omega),if_neg (by omega)]
    unfold Lib.parseUintM
    congr 1; omega
theorem K1 (v:Int) (h0: -9223372036854775808≤v) (h1:v≤9223372036854775807):Lib.parseIntB 64 (Lib.itoa v)= .ok v:=by
 unfold Lib.itoa
 by_cases hv:v<0
 · rw [if_pos hv]
   have hu:v.natAbs≤9223372036854775808:=by omega
   unfold Lib.parseIntB Lib.parseUintB
   simp only []
   have hif:(if (45:UInt8).toNat=43∨(45:UInt8).toNat=45 then Lib.decDigits v.natAbs else 45::Lib.decDigits v.natAbs)=Lib.decDigits v.natAbs:=if_pos (.inr rfl)
   rw [hif,if_neg (sV _),C8 _ _ (Nat.le_refl _) hu]
   have h45:(45:UInt8).toNat=45:=rfl
   simp only [h45,not_true_eq_false,false_and,if_false,true_and,if_true]
   rw [if_neg (by omega)]
   congr 1; omega
 · rw [if_neg hv]
   have hu:v.toNat≤9223372036854775807:=by omega
   have hne:=sV v.toNat
   obtain ⟨c,r,tu⟩: ∃ c r,Lib.decDigits v.toNat=c::r:=by
    cases hd:Lib.decDigits v.toNat with
    | nil=>exact absurd hd hne
    | cons c r=>exact ⟨c,r,rfl⟩
   have hc:=A7 _ _ (Nat.le_refl v.toNat) c (by rw [tu]; simp)
   have hp:=C8 _ _ (Nat.le_refl v.toNat) (by omega)
   rw [tu] at hp ⊢
   unfold Lib.parseIntB Lib.parseUintB
   simp only []
   rw [if_neg (show ¬ (c.toNat=43∨c.toNat=45) by omega),if_neg (by simp),hp]
   simp only [show ¬ c.toNat=45 by omega,not_false_eq_true,true_and,false_and,if_false]
   rw [if_neg (by omega)]
   congr 1; omega
theorem A8: ∀ (n u:Nat),u≤n→1≤u→(Lib.decDigits u).getD 0 0≠48
 | 0,u,h,h1=>by omega
 | n+1,u,h,h1=>by
  by_cases h10:u<10
  · rw [lR h10]
    show UInt8.ofNat (48+u)≠48
    intro e
    have :=pI u h10
    rw [e] at this
    have h48:(48:UInt8).toNat=48:=rfl
    omega
  · rw [sU h10]
    have :=A8 n (u / 10) (by omega) (by omega)
    have hne:=sV (u / 10)
    cases hd:Lib.decDigits (u / 10) with
    | nil=>exact absurd hd hne
    | cons c l=>rw [hd] at this; exact this
theorem xW {n:Int} (h:0≤n):Lib.itoa n=Lib.decDigits n.toNat:=by unfold Lib.itoa; rw [if_neg (by omega)]
theorem tK {n:Int} (h:0≤n): ∀ c ∈ Lib.itoa n,dg c=true:=fun c hc=>by
 rw [xW h] at hc
 exact (sX c).2 (A7 n.toNat n.toNat (Nat.le_refl _) c hc)
theorem xV {n:Int} (h:0≤n):Lib.itoa n≠ []:=by rw [xW h]; exact sV _
theorem JG {n:Int} (h:0≤n) (h1:n≤9223372036854775807):j5 (Lib.itoa n)=(n,0):=by
 rw [← C0 _ (xV h) (tK h)]
 unfold numOf
 rw [if_neg,K1 n (by omega) h1]
 rintro ⟨h2,h3⟩
 rw [xW h] at h2 h3
 by_cases h0:n.toNat<10
 · rw [lR h0] at h2; simp at h2
 · exact A8 n.toNat n.toNat (Nat.le_refl _) (by omega) h3
theorem EO (p:UInt8→Bool) (l:List UInt8) (h: ∀ c ∈ l,p c=true):l.takeWhile p=l:=by
 induction l with
 | nil=>rfl
 | cons a l ih=>rw [List.takeWhile_cons_of_pos (h a (by simp)),ih fun c hc=>h c (by simp [hc])]
theorem KD {b:UInt8} (h:nm b=true):je b=false:=by
 have :=(KJ (b:=b) (by simpa [nm] using h)).1
 exact decide_eq_false this
theorem D8 {s:List UInt8} (h: ∀ c ∈ s,nm c=true):dB s=s:=by
 cases s with
 | nil=>rfl
 | cons a l=>unfold dB; rw [List.dropWhile_cons_of_neg (by simp [KD (h a (by simp))])]
theorem Lx.one {s:List UInt8} {tk:Tk} (h0:s≠ []) (hs:dB s=s) (hh:jd s=some (tk,s.length)):Lx s [tk]:=fun n=>by
 have :=dV.cons (n:=n) (L:= []) hs h0 hh (by rw [List.drop_length]; exact .nil rfl)
 exact ⟨_,this,rfl⟩
theorem Lx.num {n:Int} (h:0≤n) (h1:n≤9223372036854775807):Lx (Lib.itoa n) [(2,Lib.itoa n,n)]:=by
 refine Lx.one (xV h) (D8 fun c hc=>by simp [nm,tK h c hc]) ?_
 have qk:=EO dg _ (tK h)
 have hn:=JG h h1
 cases hi:Lib.itoa n with
 | nil=>exact absurd hi (xV h)
 | cons a l=>
  rw [hi] at qk hn
  rw [nJ,if_pos (tK h a (by rw [hi]; simp)),qk,hn]
  rfl
theorem KB {s:List UInt8} (h:iG s=true):s≠ []∧s.length≤24∧mB s=false∧lt (s.getD 0 0)=true∧ ∀ c ∈ s,nm c=true:=by
 unfold iG at h
 simp only [Bool.and_eq_true,decide_eq_true_eq,Bool.not_eq_true',List.all_eq_true] at h
 obtain ⟨⟨⟨⟨h1,h2⟩,h3⟩,h4⟩,h5⟩:=h
 exact ⟨h1,h2,h3,h4,h5⟩
theorem Lx.word {s:List UInt8} (h0:s≠ []) (h1:s.length≤24) (h2:lt (s.getD 0 0)=true) (h3: ∀ c ∈ s,nm c=true):Lx s [(1,s,0)]:=by
 refine Lx.one h0 (D8 h3) ?_
 have qk:=EO nm _ h3
 cases hs:s with
 | nil=>exact absurd hs h0
 | cons a l=>
  rw [hs] at qk h2 h1
  have h2:lt a=true:=h2
  rw [nJ,if_neg (by rw [G2 _ h2]; simp),if_pos h2,qk,if_neg (by omega)]
theorem Lx.name {s:List UInt8} (h:iG s=true):Lx s [(1,s,0)]:=by
 obtain ⟨h1,h2,_,h4,h5⟩:=KB h
 exact Lx.word h1 h2 h4 h5
end Go.Sy.Ex
namespace Go.Sy.Ex
open Go.Sy
inductive T where
 | num (n:Int) | var (s:List UInt8) | arg | tJ (s:List UInt8) | un (k:Int) (t:T) | bin (k:Int) (a b:T)
def T.kind:T→Int
 | .num _=>1 | .var _=>2 | .arg=>3 | .tJ _=>4 | .un k _=>k | .bin k _ _=>k
def lvl (k:Int):Int:=if k=19 then 1 else if k=18 then 2 else if 12≤k∧k≤17 then 3 else if k=10∨k=11 then 4 else if 7≤k∧k≤9 then 5 else if k=5∨k=6 then 6 else 7
def x_ (k:Int):Int:=if lvl k=3 then 4 else lvl k
def y8 (k:Int):Int:=if lvl k=3 then 4 else lvl k+1
abbrev zq:List (List UInt8×Int×Int):= [(uJ,19,1),(uG,18,2),(uU,12,3),(uV,13,3),(uR,14,3),(uS,15,3),(uP,16,3),(uI,17,3),(rJ,10,4),(mK,11,4),(u7,7,5),(u5,8,5),(uX,9,5)]
def NM (k:Int):List UInt8:=match zq.find? (fun p=>p.2.1 == k) with
 | some p=>p.1
 | none=> []
def zp (s:List UInt8):Int×Int:=match zq.find? (fun p=>p.1 == s) with
 | some p=>p.2
 | none=>(0,0)
theorem sign_eq (s:List UInt8):pQ s=some (zp s):=by
 unfold pQ zp zq
 by_cases w4:s=uJ
 · subst w4; decide+kernel
 rw [if_neg w4,List.find?_cons,show (uJ == s)=false from beq_false_of_ne (Ne.symm w4)]
 dsimp only
 by_cases wY:s=uG
 · subst wY; decide+kernel
 rw [if_neg wY,List.find?_cons,show (uG == s)=false from beq_false_of_ne (Ne.symm wY)]
 dsimp only
 by_cases w8:s=uU
 · subst w8; decide+kernel
 rw [if_neg w8,List.find?_cons,show (uU == s)=false from beq_false_of_ne (Ne.symm w8)]
 dsimp only
 by_cases w9:s=uV
 · subst w9; decide+kernel
 rw [if_neg w9,List.find?_cons,show (uV == s)=false from beq_false_of_ne (Ne.symm w9)]
 dsimp only
 by_cases w6:s=uR
 · subst w6; decide+kernel
 rw [if_neg w6,List.find?_cons,show (uR == s)=false from beq_false_of_ne (Ne.symm w6)]
 dsimp only
 by_cases w7:s=uS
 · subst w7; decide+kernel
 rw [if_neg w7,List.find?_cons,show (uS == s)=false from beq_false_of_ne (Ne.symm w7)]
 dsimp only
 by_cases w5:s=uP
 · subst w5; decide+kernel
 rw [if_neg w5,List.find?_cons,show (uP == s)=false from beq_false_of_ne (Ne.symm w5)]
 dsimp only
 by_cases wZ:s=uI
 · subst wZ; decide+kernel
 rw [if_neg wZ,List.find?_cons,show (uI == s)=false from beq_false_of_ne (Ne.symm wZ)]
 dsimp only
 by_cases xd:s=rJ
 · subst xd; decide+kernel
 rw [if_neg xd,List.find?_cons,show (rJ == s)=false from beq_false_of_ne (Ne.symm xd)]
 dsimp only
 by_cases w_:s=mK
 · subst w_; decide+kernel
 rw [if_neg w_,List.find?_cons,show (mK == s)=false from beq_false_of_ne (Ne.symm w_)]
 dsimp only
 by_cases xg:s=u7
 · subst xg; decide+kernel
 rw [if_neg xg,List.find?_cons,show (u7 == s)=false from beq_false_of_ne (Ne.symm xg)]
 dsimp only
 by_cases xe:s=u5
 · subst xe; decide+kernel
 rw [if_neg xe,List.find?_cons,show (u5 == s)=false from beq_false_of_ne (Ne.symm xe)]
 dsimp only
 by_cases xb:s=uX
 · subst xb; decide+kernel
 rw [if_neg xb,List.find?_cons,show (uX == s)=false from beq_false_of_ne (Ne.symm xb)]
 dsimp only
 rfl
def Is:T→aS→Prop
 | .num n,e=>e.Kind=1∧e.N=n∧e.Name= []∧e.Kids= []
 | .var s,e=>e.Kind=2∧e.N=0∧e.Name=s∧e.Kids= []
 | .arg,e=>e.Kind=3∧e.N=0∧e.Name= []∧e.Kids= []
 | .tJ s,e=>e.Kind=4∧e.N=0∧e.Name=s∧e.Kids= []
 | .un k t,e=>e.Kind=k∧e.N=0∧e.Name= []∧ ∃ x,e.Kids= [x]∧Is t x
 | .bin k a b,e=>e.Kind=k∧e.N=0∧e.Name= []∧ ∃ x y,e.Kids= [x,y]∧Is a x∧Is b y
theorem eta (e:aS):aS.mk e.Kind e.N e.Name e.Kids e.At=e:=by cases e; rfl
theorem Is.kind {t:T} {e:aS} (h:Is t e):e.Kind=t.kind:=by cases t <;> exact h.1
def T.ok:T→Prop
 | .num n=>0≤n∧n≤9223372036854775807
 | .var s=>iG s=true
 | .arg=>True
 | .tJ s=>iG s=true
 | .un k t=>(k=5∨k=6)∧t.ok
 | .bin k a b=>(7≤k∧k≤19)∧a.ok∧b.ok
def T.sz:T→Nat
 | .un _ t=>t.sz+1
 | .bin _ a b=>a.sz+b.sz+1
 | _=>1
end Go.Sy.Ex
namespace Go.Sy.Ex
open Go.Sy
end Go.Sy.Ex
namespace Go.Sy.Ex
open Go.Sy
def st (l:List an) (i o:Nat):aP:=⟨⟨l,(i:Int),⟨0,0⟩⟩,(o:Int)⟩
def aq (l:List an) (i:Nat):an:=l.getD i an.z
def bq (t:an) (s:List UInt8):Bool:=decide ((t.Kind=3∨t.Kind=1)∧t.Text=s)
section
variable {l:List an} {i o:Nat}
theorem KP:kZ (st l i o)=some (true,st l i o):=rfl
theorem Kh (hi:i<l.length):fE (st l i o)=some (aq l i,st l i o):=by
 unfold fE
 rw [KP,au]
 have h1: ¬ ((i:Nat):Int)<0:=by omega
 have h2: ¬ (l.length:Int)≤((i:Nat):Int):=by omega
 have h3:0≤((i:Nat):Int):=by omega
 have h4:((i:Nat):Int)<(l.length:Int):=by omega
 simp only [Bool.not_true,cond_false,st,Int.toNat_natCast,h1,h2,h3,h4,if_true,if_false]; rfl
theorem nU (hi:i<l.length) (hl:l.length≤100000):aI (((i:Nat):Int)+1)=((i+1:Nat):Int):=by rw [ga (by omega) (by omega)]; omega
end
def Seq (l:List an) (i:Nat):List Tk→Prop
 | []=>True
 | k::K=>i<l.length∧strip (aq l i)=k∧Seq l (i+1) K
theorem Seq.append {l:List an} : ∀ {i:Nat} {K K':List Tk},Seq l i (K++K')↔Seq l i K∧Seq l (i+K.length) K'
 | i,[],K'=>by simp [Seq]
 | i,k::K,K'=>by
  rw [List.cons_append]
  simp only [Seq,List.length_cons]
  rw [Seq.append,show i+1+K.length=i+(K.length+1) from by omega]
  constructor
  · rintro ⟨a,b,c,d⟩; exact ⟨⟨a,b,c⟩,d⟩
  · rintro ⟨⟨a,b,c⟩,d⟩; exact ⟨a,b,c,d⟩
def nY (c:Prop) [Decidable c] (K:List Tk):List Tk:=if c then (3,mJ,0)::K++ [(3,rL,0)] else K
def toks:T→Int→List Tk
 | .num n,a=>nY (7<a) [(2,Lib.itoa n,n)]
 | .var s,a=>nY (7<a) [(1,s,0)]
 | .arg,a=>nY (7<a) [(3,DU,0)]
 | .tJ s,a=>nY (7<a) [(1,rG,0),(3,mJ,0),(1,s,0),(3,rL,0)]
 | .un k t,a=>nY (6<a) ((3,if k=5 then mK else DT,0)::toks t 6)
 | .bin k x y,a=>nY (lvl k<a) (toks x (x_ k)++(3,NM k,0)::toks y (y8 k))
def yx (c:Prop) [Decidable c] (n:Nat):Nat:=if c then n+1 else n
def jl:T→Int→Nat
 | .un k t,a=>yx (6<a) (jl t 6+1)
 | .bin k x y,a=>yx (lvl k<a) (max (jl x (x_ k)) (jl y (y8 k)))
 | _,a=>yx (7<a) 0
def vf (t:an):Int:=if t.Kind=3 then (zp t.Text).2 else 0
def P (t:T) (K:List Tk) (n:Nat) (m:Int):Prop:= ∀ (l:List an) (i o:Nat),l.length≤100000→Seq l i K→i+K.length<l.length→o+n≤12→vf (aq l (i+K.length))<m→
 ∃ e Z,Is t e∧ ∀ k,Z≤k→fm k (st l i o) m=some (e,st l (i+K.length) o)
def Sg (t:T) (K:List Tk) (n:Nat):Prop:= ∀ (l:List an) (i o:Nat),l.length≤100000→Seq l i K→i+K.length<l.length→o+n≤12→
 ∃ e Z Z2,Is t e∧ ∀ k,Z≤k→ ∀ k2,Z2≤k2→pO (fm k) k2 (st l i o)=some (e,st l (i+K.length) o)
noncomputable def loop (k k':Nat) (l:List an) (i o:Nat) (m:Int) (e:aS):Option (aS×aP):=
 pM (fm k) k' l ((i:Nat):Int) 0 0 ((o:Nat):Int) m 0 0 [] [] 0 e.Kind e.N e.Name e.Kids e.At
def Qp (t:T) (K:List Tk) (n:Nat) (m:Int):Prop:= ∀ (l:List an) (i o:Nat),l.length≤100000→Seq l i K→i+K.length<l.length→o+n≤12→vf (aq l (i+K.length))≤m→
 ∃ e Z j,Is t e∧j<Z∧ ∀ k,Z≤k→fm (k+1) (st l i o) m=loop k (k - j) l (i+K.length) o m e
theorem K5 (k:Nat) (l:List an) (i o:Nat) {m:Int} (hm:1≤m) (Pc:m≤5) {e:aS} {i':Nat} (h:fm k (st l i o) (m+1)=some (e,st l i' o)):
 fm (k+1) (st l i o) m=loop k k l i' o m e:=by
 show nB (fm k) k (st l i o) m=_
 unfold nB
 rw [if_neg (by omega),ga (by omega) (by omega),h,au]
 rfl
theorem Ki (k k':Nat) (l:List an) (i o:Nat) {m:Int} (hm:1≤m) (hi:i<l.length) (hs:vf (aq l i)≠m) (e:aS) (hk:1≤k'):loop k k' l i o m e=some (e,st l i o):=by
 obtain ⟨k',rfl⟩: ∃ j,k'=j+1:=⟨k' - 1,by omega⟩
 unfold loop
 simp only [pM]
 rw [show (aP.mk (aV.mk l ((i:Nat):Int) (aR.mk 0 0)) ((o:Nat):Int))=st l i o from rfl,Kh hi,au,sign_eq,au,eta]
 dsimp only
 unfold vf at hs
 by_cases h3:(aq l i).Kind=3
 · rw [if_pos h3] at hs
   rw [if_neg (by simpa using h3),if_pos hs]
 · rw [if_pos h3]
end Go.Sy.Ex
namespace Go.Sy.Ex
open Go.Sy
theorem K4 (k:Nat) (s:aP):fm (k+1) s 6=(pN (fm k) s).bind fun r1=>some (aS.mk r1.1.Kind r1.1.N r1.1.Name r1.1.Kids r1.1.At,r1.2):=by
 show nB (fm k) k s 6=_
 unfold nB
 rw [if_pos rfl]
theorem P6 {t:T} {K:List Tk} {n:Nat} (h:Sg t K n):P t K n 6:=fun l i o hl hs hi ho _=>by
 obtain ⟨e,Z,Z2,he,hr⟩:=h l i o hl hs hi ho
 refine ⟨e,Z+1,he,fun k hk=> ?_⟩
 obtain ⟨k,rfl⟩: ∃ j,k=j+1:=⟨k - 1,by omega⟩
 rw [K4,show pN (fm k) (st l i o)=some (e,st l (i+K.length) o) from e9 Z2 fun j hj=>hr k (by omega) j hj,au,eta]
theorem Fu {t:T} {K:List Tk} {n:Nat} {m:Int} (h1:1≤m) (h:Qp t K n m):P t K n m:=fun l i o hl hs hi ho hv=>by
 obtain ⟨e,Z,j,he,hj,hr⟩:=h l i o hl hs hi ho (by omega)
 refine ⟨e,Z+1,he,fun k hk=> ?_⟩
 obtain ⟨k,rfl⟩: ∃ j,k=j+1:=⟨k - 1,by omega⟩
 rw [hr k (by omega)]
 exact Ki k _ l _ o h1 hi (by omega) e (by omega)
theorem Ft {t:T} {K:List Tk} {n:Nat} {m:Int} (h1:1≤m) (h5:m≤5) (h:P t K n (m+1)):Qp t K n m:=fun l i o hl hs hi ho hv=>by
 obtain ⟨e,Z,he,hr⟩:=h l i o hl hs hi ho (by omega)
 exact ⟨e,Z+1,0,he,by omega,fun k hk=>by rw [K5 k l i o h1 h5 (hr k (by omega)),Nat.sub_zero]⟩
theorem Fq {t:T} {K:List Tk} {n:Nat} {m:Int} (h1:1≤m) (h5:m≤5) (h:P t K n (m+1)):P t K n m:=Fu h1 (Ft h1 h5 h)
def sr (t:T):Prop:=Sg t (toks t 6) (jl t 6)∧(∀ m:Int,1≤m→m≤6→P t (toks t m) (jl t m) m)∧ ∀ m:Int,1≤m→m≤5→m≠3→Qp t (toks t m) (jl t m) m
theorem down {t:T} {K:List Tk} {n:Nat} (h6:P t K n 6): ∀ (j:Nat) (m:Int),m=6 - (j:Int)→1≤m→P t K n m
 | 0, m, hm, _ => by have : m = 6 := by omega
                     subst this; exact h6
 | j+1,m,hm,hl=>Fq (by omega) (by omega) (down h6 j (m+1) (by omega) (by omega))
theorem Sg.at {t:T} {K:List Tk} {n:Nat} (h:Sg t K n) (m:Int) (h1:1≤m) (h6:m≤6):P t K n m:=down (P6 h) (6 - m).toNat m (by omega) h1
end Go.Sy.Ex
namespace Go.Sy.Ex
open Go.Sy
def h2 (y:UInt8):Bool:= !decide (y=61∨y=62∨y=38∨y=124)
def h1 (x:UInt8):Bool:= !decide (x=45∨x=61∨x=33∨x=60∨x=62∨x=38∨x=124)
theorem KZ (x y:UInt8) (h:h1 x=true): [x,y] ∉ gp:=by
 unfold h1 at h
 simp only [Bool.not_eq_true',decide_eq_false_iff_not,not_or] at h
 simp [gp,h]
theorem MT {a b:List UInt8} (h: ∀ x,a.getLast?=some x→nm x=false∧h1 x=true):gU a b=true:=by
 unfold gU
 split
 · rename_i x y hx hy
   obtain ⟨e1,e2⟩:=h x hx
   rw [e1,Bool.false_and,decide_eq_false (KZ x y e2)]; rfl
 · rfl
end Go.Sy.Ex
namespace Go.Sy.Ex
open Go.Sy
end Go.Sy.Ex
namespace Go.Sy.Ex
open Go.Sy
def Fw:Nat→aS→Prop
 | 0,_=>False
 | n+1,e=>(e.Kids.length≤n+2∧e.Kids.length≤10000000000000)∧e.Name.length≤199999999999999∧(-9223372036854775808≤e.N∧e.N≤9223372036854775807)∧ ∀ x ∈ e.Kids,Fw n x
def Tr (e:aS):Prop:= ∃ t,Is t e∧t.ok
def inr:T→Nat
 | .un k t=>jl t 6
 | .bin k x y=>max (jl x (x_ k)) (jl y (y8 k))
 | _=>0
end Go.Sy.Ex
namespace Go.Sy.Ex
open Go.Sy
theorem Fw.up: ∀ {n m:Nat} {e:aS},Fw n e→n≤m→Fw m e
 | 0,_,_,h,_=>h.elim
 | n+1,0,_,_,h=>by omega
 | n+1,m+1,e,⟨h1,h2,h3,h4⟩,h=>⟨by omega,h2,h3,fun x hx=>Fw.up (h4 x hx) (by omega)⟩
end Go.Sy.Ex
namespace Go.Sy.Ex
open Go.Sy
theorem nx {n:Nat} (h:n<100000000000000):aI ((n:Int)+1)=((n+1:Nat):Int):=by rw [ga (by omega) (by omega)]; omega
end Go.Sy.Ex
namespace Go.Sy.Ex
open Go.Sy
end Go.Sy.Ex
namespace Go.Sy.Ex
open Go.Sy
end Go.Sy.Ex
namespace Go.Sy.Ex
open Go.Sy
end Go.Sy.Ex
namespace Go.Sy.Ex
open Go.Sy
end Go.Sy.Ex
namespace Go.Sy.Ex
open Go.Sy
section
variable {l:List an} {i o:Nat}
end
section
variable {s:aP} (h:s.Row.aj.Code≠0)
include h
end
def Fe:Nat→aS→Prop
 | 0,_=>False
 | n+1,e=>e.Kids.length≤2∧ ∀ x ∈ e.Kids,Fe n x
def Fd (e:aS):Prop:= ∃ n,Fe n e
theorem Fe.up: ∀ {n m:Nat} {e:aS},Fe n e→n≤m→Fe m e
 | 0,_,_,h,_=>h.elim
 | n+1,0,_,_,h=>by omega
 | n+1,m+1,e,⟨h1,h4⟩,h=>⟨h1,fun x hx=>Fe.up (h4 x hx) (by omega)⟩
theorem Fd.leaf {e:aS} (h:e.Kids= []):Fd e:=⟨1,by rw [h]; decide,by rw [h]; intro x hx; cases hx⟩
theorem Fd.one {e x:aS} (h:e.Kids= [x]) (hx:Fd x):Fd e:=by
 obtain ⟨n,hn⟩:=hx
 exact ⟨n+1,by rw [h]; simp,by rw [h]; intro y hy; rw [List.mem_singleton] at hy; subst hy; exact hn⟩
structure Ok (l:List an):Prop where
 len:l.length≤100000
 word: ∀ i,(aq l i).Kind=1→(aq l i).Text≠mJ∧(aq l i).Text≠zj
 more: ∀ i,i<l.length→(aq l i).Kind≠4→i+1<l.length
section
variable {l:List an} (H:Ok l)
include H
omit H in
end
end Go.Sy.Ex
namespace Go.Sy.Ex
open Go.Sy
end Go.Sy.Ex
namespace Go.Sy.Ex
open Go.Sy
section
variable {l:List an} {i o:Nat}
end
structure H where
 kind:Int
 name:List UInt8
 ev:List UInt8
 x:Option T
 n:Int
inductive B where
 | nil | cons (h:H) (th el rest:B)
def OX (x:Option T):Prop:=match x with
 | none=>True
 | some t=>t.ok∧jl t 1≤12
def H.ok (h:H) (th el:B):Prop:=OX h.x∧
 ((h.kind=1∧iG h.name=true∧h.ev= []∧h.x≠none∧h.n=0∧th= .nil∧el= .nil)∨
  (h.kind=2∧h.name= []∧iG h.ev=true∧h.n=0∧th= .nil∧el= .nil)∨
  (h.kind=3∧iG h.name=true∧iG h.ev=true∧h.n=0∧th= .nil∧el= .nil)∨
  (h.kind=4∧iG h.name=true∧h.ev= []∧h.x≠none∧h.n=0∧th= .nil∧el= .nil)∨
  (h.kind=5∧iG h.name=true∧h.ev= []∧h.x=none∧h.n=0∧th= .nil∧el= .nil)∨
  (h.kind=6∧h.name= []∧h.ev= []∧h.x≠none∧h.n=0)∨
  (h.kind=7∧h.name= []∧h.ev= []∧h.x=none∧0≤h.n∧h.n≤9223372036854775807∧el= .nil))
def B.ok:B→Prop
 | .nil=>True
 | .cons h th el rest=>h.ok th el∧th.ok∧el.ok∧rest.ok
def B.isNil:B→Bool
 | .nil=>true
 | _=>false
end Go.Sy.Ex
namespace Go.Sy.Ex
open Go.Sy
end Go.Sy.Ex
namespace Go.Sy.Ex
open Go.Sy
end Go.Sy.Ex
namespace Go.Sy.Ex
open Go.Sy
def B.sz:B→Nat
 | .nil=>1
 | .cons _ th el rest=>th.sz+el.sz+rest.sz+1
end Go.Sy.Ex
namespace Go.Sy.Ex
open Go.Sy
end Go.Sy.Ex
namespace Go.Sy.Ex
open Go.Sy
abbrev b1:B:= .cons ⟨2,[],[101],some (.num 1),0⟩ .nil .nil (.cons ⟨7,[],[],none,2⟩ .nil .nil .nil)
def bd (t:an):aR:=if t.Kind=4 then ⟨12,t.At⟩ else ⟨11,t.At⟩
section
variable {s:aM} (h:s.Row.aj.Code≠0)
include h
end
end Go.Sy.Ex
namespace Go.Sy.Ex
open Go.Sy
def mZ (X:List aS):Prop:=X.length≤1∧ ∀ e ∈ X,Fd e
theorem mZ.nil:mZ []:=⟨Nat.zero_le _,fun e h=>by cases h⟩
theorem mZ.one {e:aS} (h:Fd e):mZ [e]:=⟨Nat.le_refl _,fun x hx=>by rw [List.mem_singleton] at hx; subst hx; exact h⟩
end Go.Sy.Ex
namespace Go.Sy.Ex
open Go.Sy
end Go.Sy.Ex
namespace Go.Sy.Ex
open Go.Sy
def Fl:Nat→List aQ→Prop
 | 0,_=>False
 | n+1,l=>l.length≤100000∧ ∀ a ∈ l,mZ a.X∧Fl n a.oW∧Fl n a.lH
def FL (l:List aQ):Prop:= ∃ n,Fl n l
theorem Fl.up: ∀ {n m:Nat} {l:List aQ},Fl n l→n≤m→Fl m l
 | 0,_,_,h,_=>h.elim
 | n+1,0,_,_,h=>by omega
 | n+1,m+1,l,⟨h1,h2⟩,h=>⟨h1,fun a ha=>⟨(h2 a ha).1,Fl.up (h2 a ha).2.1 (by omega),Fl.up (h2 a ha).2.2 (by omega)⟩⟩
theorem FL.nil:FL []:=⟨1,Nat.zero_le _,fun a ha=>by cases ha⟩
def AF (a:aQ):Prop:=mZ a.X∧FL a.oW∧FL a.lH
theorem FL.push {l:List aQ} {a:aQ} (h:FL l) (ha:AF a) (hl:l.length<100000):FL (l++ [a]):=by
 obtain ⟨n,hn⟩:=h
 obtain ⟨hx,⟨m,hm⟩,⟨p,hp⟩⟩:=ha
 cases n with
 | zero=>exact hn.elim
 | succ n=>
  refine ⟨max n (max m p)+1,by rw [List.length_append,List.length_singleton]; omega,fun b hb=> ?_⟩
  rw [List.mem_append,List.mem_singleton] at hb
  rcases hb with hb | rfl
  · exact ⟨(hn.2 b hb).1,Fl.up (hn.2 b hb).2.1 (by omega),Fl.up (hn.2 b hb).2.2 (by omega)⟩
  · exact ⟨hx,Fl.up hm (by omega),Fl.up hp (by omega)⟩
end Go.Sy.Ex
namespace Go.Sy.Ex
open Go.Sy
end Go.Sy.Ex
namespace Go.Sy.Ex
open Go.Sy
def ct (l:List an) (i:Nat):aA:=⟨⟨l,(i:Int),⟨0,0⟩⟩⟩
def iH (t:an):Bool:=decide (t.Kind=1)&& !mB t.Text
section
variable {l:List an} {i:Nat}
theorem A0:aA.mk (aV.mk (ct l i).Row.L (ct l i).Row.At (aR.mk (ct l i).Row.aj.Code (ct l i).Row.aj.At))=ct l i:=rfl
theorem AY:jq (ct l i)=some (true,ct l i):=rfl
theorem sQ (hi:i<l.length):ep (ct l i)=some (aq l i,ct l i):=by
 unfold ep
 rw [AY,au]
 have h1: ¬ ((i:Nat):Int)<0:=by omega
 have h2: ¬ (l.length:Int)≤((i:Nat):Int):=by omega
 have h3:0≤((i:Nat):Int):=by omega
 have h4:((i:Nat):Int)<(l.length:Int):=by omega
 simp only [Bool.not_true,cond_false,ct,Int.toNat_natCast,h1,h2,h3,h4,if_true,if_false]; rfl
theorem AT (hi:i<l.length) (s:List UInt8):fD (ct l i) s=some (bq (aq l i) s,ct l i):=by
 unfold fD bq
 rw [sQ hi,au]
 dsimp only
 by_cases h3:(aq l i).Kind=3
 · rw [if_pos h3]; congr 2; rw [decide_eq_decide]; simp [h3]
 · rw [if_neg h3]
   by_cases h1:(aq l i).Kind=1
   · rw [if_pos h1]; congr 2; rw [decide_eq_decide]; simp [h1]
   · rw [if_neg h1]
     congr 2
     symm
     rw [decide_eq_false_iff_not]
     rintro ⟨h | h,_⟩ <;> contradiction
theorem A2 (hi:i<l.length) (hl:l.length≤100000) (s:List UInt8):eB (ct l i) s=some (bq (aq l i) s,bif bq (aq l i) s then ct l (i+1) else ct l i):=by
 unfold eB
 rw [AT hi,au]
 dsimp only
 cases h:bq (aq l i) s with
 | true=>
  rw [cond_true,cond_true]
  show some (true,(⟨⟨l,aI (((i:Nat):Int)+1),⟨0,0⟩⟩⟩:aA))=_
  rw [nU hi hl]; rfl
 | false=>rfl
theorem pG (hi:i<l.length) (hl:l.length≤100000) {s:List UInt8} (h:bq (aq l i) s=true):dI (ct l i) s=some (ct l (i+1)):=by
 unfold dI
 rw [A2 hi hl,au,h]; rfl
theorem GO (hi:i<l.length):qR (ct l i)=some (iH (aq l i),ct l i):=by
 unfold qR iH
 rw [sQ hi,au]
 dsimp only
 by_cases h1:(aq l i).Kind=1
 · rw [if_pos h1,CU,au,decide_eq_true h1]; rfl
 · rw [if_neg h1,decide_eq_false h1]; rfl
theorem GS (hi:i<l.length) (hl:l.length≤100000) (h:iH (aq l i)=true):gM (ct l i)=some ((aq l i).Text,ct l (i+1)):=by
 unfold gM
 rw [GO hi,au,h]
 show (if 0≤aI (aI (((i:Nat):Int)+1) - 1) then if aI (aI (((i:Nat):Int)+1) - 1)<(l.length:Int) then some ((l.getD (aI (aI (((i:Nat):Int)+1) - 1)).toNat an.z).Text,(⟨⟨l,aI (((i:Nat):Int)+1),⟨0,0⟩⟩⟩:aA)) else none else none)=_
 rw [nU hi hl,show aI (((i+1:Nat):Int) - 1)=((i:Nat):Int) from by rw [ga (by omega) (by omega)]; omega,if_pos (by omega),if_pos (by omega),Int.toNat_natCast]
 rfl
theorem AX (hi:i<l.length) (hl:l.length≤100000) (h:(aq l i).Kind=2):mo (ct l i)=some ((aq l i).N,ct l (i+1)):=by
 unfold mo
 rw [sQ hi,au,if_neg (fun q=>q h)]
 show some ((aq l i).N,(⟨⟨l,aI (((i:Nat):Int)+1),⟨0,0⟩⟩⟩:aA))=_
 rw [nU hi hl]; rfl
end
section
variable {s:aA} (h:s.Row.aj.Code≠0)
include h
end
end Go.Sy.Ex
namespace Go.Sy.Ex
open Go.Sy
def yt (l:List an) (i:Nat):av:=⟨⟨l,(i:Int),⟨0,0⟩⟩⟩
def yb (l:List an) (i:Nat):av:=⟨⟨l,(i:Int),bd (aq l i)⟩⟩
section
variable {l:List an} {i:Nat}
theorem oM:jr (yt l i)=some (true,yt l i):=rfl
theorem kq (hi:i<l.length):dx (yt l i)=some (aq l i,yt l i):=by
 unfold dx
 rw [oM,au]
 have h1: ¬ ((i:Nat):Int)<0:=by omega
 have h2: ¬ (l.length:Int)≤((i:Nat):Int):=by omega
 have h3:0≤((i:Nat):Int):=by omega
 have h4:((i:Nat):Int)<(l.length:Int):=by omega
 simp only [Bool.not_true,cond_false,yt,Int.toNat_natCast,h1,h2,h3,h4,if_true,if_false]; rfl
theorem vq (hi:i<l.length) (s:List UInt8):gL (yt l i) s=some (bq (aq l i) s,yt l i):=by
 unfold gL bq
 rw [kq hi,au]
 dsimp only
 by_cases h3:(aq l i).Kind=3
 · rw [if_pos h3]; congr 2; rw [decide_eq_decide]; simp [h3]
 · rw [if_neg h3]
   by_cases h1:(aq l i).Kind=1
   · rw [if_pos h1]; congr 2; rw [decide_eq_decide]; simp [h1]
   · rw [if_neg h1]
     congr 2
     symm
     rw [decide_eq_false_iff_not]
     rintro ⟨h | h,_⟩ <;> contradiction
theorem Fb (hi:i<l.length) (hl:l.length≤100000) (s:List UInt8):fT (yt l i) s=some (bq (aq l i) s,bif bq (aq l i) s then yt l (i+1) else yt l i):=by
 unfold fT
 rw [vq hi,au]
 dsimp only
 cases h:bq (aq l i) s with
 | true=>
  rw [cond_true,cond_true]
  show some (true,(⟨⟨l,aI (((i:Nat):Int)+1),⟨0,0⟩⟩⟩:av))=_
  rw [nU hi hl]; rfl
 | false=>rfl
theorem O0 (hi:i<l.length):iM (yt l i)=some (yb l i):=by
 unfold iM
 rw [kq hi,au]
 dsimp only
 unfold yb bd
 by_cases h4:(aq l i).Kind=4
 · rw [if_pos h4,if_pos h4]
   unfold fS
   rw [oM,au]
   rfl
 · rw [if_neg h4,if_neg h4]
   unfold fS
   rw [oM,au]
   rfl
theorem eR (hi:i<l.length) (hl:l.length≤100000) {s:List UInt8} (h:bq (aq l i) s=true):cg (yt l i) s=some (yt l (i+1)):=by
 unfold cg
 rw [Fb hi hl,au,h]; rfl
theorem OZ (hi:i<l.length) (hl:l.length≤100000) {s:List UInt8} (h:bq (aq l i) s=false):cg (yt l i) s=some (yb l i):=by
 unfold cg
 rw [Fb hi hl,au,h,Bool.not_false,cond_true,cond_false,O0 hi,au]
theorem OY (hi:i<l.length):mg (yt l i)=some (iH (aq l i),yt l i):=by
 unfold mg iH
 rw [kq hi,au]
 dsimp only
 by_cases h1:(aq l i).Kind=1
 · rw [if_pos h1,CU,au,decide_eq_true h1]; rfl
 · rw [if_neg h1,decide_eq_false h1]; rfl
theorem oL (hi:i<l.length) (hl:l.length≤100000) (h:iH (aq l i)=true):er (yt l i)=some ((aq l i).Text,yt l (i+1)):=by
 unfold er
 rw [OY hi,au,h]
 show (if 0≤aI (aI (((i:Nat):Int)+1) - 1) then if aI (aI (((i:Nat):Int)+1) - 1)<(l.length:Int) then some ((l.getD (aI (aI (((i:Nat):Int)+1) - 1)).toNat an.z).Text,(⟨⟨l,aI (((i:Nat):Int)+1),⟨0,0⟩⟩⟩:av)) else none else none)=_
 rw [nU hi hl,show aI (((i+1:Nat):Int) - 1)=((i:Nat):Int) from by rw [ga (by omega) (by omega)]; omega,if_pos (by omega),if_pos (by omega),Int.toNat_natCast]
 rfl
theorem vt (hi:i<l.length) (hl:l.length≤100000) (h:(aq l i).Kind=2):mq (yt l i)=some ((aq l i).N,yt l (i+1)):=by
 unfold mq
 rw [kq hi,au,if_neg (fun q=>q h)]
 show some ((aq l i).N,(⟨⟨l,aI (((i:Nat):Int)+1),⟨0,0⟩⟩⟩:av))=_
 rw [nU hi hl]; rfl
end
section
variable {s:av} (h:s.Row.aj.Code≠0)
include h
theorem Fa:jr s=some (false,s):=by unfold jr; rw [decide_eq_false h]
theorem zV:dx s=some (an.mk 4 0 0 [] 0,s):=by unfold dx; rw [Fa h,au]; rfl
theorem zU (x:List UInt8):gL s x=some (false,s):=by unfold gL; rw [zV h,au]; rfl
end
end Go.Sy.Ex
namespace Go.Sy.Ex
open Go.Sy
theorem jf {t:an} {s s':List UInt8} (h:bq t s=true) (hs:s≠s'):bq t s'=false:=by
 have h:=of_decide_eq_true h
 exact decide_eq_false fun q=>hs (h.2.symm.trans q.2)
section
variable {l:List an} {i:Nat}
def bK (t:an):Int:=bif bq t mN then 1 else bif bq t mL then 2 else bif bq t mI then 3 else bif bq t mH then 4 else 0
theorem F9 (hi:i<l.length):kH (ct l i)=some (bK (aq l i),ct l i):=by
 unfold kH bK
 simp only [AT hi,au]
 cases bq (aq l i) mN <;> cases bq (aq l i) mL <;> cases bq (aq l i) mI <;> cases bq (aq l i) mH <;> rfl
theorem F7 {t:an} (h:bq t gS=true):bK t=0:=by
 unfold bK
 rw [jf h (show gS≠mN by decide),jf h (show gS≠mL by decide),jf h (show gS≠mI by decide),jf h (show gS≠mH by decide)]; rfl
theorem A1 (hi:i<l.length) (hl:l.length≤100000) {s:List UInt8} (h:bq (aq l i) s=false):eB (ct l i) s=some (false,ct l i):=by rw [A2 hi hl,h]; rfl
theorem DC {l:List an} {i:Nat} (hi:i<l.length) (hl:l.length≤100000) {w:List UInt8} (h:bq (aq l i) w=false):pq (ct l i) w=some ([],ct l i):=e9 1 fun k hk=>by
 obtain ⟨k,rfl⟩: ∃ j,k=j+1:=⟨k - 1,by omega⟩
 show pz (k+1) (ct l i).Row.L _ _ _ w []=_
 rw [pz.eq_2,A0,A1 hi hl h,au]; rfl
def yM (l:List an) (i:Nat):av:=⟨⟨l,(i:Int),⟨15,(aq l i).At⟩⟩⟩
theorem mc {s:av} (h:s.Row.aj.Code≠0) (w:List UInt8) (n most:Int):gx s w n most=some (false,s):=by
 unfold gx
 rw [zU h,au,cond_false,zU h,au]
end
theorem ED {a b:List an} {i:Nat} (h:i<a.length):aq (a++b) i=aq a i:=by
 unfold aq
 simp [List.getD_eq_getElem?_getD,List.getElem?_append_left h]
theorem NI {a b:List an} (i:Nat):aq (a++b) (a.length+i)=aq b i:=by
 unfold aq
 rw [List.getD_eq_getElem?_getD,List.getD_eq_getElem?_getD,List.getElem?_append_right (by omega),Nat.add_sub_cancel_left]
theorem cA {t:an} {k:Int} {s:List UInt8} {n:Int} (h:strip t=(k,s,n)) (hk:k=3∨k=1):bq t s=true:=by
 unfold strip at h
 injection h with h1 h2
 injection h2 with h2 h3
 exact decide_eq_true ⟨by rw [h1]; exact hk,h2⟩
theorem me {t:an} {s:List UInt8} {n:Int} (h:strip t=(1,s,n)) (hs:mB s=false):iH t=true:=by
 unfold strip at h
 injection h with h1 h2
 injection h2 with h2 h3
 unfold iH
 rw [h2,hs,decide_eq_true h1]; rfl
theorem jZ {t:an} {k:Int} {s:List UInt8} {n:Int} (h:strip t=(k,s,n)):t.Kind=k:=by
 unfold strip at h
 injection h
theorem zC {L:List an} {K:List Tk} (h:L.map strip=K) {i:Nat} {x:Tk} (hx:K[i]? =some x):strip (aq L i)=x:=by
 subst h
 rw [List.getElem?_map] at hx
 unfold aq
 rw [List.getD_eq_getElem?_getD]
 cases hL:L[i]? with
 | none=>rw [hL] at hx; cases hx
 | some y=>rw [hL] at hx; exact Option.some.inj hx
abbrev z0:cU:=cU.mk 0 [] [] [] []
noncomputable abbrev iR (m:Nat) (s:av) (a:Int) (C:List cD) (I:List dr) (K:List dn) (E:List dm):=iP m s.Row.L s.Row.At s.Row.aj.Code s.Row.aj.At 0 [] [] [] [] a C I K E
noncomputable abbrev hO (m:Nat) (s:av) (a:Int) (C:List cD) (I:List dr) (K:List dn) (E:List dm):=jA m s.Row.L s.Row.At s.Row.aj.Code s.Row.aj.At 0 [] [] [] [] a C I K E
noncomputable abbrev hY (m:Nat) (s:av) (a:Int) (C:List cD) (I:List dr) (K:List dn) (E:List dm):=jB m s.Row.L s.Row.At s.Row.aj.Code s.Row.aj.At 0 [] [] [] [] a C I K E
noncomputable abbrev sn (m:Nat) (s:av) (a:Int) (C:List cD) (I:List dr) (K:List dn) (E:List dm):=lf m s.Row.L s.Row.At s.Row.aj.Code s.Row.aj.At 0 [] [] [] [] a C I K E
theorem bN (n c:Nat) {α:Type} (x:α) (h:n≤100) (hc:c≤1000):(n+ [x].length)*c≤140737488355328:=by
 have :(n+ [x].length)*c≤101*1000:=Nat.mul_le_mul (by simp; omega) hc
 omega
theorem sj (l:List an) (i:Nat):(yM l i).Row.aj.Code≠0:=by show (15:Int)≠0; decide
theorem iF {l:List an} {i:Nat} (hi:i<l.length) (w:List UInt8) (n most:Int):gx (yt l i) w n most=bif bq (aq l i) w then (if n=most then some (false,yM l i) else some (true,yt l i)) else some (false,yt l i):=by
 unfold gx
 rw [vq hi,au]
 dsimp only
 cases h:bq (aq l i) w with
 | false=>rw [cond_false,cond_false,vq hi,au,h]
 | true=>
  rw [cond_true,cond_true]
  by_cases e:n=most
  · rw [if_pos e,if_pos e,kq hi,au]
    dsimp only
    have hF:fS (yt l i) 15 (aq l i).At=some (yM l i):=by
     unfold fS
     rw [oM,au]; rfl
    rw [hF,au,zU (sj l i),au]
  · rw [if_neg e,if_neg e,vq hi,au,h]
def eP (hd:List UInt8) (ln:Nat→List UInt8):Nat→List UInt8
 | 0=>hd
 | i+1=>eP hd ln i++ln i
def fl (K:Nat→List Tk):Nat→List Tk
 | 0=> []
 | i+1=>fl K i++K i
theorem jc {K:Nat→List Tk} {c:Nat} (hc: ∀ e,(K e).length=c): ∀ i,(fl K i).length=c*i
 | 0=>rfl
 | i+1=>by rw [fl,List.length_append,jc hc i,hc,Nat.mul_succ]
theorem BA {K:Nat→List Tk} {c:Nat} (hc: ∀ e,(K e).length=c): ∀ i e j,e<i→j<c→(fl K i)[c*e+j]? =(K e)[j]?
 | 0,e,j,h,_=>by omega
 | i+1,e,j,h,hj=>by
  have h1:c*(e+1)≤c*(i+1):=Nat.mul_le_mul_left c (by omega)
  by_cases he:e<i
  · have h2:c*(e+1)≤c*i:=Nat.mul_le_mul_left c (by omega)
    rw [Nat.mul_succ] at h2
    rw [fl,List.getElem?_append_left (by rw [jc hc]; omega)]
    exact BA hc i e j he hj
  · obtain rfl:e=i:=by omega
    rw [fl,List.getElem?_append_right (by rw [jc hc]; omega),jc hc,Nat.add_sub_cancel_left]
theorem K9 {n:Nat} {u:List UInt8} {L:List an} (h:dV n u L) (hu:L≠ []):(aq L 0).At=((n+(u.length - (dB u).length):Nat):Int):=by
 cases h with
 | nil hs=>exact absurd rfl hu
 | cons hs hv hh hl=>subst hs; rfl
structure LL (hd:List UInt8) (ln:Nat→List UInt8) (KH:List Tk) (K:Nat→List Tk) (c o i:Nat) (L:List an):Prop where
 lex:dV 0 (eP hd ln i) L
 st:L.map strip=KH++fl K i
 pl: ∀ e,e<i→(aq L (KH.length+c*e)).At=(((eP hd ln e).length+o:Nat):Int)
theorem D1 {a b:List UInt8} (h:a.getLast?=some 10):gU a b=true:=MT fun x hx=>by rw [h] at hx; cases hx; decide
theorem EP {hd:List UInt8} {ln:Nat→List UInt8} (h:hd.getLast?=some 10) (hl: ∀ e,(ln e).getLast?=some 10): ∀ i,(eP hd ln i).getLast?=some 10
 | 0=>h
 | i+1=>by rw [eP,List.getLast?_append,hl]; rfl
theorem CT {hd:List UInt8} {ln:Nat→List UInt8} {KH:List Tk} {K:Nat→List Tk} {c o:Nat} (hh:Lx hd KH) (hl: ∀ e,Lx (ln e) (K e)) (hc: ∀ e,(K e).length=c) (h0:0<c) (hs: ∀ e,(ln e).length - (dB (ln e)).length=o)
 (h10:hd.getLast?=some 10) (l10: ∀ e,(ln e).getLast?=some 10): ∀ i, ∃ L,LL hd ln KH K c o i L
 | 0=>by
  obtain ⟨L,h1,h2⟩:=hh 0
  exact ⟨L,h1,by rw [h2]; simp [fl],fun e he=>by omega⟩
 | i+1=>by
  obtain ⟨L,h⟩:=CT hh hl hc h0 hs h10 l10 i
  obtain ⟨M,h1,h2⟩:=hl i (0+(eP hd ln i).length)
  have hL:L.length=KH.length+c*i:=by have :=congrArg List.length h.st; rw [List.length_map,List.length_append,jc hc] at this; exact this
  have hM:M.length=c:=by have :=congrArg List.length h2; rw [List.length_map,hc] at this; exact this
  refine ⟨L++M,h.lex.append h1 (D1 (EP h10 l10 i)),by rw [List.map_append,h.st,h2,fl,List.append_assoc],fun e he=> ?_⟩
  by_cases nK:e<i
  · have h3:c*(e+1)≤c*i:=Nat.mul_le_mul_left c (by omega)
    rw [Nat.mul_succ] at h3
    rw [ED (by omega)]
    exact h.pl e nK
  · obtain rfl:e=i:=by omega
    have :=NI (a:=L) (b:=M) 0
    rw [Nat.add_zero,hL] at this
    rw [this,K9 h1 (fun e=>by rw [e] at hM; simp at hM; omega),hs,Nat.zero_add]
structure TT (l:List an) (hd:List UInt8) (ln:Nat→List UInt8) (KH KR:List Tk) (K:Nat→List Tk) (c o n:Nat):Prop where
 st:l.map strip=(KH++fl K n++KR)++ [(4,[],0)]
 pl: ∀ e,e<n→(aq l (KH.length+c*e)).At=(((eP hd ln e).length+o:Nat):Int)
 hc: ∀ e,(K e).length=c
theorem NJ {hd:List UInt8} {ln:Nat→List UInt8} {KH KR:List Tk} {K:Nat→List Tk} {c o:Nat} {tr:List UInt8} (hh:Lx hd KH) (hl: ∀ e,Lx (ln e) (K e)) (ht:Lx tr KR) (hc: ∀ e,(K e).length=c) (h0:0<c) (hs: ∀ e,(ln e).length - (dB (ln e)).length=o)
 (h10:hd.getLast?=some 10) (l10: ∀ e,(ln e).getLast?=some 10) (n:Nat) (hn:(eP hd ln n++tr).length≤16384): ∃ l,iY (eP hd ln n++tr)=(l,⟨0,0⟩)∧TT l hd ln KH KR K c o n:=by
 obtain ⟨L,h⟩:=CT hh hl hc h0 hs h10 l10 n
 obtain ⟨R,h1,h2⟩:=ht (0+(eP hd ln n).length)
 have hL:L.length=KH.length+c*n:=by have :=congrArg List.length h.st; rw [List.length_map,List.length_append,jc hc] at this; exact this
 refine ⟨_,C_ (h.lex.append h1 (D1 (EP h10 l10 n))) hn, ?_,fun e he=> ?_,hc⟩
 · rw [List.map_append,List.map_append,h.st,h2]; rfl
 · have h3:c*(e+1)≤c*n:=Nat.mul_le_mul_left c (by omega)
   rw [Nat.mul_succ] at h3
   have h4:0<c:=h0
   rw [List.append_assoc,ED (by omega)]
   exact h.pl e he
section
variable {l:List an} {hd:List UInt8} {ln:Nat→List UInt8} {KH KR:List Tk} {K:Nat→List Tk} {c o n:Nat} (T:TT l hd ln KH KR K c o n)
include T
theorem TT.len:l.length=KH.length+c*n+KR.length+1:=by
 have :=congrArg List.length T.st
 simp only [List.length_map,List.length_append,jc T.hc,List.length_singleton] at this
 omega
theorem TT.head {j:Nat} {x:Tk} (h:KH[j]? =some x):strip (aq l j)=x:=by
 refine zC T.st ?_
 obtain ⟨hj,_⟩:=List.getElem?_eq_some_iff.1 h
 rw [List.append_assoc,List.append_assoc,List.getElem?_append_left hj,h]
theorem TT.line {e j:Nat} {x:Tk} (he:e<n) (h:(K e)[j]? =some x):strip (aq l (KH.length+c*e+j))=x:=by
 refine zC T.st ?_
 obtain ⟨hj,_⟩:=List.getElem?_eq_some_iff.1 h
 rw [T.hc] at hj
 have h3:c*(e+1)≤c*n:=Nat.mul_le_mul_left c (by omega)
 rw [Nat.mul_succ] at h3
 rw [List.append_assoc,List.append_assoc,List.getElem?_append_right (by omega),List.getElem?_append_left (by rw [jc T.hc]; omega),show KH.length+c*e+j - KH.length=c*e+j from by omega,BA T.hc n e j he hj,h]
theorem TT.tail {j:Nat} {x:Tk} (h:(KR++ [((4,[],0):Tk)])[j]? =some x):strip (aq l (KH.length+c*n+j))=x:=by
 refine zC T.st ?_
 rw [List.append_assoc,List.getElem?_append_right (by rw [List.length_append,jc T.hc]; omega),List.length_append,jc T.hc,Nat.add_sub_cancel_left,h]
end
theorem mD {α β:Type} {l:List an} (Y:Nat→av→List α→β) (P:Nat→α→Prop) (h c N:Nat)
 (step: ∀ e acc,e<N→acc.length=e→ ∃ x,P e x∧ ∀ m,Y (m+1) (yt l (h+c*e)) acc=Y m (yt l (h+c*(e+1))) (acc++ [x])):
 ∀ r,r≤N→ ∃ acc:List α,acc.length=r∧(∀ j (hj:j<acc.length),P j acc[j])∧ ∀ m,Y (m+r) (yt l (h+c*0)) []=Y m (yt l (h+c*r)) acc
 | 0,_=>⟨[],rfl,fun j hj=>by simp at hj,fun m=>rfl⟩
 | r+1,hr=>by
  obtain ⟨acc,h1,h2,h3⟩:=mD Y P h c N step r (by omega)
  obtain ⟨x,hx,h4⟩:=step r acc (by omega) h1
  refine ⟨acc++ [x],by simp [h1],fun j hj=> ?_,fun m=> ?_⟩
  · by_cases hj':j<acc.length
    · rw [List.getElem_append_left hj']; exact h2 j hj'
    · have :j=acc.length:=by simp at hj; omega
      subst this
      rw [List.getElem_append_right (Nat.le_refl _)]
      simpa [h1] using hx
  · rw [show m+(r+1)=(m+1)+r from by omega,h3,h4]
end Go.Sy.Ex
namespace Go.Sy.Ex
open Go.Sy
abbrev KC:List Tk:= [(1,jy,0),(1,[99],0),(1,rM,0),(2,[50],2),(1,rE,0),(2,[50],2),(3,k8,0),(3,gS,0)]
abbrev KI:List Tk:= [(1,jz,0),(1,[97],0),(3,rC,0),(1,[99],0),(1,rK,0),(2,[49],1),(1,rD,0),(2,[48],0),(1,mM,0),(2,[48],0),(3,dM,0)]
abbrev KN:List Tk:= [(1,gR,0),(1,[107],0),(3,rC,0),(1,[97],0),(3,zh,0),(1,[112],0),(3,uW,0),(1,[97],0),(1,rA,0),(2,[49],1),(1,mM,0),(2,[48],0),(3,dM,0)]
theorem jN {l:List an} {p:Nat} {K:List Tk} {x:Tk} (h: ∀ j x,K[j]? =some x→strip (aq l (p+j))=x) (hx:K[0]? =some x):strip (aq l p)=x:=h 0 _ hx
section
variable {l:List an} {p:Nat}
theorem sg (hl:l.length≤100000) (hi:p+1<l.length) {w:List UInt8} (h:bq (aq l p) w=true) (h2:(aq l (p+1)).Kind=2):gY (yt l p) w=some ((aq l (p+1)).N,yt l (p+2)):=by
 unfold gY
 rw [eR (by omega) hl h,au,vt hi hl h2,au]
theorem Gv (hl:l.length≤100000) (hp:p+8<l.length) (h: ∀ j x,KC[j]? =some x→strip (aq l (p+j))=x): ∃ c,nj l (p:Int)=some (c,((p+8:Nat):Int),⟨0,0⟩):=by
 have h7:bq (aq l (p+7)) gS=true:=cA (h 7 _ rfl) (.inl rfl)
 have hst:sO (ct l (p+7)) 1=some ([],ct l (p+7)):=e9 2 fun k hk=>by
  obtain ⟨k,rfl⟩: ∃ j,k=j+2:=⟨k - 2,by omega⟩
  show sP (pE (k+1)) (k+1) (ct l (p+7)) 1=_
  unfold sP
  rw [F9 (by omega),au,F7 h7,nr.eq_2,if_neg (show ¬ (0:Int)≠0 by decide)]
 have hc: ∃ c,sL (ct l p)=some (c,ct l (p+8)):=by
  refine ⟨cD.mk (aq l (p+1)).Text (aq l (p+3)).N (aq l (p+5)).N [] [] [] [] (aq l p).At,e9 1 fun k hk=> ?_⟩
  obtain ⟨k,rfl⟩: ∃ j,k=j+1:=⟨k - 1,by omega⟩
  show sM (k+1) (ct l p)=_
  unfold sM
  rw [sQ (by omega),au]
  dsimp only
  rw [pG (by omega) hl (cA (jN h rfl) (.inr rfl)),au,GS (by omega) hl (me (h 1 _ rfl) (by decide+kernel)),au]
  dsimp only
  rw [pG (by omega) hl (cA (h 2 _ rfl) (.inr rfl)),au,AX (by omega) hl (jZ (h 3 _ rfl)),au]
  dsimp only
  rw [pG (by omega) hl (cA (h 4 _ rfl) (.inr rfl)),au,AX (by omega) hl (jZ (h 5 _ rfl)),au]
  dsimp only
  rw [pG (by omega) hl (cA (h 6 _ rfl) (.inl rfl)),au,o_.eq_2,A0,A1 (by omega) hl (jf h7 (by decide)),au,cond_false]
  dsimp only
  rw [DC (by omega) hl (jf h7 (by decide)),au]
  dsimp only
  rw [DC (by omega) hl (jf h7 (by decide)),au]
  dsimp only
  rw [hst,au]
  dsimp only
  rw [pG (by omega) hl h7,au]
 obtain ⟨c,hc⟩:=hc
 refine ⟨c, ?_⟩
 unfold nj
 rw [show aA.mk (aV.mk l (p:Int) (aR.mk 0 0))=ct l p from rfl,hc,au]
 dsimp only
 rw [AY,au]
 rfl
theorem JC (hl:l.length≤100000) (hp:p+11<l.length) (h: ∀ j x,KI[j]? =some x→strip (aq l (p+j))=x): ∃ v,rS (yt l p)=some (v,yt l (p+11)):=by
 refine ⟨dr.mk (aq l (p+1)).Text (aq l (p+3)).Text (aq l (p+5)).N (aq l (p+7)).N (aq l (p+9)).N (aq l p).At, ?_⟩
 unfold rS
 rw [kq (by omega),au]
 dsimp only
 rw [eR (by omega) hl (cA (jN h rfl) (.inr rfl)),au,oL (by omega) hl (me (h 1 _ rfl) (by decide+kernel)),au]
 dsimp only
 rw [eR (by omega) hl (cA (h 2 _ rfl) (.inl rfl)),au,oL (by omega) hl (me (h 3 _ rfl) (by decide+kernel)),au]
 dsimp only
 rw [sg hl (by omega) (cA (h 4 _ rfl) (.inr rfl)) (jZ (h 5 _ rfl)),au]
 dsimp only
 rw [sg hl (by omega) (cA (h 6 _ rfl) (.inr rfl)) (jZ (h 7 _ rfl)),au]
 dsimp only
 rw [sg hl (by omega) (cA (h 8 _ rfl) (.inr rfl)) (jZ (h 9 _ rfl)),au]
 dsimp only
 rw [eR (by omega) hl (cA (h 10 _ rfl) (.inl rfl)),au]
theorem OG (hl:l.length≤100000) (hp:p+5<l.length) (h0:iH (aq l p)=true) (h1:bq (aq l (p+1)) zh=true) (h2:iH (aq l (p+2))=true) (h3:bq (aq l (p+3)) uW=true) (h4:iH (aq l (p+4))=true):
 mP (yt l p)=some ((aq l p).Text,(aq l (p+2)).Text,(aq l (p+4)).Text,yt l (p+5)):=by
 unfold mP
 rw [oL (by omega) hl h0,au]
 dsimp only
 rw [eR (by omega) hl h1,au,oL (by omega) hl h2,au]
 dsimp only
 rw [eR (by omega) hl h3,au,oL (by omega) hl h4,au]
theorem Gs (hl:l.length≤100000) (hp:p+13<l.length) (h: ∀ j x,KN[j]? =some x→strip (aq l (p+j))=x): ∃ v,rR (yt l p)=some (v,yt l (p+13)):=by
 refine ⟨dn.mk (aq l (p+1)).Text (aq l (p+3)).Text (aq l (p+5)).Text (aq l (p+7)).Text (aq l (p+9)).N (aq l (p+11)).N (aq l p).At, ?_⟩
 unfold rR
 rw [kq (by omega),au]
 dsimp only
 rw [eR (by omega) hl (cA (jN h rfl) (.inr rfl)),au,oL (by omega) hl (me (h 1 _ rfl) (by decide+kernel)),au]
 dsimp only
 rw [eR (by omega) hl (cA (h 2 _ rfl) (.inl rfl)),au,
  OG (p:=p+3) hl (by omega) (me (h 3 _ rfl) (by decide+kernel)) (cA (h 4 _ rfl) (.inl rfl)) (me (h 5 _ rfl) (by decide+kernel)) (cA (h 6 _ rfl) (.inl rfl)) (me (h 7 _ rfl) (by decide+kernel)),au]
 dsimp only
 rw [sg hl (by omega) (cA (h 8 _ rfl) (.inr rfl)) (jZ (h 9 _ rfl)),au]
 dsimp only
 rw [sg hl (by omega) (cA (h 10 _ rfl) (.inr rfl)) (jZ (h 11 _ rfl)),au]
 dsimp only
 rw [eR (by omega) hl (cA (h 12 _ rfl) (.inl rfl)),au]
theorem gz (s:av):av.mk (aV.mk s.Row.L s.Row.At (aR.mk s.Row.aj.Code s.Row.aj.At))=s:=rfl
section
variable (a:Int) (C:List cD) (I:List dr) (N:List dn) (E:List dm) (m:Nat)
theorem ry (hp:p<l.length) (h:bq (aq l p) jy=false):iR (m+1) (yt l p) a C I N E=hO m (yt l p) a C I N E:=by
 unfold iR
 rw [iP.eq_2,gz,iF hp,h,cond_false,au]; rfl
theorem uF (hp:p<l.length) (h:bq (aq l p) jz=false):hO (m+1) (yt l p) a C I N E=hY m (yt l p) a C I N E:=by
 unfold hO
 rw [jA.eq_2,gz,iF hp,h,cond_false,au]; rfl
theorem zf (hp:p<l.length) (h:bq (aq l p) gR=false):hY (m+1) (yt l p) a C I N E=sn m (yt l p) a C I N E:=by
 unfold hY
 rw [jB.eq_2,gz,iF hp,h,cond_false,au]; rfl
theorem zg (hp:p<l.length) (h:(aq l p).Kind=4):sn (m+1) (yt l p) a C I N E=some (⟨a,C,I,N,E⟩,yt l p):=by
 have hn:bq (aq l p) ou=false:=decide_eq_false (by rw [h]; omega)
 unfold sn
 rw [lf.eq_2,gz,iF hp,hn,cond_false,au,cond_false]
 dsimp only
 rw [kq hp,au,if_neg (fun q=>q h)]
theorem lS (h:(aq l p).Kind=4) (w:List UInt8):bq (aq l p) w=false:=decide_eq_false (by rw [h]; omega)
theorem MI (hp:p<l.length) (h:(aq l p).Kind=4):iR (m+4) (yt l p) a C I N E=some (⟨a,C,I,N,E⟩,yt l p):=by
 rw [ry a C I N E (m+3) hp (lS h _),uF a C I N E (m+2) hp (lS h _),zf a C I N E (m+1) hp (lS h _),zg a C I N E m hp h]
theorem DS {s:av} (h:s.Row.aj.Code≠0):sn (m+1) s a C I N E=some (⟨a,C,I,N,E⟩,s):=by
 unfold sn
 rw [lf.eq_2,gz,mc h,au,cond_false]
 dsimp only
 rw [zV h,au,if_neg (fun q=>q rfl)]
theorem DQ {s:av} (h:s.Row.aj.Code≠0):hY (m+2) s a C I N E=some (⟨a,C,I,N,E⟩,s):=by
 unfold hY
 rw [jB.eq_2,gz,mc h,au,cond_false]
 exact DS a C I N E m h
theorem MK {s:av} (h:s.Row.aj.Code≠0):hO (m+3) s a C I N E=some (⟨a,C,I,N,E⟩,s):=by
 unfold hO
 rw [jA.eq_2,gz,mc h,au,cond_false]
 exact DQ a C I N E m h
theorem MJ (hp:p<l.length) (h:bq (aq l p) jy=true) (hC:(C.length:Int)=8):iR (m+4) (yt l p) a C I N E=some (⟨a,C,I,N,E⟩,yM l p):=by
 unfold iR
 rw [iP.eq_2,gz,iF hp,h,cond_true,if_pos hC,au,cond_false]
 exact MK a C I N E m (sj l p)
theorem ML (hp:p<l.length) (h:bq (aq l p) jz=true) (hI:(I.length:Int)=12):hO (m+3) (yt l p) a C I N E=some (⟨a,C,I,N,E⟩,yM l p):=by
 unfold hO
 rw [jA.eq_2,gz,iF hp,h,cond_true,if_pos hI,au,cond_false]
 exact DQ a C I N E m (sj l p)
theorem MM (hp:p<l.length) (h:bq (aq l p) gR=true) (hN:(N.length:Int)=24):hY (m+2) (yt l p) a C I N E=some (⟨a,C,I,N,E⟩,yM l p):=by
 unfold hY
 rw [jB.eq_2,gz,iF hp,h,cond_true,if_pos hN,au,cond_false]
 exact DS a C I N E m (sj l p)
end
theorem DO (a:Int) (C:List cD) (hl:l.length≤100000) (hp:p+8<l.length) (h: ∀ j x,KC[j]? =some x→strip (aq l (p+j))=x) (hC:C.length<8): ∃ x, ∀ m,iR (m+1) (yt l p) a C [] [] []=iR m (yt l (p+8)) a (C++ [x]) [] [] []:=by
 obtain ⟨c,hc⟩:=Gv hl hp h
 refine ⟨c,fun m=> ?_⟩
 unfold iR
 rw [iP.eq_2,gz,iF (by omega),cA (jN h rfl) (.inr rfl),cond_true,if_neg (by omega),au,cond_true]
 show (nj l (p:Int)).bind _=_
 rw [hc,au]
 have hF:fS (yt l p) 0 0=some (yt l p):=by unfold fS; rw [oM,au]; rfl
 dsimp only
 rw [hF,au,if_pos (bN C.length 136 c (by omega) (by decide))]
 rfl
theorem DP (a:Int) (I:List dr) (hl:l.length≤100000) (hp:p+11<l.length) (h: ∀ j x,KI[j]? =some x→strip (aq l (p+j))=x) (hI:I.length<12): ∃ x, ∀ m,hO (m+1) (yt l p) a [] I [] []=hO m (yt l (p+11)) a [] (I++ [x]) [] []:=by
 obtain ⟨c,hc⟩:=JC hl hp h
 refine ⟨c,fun m=> ?_⟩
 unfold hO
 rw [jA.eq_2,gz,iF (by omega),cA (jN h rfl) (.inr rfl),cond_true,if_neg (by omega),au,cond_true,hc,au,if_pos (bN I.length 64 c (by omega) (by decide))]
theorem DR (a:Int) (N:List dn) (hl:l.length≤100000) (hp:p+13<l.length) (h: ∀ j x,KN[j]? =some x→strip (aq l (p+j))=x) (hN:N.length<24): ∃ x, ∀ m,hY (m+1) (yt l p) a [] [] N []=hY m (yt l (p+13)) a [] [] (N++ [x]) []:=by
 obtain ⟨c,hc⟩:=Gs hl hp h
 refine ⟨c,fun m=> ?_⟩
 unfold hY
 rw [jB.eq_2,gz,iF (by omega),cA (jN h rfl) (.inr rfl),cond_true,if_neg (by omega),au,cond_true,hc,au,if_pos (bN N.length 88 c (by omega) (by decide))]
end
end Go.Sy.Ex
namespace Go.Sy.Ex
open Go.Sy
abbrev M1:List an:= [⟨1,0,6,mO,0⟩,⟨1,7,10,mG,0⟩,⟨2,11,12,[49],1⟩,⟨3,12,13,dM,0⟩,⟨4,13,13,[],0⟩]
abbrev M2:List an:= [⟨1,0,6,mO,0⟩,⟨1,7,10,mG,0⟩,⟨2,11,12,[49],1⟩,⟨4,12,12,[],0⟩]
theorem Fk:iY zk=(M1,⟨0,0⟩):=by decide+kernel
theorem Fm:iY zl=(M2,⟨0,0⟩):=by decide+kernel
theorem CB:nT=some true:=by
 have r1:fe zk=some (cU.mk 1 [] [] [] [],⟨0,0⟩):=by
  unfold fe
  rw [tL,Fk,au,if_neg (by decide)]
  have hs:eN (av.mk (aV.mk M1 0 (aR.mk 0 0)))=some (cU.mk 1 [] [] [] [],yt M1 4):=e9 4 fun k hk=>by
   obtain ⟨k,rfl⟩: ∃ j,k=j+4:=⟨k - 4,by omega⟩
   show fZ (k+4) (yt M1 0)=_
   unfold fZ
   have hm: ∀ w n m,bq (aq M1 4) w=false→gx (yt M1 4) w n m=some (false,yt M1 4):=fun w n m h=>by rw [iF (by decide),h]; rfl
   have ee: ∀ s:av,av.mk (aV.mk s.Row.L s.Row.At (aR.mk s.Row.aj.Code s.Row.aj.At))=s:=fun s=>rfl
   rw [eR (by decide) (by decide) (by decide),au,eR (by decide) (by decide) (by decide),au,vt (by decide) (by decide) (by decide),au,eR (by decide) (by decide) (by decide),au]
   show iP (k+4) (yt M1 4).Row.L _ _ _ _ _ _ _ _ _ _ _ _ _=_
   rw [iP.eq_2,ee,hm _ _ _ (by decide),au,cond_false]
   dsimp only
   rw [jA.eq_2,ee,hm _ _ _ (by decide),au,cond_false]
   dsimp only
   rw [jB.eq_2,ee,hm _ _ _ (by decide),au,cond_false]
   dsimp only
   rw [lf.eq_2,ee,hm _ _ _ (by decide),au,cond_false]
   dsimp only
   rw [kq (by decide),au]
   rfl
  rw [hs,au]
  rfl
 have r2:fe zl=some (z0,⟨12,12⟩):=by
  unfold fe
  rw [tL,Fm,au,if_neg (by decide)]
  have hb:(yb M2 3).Row.aj.Code≠0:=by decide
  have ee: ∀ s:av,av.mk (aV.mk s.Row.L s.Row.At (aR.mk s.Row.aj.Code s.Row.aj.At))=s:=fun s=>rfl
  have hs:eN (av.mk (aV.mk M2 0 (aR.mk 0 0)))=some (cU.mk 1 [] [] [] [],yb M2 3):=e9 4 fun k hk=>by
   obtain ⟨k,rfl⟩: ∃ j,k=j+4:=⟨k - 4,by omega⟩
   show fZ (k+4) (yt M2 0)=_
   unfold fZ
   rw [eR (by decide) (by decide) (by decide),au,eR (by decide) (by decide) (by decide),au,vt (by decide) (by decide) (by decide),au,OZ (by decide) (by decide) (by decide),au]
   show iP (k+4) (yb M2 3).Row.L _ _ _ _ _ _ _ _ _ _ _ _ _=_
   rw [iP.eq_2,ee,mc hb,au,cond_false]
   dsimp only
   rw [jA.eq_2,ee,mc hb,au,cond_false]
   dsimp only
   rw [jB.eq_2,ee,mc hb,au,cond_false]
   dsimp only
   rw [lf.eq_2,ee,mc hb,au,cond_false]
   dsimp only
   rw [zV hb,au]
   rfl
  rw [hs,au]
  rfl
 unfold nT
 rw [r1,au,r2,au]
 dsimp only
 rw [if_pos rfl,if_pos rfl,if_pos (by rfl),decide_eq_true ⟨rfl,rfl⟩]
abbrev KS:List Tk:= [(1,mO,0),(1,mG,0),(2,[49],1),(3,dM,0)]
theorem K3 {t:List UInt8} {l:List an} {s:cU} {j:Nat} (h:iY t=(l,⟨0,0⟩)) (hs:eN (yt l 0)=some (s,yt l j)):fe t=some (s,⟨0,0⟩):=by
 unfold fe
 rw [tL,h,au,if_neg (show ¬ (0:Int)≠0 by decide)]
 show (eN (yt l 0)).bind _=_
 rw [hs,au]
 dsimp only
 rw [oM,au]; rfl
theorem K2 {t:List UInt8} {l:List an} {s:cU} {j:Nat} (h:iY t=(l,⟨0,0⟩)) (hs:eN (yt l 0)=some (s,yM l j)):fe t=some (z0,⟨15,(aq l j).At⟩):=by
 unfold fe
 rw [tL,h,au,if_neg (show ¬ (0:Int)≠0 by decide)]
 show (eN (yt l 0)).bind _=_
 rw [hs,au]
 dsimp only
 rw [Fa (sj l j),au]; rfl
theorem oy {l:List an} (hl:l.length≤100000) (hp:4<l.length) (h: ∀ j x,KS[j]? =some x→strip (aq l j)=x) (k:Nat):fZ k (yt l 0)=iR k (yt l 4) (aq l 2).N [] [] [] []:=by
 unfold fZ
 rw [eR (by omega) hl (cA (h 0 _ rfl) (.inr rfl)),au,eR (i:=1) (by omega) hl (cA (h 1 _ rfl) (.inr rfl)),au,vt (i:=2) (by omega) hl (jZ (h 2 _ rfl)),au]
 dsimp only
 rw [eR (i:=3) (by omega) hl (cA (h 3 _ rfl) (.inl rfl)),au]
section
variable {l:List an} {hd line:List UInt8} {n:Nat}
theorem gy {K:List Tk} {c e:Nat} (T:TT l hd (fun _=>line) KS [] (fun _=>K) c 0 n) (he:e<n): ∀ j x,K[j]? =some x→strip (aq l (4+c*e+j))=x:=fun j x hx=>T.line he hx
theorem zO {c e n:Nat} (he:e<n):c*e+c≤c*n:=by
 have :=Nat.mul_le_mul_left c (show e+1≤n by omega)
 rwa [Nat.mul_succ] at this
theorem lq {K:List Tk} {c:Nat} (T:TT l hd (fun _=>line) KS [] (fun _=>K) c 0 n):(aq l (4+c*n)).Kind=4:=jZ (T.tail (j:=0) rfl)
theorem oD {K:List Tk} {c:Nat} (T:TT l hd (fun _=>line) KS [] (fun _=>K) c 0 n):l.length=4+c*n+1:=T.len
theorem Hx (T:TT l hd (fun _=>line) KS [] (fun _=>KC) 8 0 n) (hn:n≤8): ∃ s j,eN (yt l 0)=some (s,yt l j)∧s.ia.length=n∧s.Insts.length=0∧s.iS.length=0:=by
 have hlen:=oD T
 have hl:l.length≤100000:=by omega
 obtain ⟨C,h1,_,h3⟩:=mD (fun m s acc=>iR m s (aq l 2).N acc [] [] []) (fun _ _=>True) 4 8 n (fun e acc he ha=>by
  have :=zO (c:=8) he
  obtain ⟨x,hx⟩:=DO (aq l 2).N acc hl (p:=4+8*e) (by omega) (gy T he) (by omega)
  exact ⟨x,trivial,hx⟩) n (Nat.le_refl _)
 refine ⟨⟨(aq l 2).N,C,[],[],[]⟩,4+8*n,e9 (n+4) fun k hk=> ?_,h1,rfl,rfl⟩
 obtain ⟨k,rfl⟩: ∃ j,k=j+4+n:=⟨k - 4 - n,by omega⟩
 show fZ (k+4+n) (yt l 0)=_
 rw [oy hl (by omega) (fun j x hx=>T.head hx)]
 exact (h3 (k+4)).trans (MI _ _ _ _ _ k (by omega) (lq T))
theorem Kq (T:TT l hd (fun _=>line) KS [] (fun _=>KC) 8 0 n) (hn:8<n) (hn':n<40): ∃ s,eN (yt l 0)=some (s,yM l (4+8*8)):=by
 have hlen:=oD T
 have hl:l.length≤100000:=by omega
 obtain ⟨C,h1,_,h3⟩:=mD (fun m s acc=>iR m s (aq l 2).N acc [] [] []) (fun _ _=>True) 4 8 8 (fun e acc he ha=>by
  obtain ⟨x,hx⟩:=DO (aq l 2).N acc hl (p:=4+8*e) (by omega) (gy T (by omega)) (by omega)
  exact ⟨x,trivial,hx⟩) 8 (Nat.le_refl _)
 refine ⟨⟨(aq l 2).N,C,[],[],[]⟩,e9 (8+4) fun k hk=> ?_⟩
 obtain ⟨k,rfl⟩: ∃ j,k=j+4+8:=⟨k - 4 - 8,by omega⟩
 show fZ (k+4+8) (yt l 0)=_
 rw [oy hl (by omega) (fun j x hx=>T.head hx)]
 exact (h3 (k+4)).trans (MJ _ _ _ _ _ k (by omega) (cA (jN (gy T hn) rfl) (.inr rfl)) (by rw [h1]; rfl))
theorem Bz (hp:n=0→(aq l 4).Kind=4) {w w':List UInt8} (h:0<n→bq (aq l 4) w=true) (hw:w≠w'):bq (aq l 4) w'=false:=by
 by_cases h0:n=0
 · exact lS (hp h0) _
 · exact jf (h (by omega)) hw
theorem Hy (T:TT l hd (fun _=>line) KS [] (fun _=>KI) 11 0 n) (hn:n≤12): ∃ s j,eN (yt l 0)=some (s,yt l j)∧s.ia.length=0∧s.Insts.length=n∧s.iS.length=0:=by
 have hlen:=oD T
 have hl:l.length≤100000:=by omega
 obtain ⟨C,h1,_,h3⟩:=mD (fun m s acc=>hO m s (aq l 2).N [] acc [] []) (fun _ _=>True) 4 11 n (fun e acc he ha=>by
  have :=zO (c:=11) he
  obtain ⟨x,hx⟩:=DP (aq l 2).N acc hl (p:=4+11*e) (by omega) (gy T he) (by omega)
  exact ⟨x,trivial,hx⟩) n (Nat.le_refl _)
 have hf:bq (aq l 4) jy=false:=Bz (n:=n) (fun h=>by subst h; exact lq T) (w:=jz) (fun h=>cA (gy T h 0 _ rfl) (.inr rfl)) (by decide)
 refine ⟨⟨(aq l 2).N,[],C,[],[]⟩,4+11*n,e9 (n+4) fun k hk=> ?_,rfl,h1,rfl⟩
 obtain ⟨k,rfl⟩: ∃ j,k=j+3+n+1:=⟨k - 4 - n,by omega⟩
 show fZ (k+3+n+1) (yt l 0)=_
 rw [oy hl (by omega) (fun j x hx=>T.head hx),ry _ _ _ _ _ _ (by omega) hf]
 refine (h3 (k+3)).trans ?_
 rw [uF _ _ _ _ _ (k+2) (by omega) (lS (lq T) _),zf _ _ _ _ _ (k+1) (by omega) (lS (lq T) _),zg _ _ _ _ _ k (by omega) (lq T)]
theorem many1 (T:TT l hd (fun _=>line) KS [] (fun _=>KI) 11 0 n) (hn:12<n) (hn':n<40): ∃ s,eN (yt l 0)=some (s,yM l (4+11*12)):=by
 have hlen:=oD T
 have hl:l.length≤100000:=by omega
 obtain ⟨C,h1,_,h3⟩:=mD (fun m s acc=>hO m s (aq l 2).N [] acc [] []) (fun _ _=>True) 4 11 12 (fun e acc he ha=>by
  obtain ⟨x,hx⟩:=DP (aq l 2).N acc hl (p:=4+11*e) (by omega) (gy T (by omega)) (by omega)
  exact ⟨x,trivial,hx⟩) 12 (Nat.le_refl _)
 have hf:bq (aq l 4) jy=false:=jf (cA (gy T (e:=0) (by omega) 0 _ rfl) (.inr rfl):bq (aq l 4) jz=true) (by decide)
 refine ⟨⟨(aq l 2).N,[],C,[],[]⟩,e9 (12+4) fun k hk=> ?_⟩
 obtain ⟨k,rfl⟩: ∃ j,k=j+3+12+1:=⟨k - 4 - 12,by omega⟩
 show fZ (k+3+12+1) (yt l 0)=_
 rw [oy hl (by omega) (fun j x hx=>T.head hx),ry _ _ _ _ _ _ (by omega) hf]
 exact (h3 (k+3)).trans (ML _ _ _ _ _ k (by omega) (cA (jN (gy T hn) rfl) (.inr rfl)) (by rw [h1]; rfl))
theorem Hz (T:TT l hd (fun _=>line) KS [] (fun _=>KN) 13 0 n) (hn:n≤24): ∃ s j,eN (yt l 0)=some (s,yt l j)∧s.ia.length=0∧s.Insts.length=0∧s.iS.length=n:=by
 have hlen:=oD T
 have hl:l.length≤100000:=by omega
 obtain ⟨C,h1,_,h3⟩:=mD (fun m s acc=>hY m s (aq l 2).N [] [] acc []) (fun _ _=>True) 4 13 n (fun e acc he ha=>by
  have :=zO (c:=13) he
  obtain ⟨x,hx⟩:=DR (aq l 2).N acc hl (p:=4+13*e) (by omega) (gy T he) (by omega)
  exact ⟨x,trivial,hx⟩) n (Nat.le_refl _)
 have hf: ∀ w',gR≠w'→bq (aq l 4) w'=false:=fun w' hw=>Bz (n:=n) (fun h=>by subst h; exact lq T) (w:=gR) (fun h=>cA (gy T h 0 _ rfl) (.inr rfl)) hw
 refine ⟨⟨(aq l 2).N,[],[],C,[]⟩,4+13*n,e9 (n+4) fun k hk=> ?_,rfl,rfl,h1⟩
 obtain ⟨k,rfl⟩: ∃ j,k=j+2+n+2:=⟨k - 4 - n,by omega⟩
 show fZ (k+2+n+2) (yt l 0)=_
 rw [oy hl (by omega) (fun j x hx=>T.head hx),ry _ _ _ _ _ _ (by omega) (hf _ (by decide)),uF _ _ _ _ _ _ (by omega) (hf _ (by decide))]
 refine (h3 (k+2)).trans ?_
 rw [zf _ _ _ _ _ (k+1) (by omega) (lS (lq T) _),zg _ _ _ _ _ k (by omega) (lq T)]
theorem Kr (T:TT l hd (fun _=>line) KS [] (fun _=>KN) 13 0 n) (hn:24<n) (hn':n<40): ∃ s,eN (yt l 0)=some (s,yM l (4+13*24)):=by
 have hlen:=oD T
 have hl:l.length≤100000:=by omega
 obtain ⟨C,h1,_,h3⟩:=mD (fun m s acc=>hY m s (aq l 2).N [] [] acc []) (fun _ _=>True) 4 13 24 (fun e acc he ha=>by
  obtain ⟨x,hx⟩:=DR (aq l 2).N acc hl (p:=4+13*e) (by omega) (gy T (by omega)) (by omega)
  exact ⟨x,trivial,hx⟩) 24 (Nat.le_refl _)
 have hf: ∀ w',gR≠w'→bq (aq l 4) w'=false:=fun w' hw=>jf (cA (gy T (e:=0) (by omega) 0 _ rfl) (.inr rfl):bq (aq l 4) gR=true) hw
 refine ⟨⟨(aq l 2).N,[],[],C,[]⟩,e9 (24+4) fun k hk=> ?_⟩
 obtain ⟨k,rfl⟩: ∃ j,k=j+2+24+2:=⟨k - 4 - 24,by omega⟩
 show fZ (k+2+24+2) (yt l 0)=_
 rw [oy hl (by omega) (fun j x hx=>T.head hx),ry _ _ _ _ _ _ (by omega) (hf _ (by decide)),uF _ _ _ _ _ _ (by omega) (hf _ (by decide))]
 exact (h3 (k+2)).trans (MM _ _ _ _ _ k (by omega) (cA (jN (gy T hn) rfl) (.inr rfl)) (by rw [h1]; rfl))
end
theorem ES (hd line:List UInt8): ∀ i,(eP hd (fun _=>line) i).length=hd.length+i*line.length
 | 0=>by simp [eP]
 | i+1=>by rw [eP,List.length_append,ES hd line i,Nat.succ_mul,Nat.add_assoc]
theorem ER {hd line:List UInt8} (h1:hd.length≤100) (h2:line.length≤100) {i:Nat} (hi:i≤40):(eP hd (fun _=>line) i).length≤4100:=by
 rw [ES]
 have :i*line.length≤40*100:=Nat.mul_le_mul hi h2
 omega
theorem CW {hd line:List UInt8} (h1:hd.length≤100) (h2:line.length≤100) (most aB:Int) {n:Nat} (hn:n<40): ∀ r e m,e+r=n→j0 (m+r) line most (eP hd (fun _=>line) e) aB (n:Int) (e:Int)=j0 m line most (eP hd (fun _=>line) n) aB (n:Int) (n:Int)
 | 0, e, m, h => by obtain rfl : e = n := by omega
                    rfl
 | r+1,e,m,h=>by
  have h3:=ER h1 h2 (i:=e) (by omega)
  rw [show m+(r+1)=m+r+1 from by omega,j0.eq_2,if_pos (by omega),if_pos (by omega),ga (by omega) (by omega)]
  exact CW h1 h2 most aB hn r (e+1) m (by omega)
theorem Ku {line:List UInt8} {most aB:Int} {n:Nat} {text:List UInt8} (hn:n<40)
 (hm:most<(n:Int)→ ∃ s,fe text=some (s,⟨15,aB⟩))
 (hf: ¬ most<(n:Int)→ ∃ s:cU,fe text=some (s,⟨0,0⟩)∧s.ia.length+s.Insts.length+s.iS.length=n) (m:Nat):j0 (m+1) line most text aB (n:Int) (n:Int)=some true:=by
 rw [j0.eq_2,if_neg (by omega)]
 by_cases h:most<(n:Int)
 · obtain ⟨s,hs⟩:=hm h
   rw [hs,au,if_pos h,if_pos ⟨rfl,rfl⟩,CB]; rfl
 · obtain ⟨s,hs,hl⟩:=hf h
   have e1:aI ((s.ia.length:Int)+(s.Insts.length:Int))=((s.ia.length+s.Insts.length:Nat):Int):=by rw [ga (by omega) (by omega)]; omega
   have e2:aI (((s.ia.length+s.Insts.length:Nat):Int)+(s.iS.length:Int))=(n:Int):=by rw [ga (by omega) (by omega)]; omega
   rw [hs,au,if_neg h,if_pos rfl]
   dsimp only
   rw [e1,e2,if_pos rfl,CB]; rfl
theorem Iv:Lx k9 KS:=qz 20 (by decide+kernel)
theorem Km:Lx [] []:=fun n=>⟨[], .nil rfl,rfl⟩
theorem yd {line:List UInt8} {K:List Tk} {c:Nat} (hx:Lx line K) (hc:K.length=c) (h0:0<c) (hs:line.length - (dB line).length=0) (hla:line.getLast?=some 10) (kK:line.length≤100) {n:Nat} (hn:n<40) (most:Nat) (Pd:most<40)
 (hf: ∀ l,TT l k9 (fun _=>line) KS [] (fun _=>K) c 0 n→n≤most→ ∃ s j,eN (yt l 0)=some (s,yt l j)∧s.ia.length+s.Insts.length+s.iS.length=n)
 (hm: ∀ l,TT l k9 (fun _=>line) KS [] (fun _=>K) c 0 n→most<n→ ∃ s,eN (yt l 0)=some (s,yM l (4+c*most))) (aB:Int) (hv:aB=((eP k9 (fun _=>line) most).length:Int)) (m:Nat):
 j0 (m+1+n) line (most:Int) k9 aB (n:Int) 0=some true:=by
 have h1:k9.length≤100:=by decide
 have h3:=ER h1 kK (i:=n) (by omega)
 obtain ⟨l,ha,T⟩:=NJ (KR:= []) (tr:= []) Iv (fun _=>hx) Km (fun _=>hc) h0 (fun _=>hs) (by decide) (fun _=>hla) n (by rw [List.append_nil]; omega)
 rw [List.append_nil] at ha
 refine (CW h1 kK (most:Int) aB hn n 0 (m+1) (by omega)).trans (Ku hn (fun h=> ?_) (fun h=> ?_) m)
 · obtain ⟨s,hs⟩:=hm l T (by omega)
   refine ⟨z0, ?_⟩
   rw [K2 ha hs,hv]
   have :=T.pl most (by omega)
   rw [show KS.length=4 from rfl,Nat.add_zero] at this
   rw [this]
 · obtain ⟨s,j,hs,hl⟩:=hf l T (by omega)
   exact ⟨s,K3 ha hs,hl⟩
theorem Kv {what n:Int} (hw:0≤what∧what≤255) (hn:0≤n∧n≤255):xY what n=some true:=e9 50 fun k hk=>by
 show tP k what n=_
 unfold tP
 have Jo:aI n=n:=ga (by omega) (by omega)
 have HX:n.tmod 40=n % 40:=Int.tmod_eq_emod_of_nonneg hn.1
 obtain ⟨q,hq⟩: ∃ q:Nat,(q:Int)=n % 40:=⟨(n % 40).toNat,by omega⟩
 have nO:q<40:=by omega
 obtain ⟨k,rfl⟩: ∃ j,k=j+1+q:=⟨k - 1 - q,by omega⟩
 have h3:what.tmod 3=0∨what.tmod 3=1∨what.tmod 3=2:=by rw [Int.tmod_eq_emod_of_nonneg hw.1]; omega
 rw [if_pos (by decide),Jo,HX, ← hq]
 rcases h3 with h | h | h <;> rw [h,if_pos (by decide),if_pos (by decide),if_pos (by decide),if_pos (by decide),if_pos (by decide),if_pos (by decide)]
 · exact yd (K:=KC) (c:=8) (qz 20 (by decide+kernel)) rfl (by decide) (by decide) (by decide) (by decide) nO 8 (by decide)
    (fun l T h=>by obtain ⟨s,j,h1,h2,h3,h4⟩:=Hx T h; exact ⟨s,j,h1,by omega⟩) (fun l T h=>Kq T h nO) _ (by decide+kernel) k
 · exact yd (K:=KI) (c:=11) (qz 20 (by decide+kernel)) rfl (by decide) (by decide) (by decide) (by decide) nO 12 (by decide)
    (fun l T h=>by obtain ⟨s,j,h1,h2,h3,h4⟩:=Hy T h; exact ⟨s,j,h1,by omega⟩) (fun l T h=>many1 T h nO) _ (by decide+kernel) k
 · exact yd (K:=KN) (c:=13) (qz 20 (by decide+kernel)) rfl (by decide) (by decide) (by decide) (by decide) nO 24 (by decide)
    (fun l T h=>by obtain ⟨s,j,h1,h2,h3,h4⟩:=Hz T h; exact ⟨s,j,h1,by omega⟩) (fun l T h=>Kr T h nO) _ (by decide+kernel) k
end Go.Sy.Ex
