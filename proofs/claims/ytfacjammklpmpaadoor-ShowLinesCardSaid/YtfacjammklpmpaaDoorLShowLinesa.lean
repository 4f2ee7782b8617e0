import Derived.Shelf.Strings.Builder1
import Derived.Shelf.Strings.Builder2
import Derived.Shelf.Strings.OnBuilder
import Derived.Shelf.Strings.BuilderF
import Derived.Shelf.Strings.BuilderK
import Derived.Shelf.Strings.Builder2Cap
import Derived.Shelf.Strconv.Itoa0
import Derived.Shelf.Strconv.Itoa1
import Derived.Shelf.LaysM
import Derived.Shelf.Strconv.Itoa2
import Derived.Shelf.Strconv.Itoa3
import Derived.Shelf.Strconv.Itoa4
import Derived.Shelf.Strings.Prefix
import Derived.Shelf.Bits.Mul64
import Derived.Shelf.Strings.Repeat
import Derived.Lib.ItoaMem
import Derived.Stop.LaidErr
import Derived.Shelf.Vars
import Derived.MakeChecks
import Derived.LaidHandle
import Derived.ChangeSame
import Derived.ChangeVars
import Derived.JoinedOf
import Derived.RowKit
import Derived.HandedShaped
import Derived.LaidMore
import Derived.LaidLaws
import Derived.Lay
import Derived.Lib.Join
import Derived.Test.YtfacjammklpmpaaDoorProg
import Derived.Test.YtfacjammklpmpaaDoorRows
import Derived.Test.YtfacjammklpmpaaDoorSc
set_option linter.unusedVariables false
set_option linter.unusedSimpArgs false
/-
 DERIVED:THE SHELF's CONTRACTS AT THIS DUMP,IN PLAIN WORDS (tools/lay-plain.mjs out of 'XAcL.lean',which tools/lay-shelf.mjs wrote):THE SAME DECLARATIONS UNDER THE SAME NAMES: 'import', 'namespace', 'open', 'def', 'theorem' AND NOTHING ELSE:no command of the shelf's:FOR A HAND-IN. Each laying:the table of numbers ('.._ren') and one theorem,a field a fact of the dump's own or the kernel's comparison; each contract:ONE APPLICATION.
-/
namespace Go.Proofs
open Go.Shelf
def Tryd.K1:Go.Shelf.Ren:=⟨fun | 173=>37 | 246=>49 | 283=>62 | 284=>63 | 285=>64 | 286=>65 | 129=>81 | 317=>80 | 318=>82 | 319=>83 | 320=>84 | 337=>91 | 338=>92 | n=>n,fun | 2=>2 | 3=>3 | 9=>9 | 4=>4 | 171=>124 | 0=>0 | 53=>125 | 37=>25 | 5=>5 | 173=>128 | 212=>143 | 51=>144 | 20=>20 | 213=>145 | 46=>131 | 232=>162 | 233=>163 | n=>n,fun | 17=>0 | 18=>2 | 19=>3 | n=>n⟩
theorem Tryd.K0:Go.Proofs.GR.n173 Tryd.prog Tryd.K1:= {
 mixed:=by kernel_rfl
 f129:=Tryd.func81.trans (congrArg some (by kernel_rfl))
 f173:=Tryd.func37.trans (congrArg some (by kernel_rfl))
 f246:=Tryd.func49.trans (congrArg some (by kernel_rfl))
 f283:=Tryd.func62.trans (congrArg some (by kernel_rfl))
 f284:=Tryd.func63.trans (congrArg some (by kernel_rfl))
 f285:=Tryd.func64.trans (congrArg some (by kernel_rfl))
 f286:=Tryd.func65.trans (congrArg some (by kernel_rfl))
 f317:=Tryd.func80.trans (congrArg some (by kernel_rfl))
 f318:=Tryd.func82.trans (congrArg some (by kernel_rfl))
 f319:=Tryd.func83.trans (congrArg some (by kernel_rfl))
 f320:=Tryd.func84.trans (congrArg some (by kernel_rfl))
 f337:=Tryd.func91.trans (congrArg some (by kernel_rfl))
 f338:=Tryd.func92.trans (congrArg some (by kernel_rfl))
 t0:=Tryd.underlying0
 a0:=Tryd.isAgg0
 z0:=Tryd.sizeOf0
 v0:=Tryd.zeroValue0
 t2:=Tryd.underlying2
 a2:=Tryd.isAgg2
 z2:=Tryd.sizeOf2
 v2:=Tryd.zeroValue2
 t3:=Tryd.underlying3
 a3:=Tryd.isAgg3
 z3:=Tryd.sizeOf3
 v3:=Tryd.zeroValue3
 t4:=Tryd.underlying4
 a4:=Tryd.isAgg4
 z4:=Tryd.sizeOf4
 v4:=Tryd.zeroValue4
 t5:=Tryd.underlying5
 a5:=Tryd.isAgg5
 z5:=Tryd.sizeOf5
 v5:=Tryd.zeroValue5
 t9:=Tryd.underlying9
 a9:=Tryd.isAgg9
 z9:=Tryd.sizeOf9
 v9:=Tryd.zeroValue9
 t20:=Tryd.underlying20
 a20:=Tryd.isAgg20
 z20:=Tryd.sizeOf20
 v20:=Tryd.zeroValue20
 t37:=Tryd.underlying25
 a37:=Tryd.isAgg25
 z37:=Tryd.sizeOf25
 v37:=Tryd.zeroValue25
 t46:=Tryd.underlying131
 a46:=Tryd.isAgg131
 z46:=Tryd.sizeOf131
 v46:=Tryd.zeroValue131
 t51:=Tryd.underlying144
 a51:=Tryd.isAgg144
 z51:=Tryd.sizeOf144
 v51:=Tryd.zeroValue144
 t53:=Tryd.underlying125
 a53:=Tryd.isAgg125
 z53:=Tryd.sizeOf125
 v53:=Tryd.zeroValue125
 t171:=Tryd.underlying124
 a171:=Tryd.isAgg124
 z171:=Tryd.sizeOf124
 v171:=Tryd.zeroValue124
 t173:=Tryd.underlying128
 a173:=Tryd.isAgg128
 z173:=Tryd.sizeOf128
 v173:=Tryd.zeroValue128
 t212:=Tryd.underlying143
 a212:=Tryd.isAgg143
 z212:=Tryd.sizeOf143
 v212:=Tryd.zeroValue143
 t213:=Tryd.underlying145
 a213:=Tryd.isAgg145
 z213:=Tryd.sizeOf145
 t232:=Tryd.underlying162
 a232:=Tryd.isAgg162
 z232:=Tryd.sizeOf162
 v232:=Tryd.zeroValue162
 t233:=Tryd.underlying163
 a233:=Tryd.isAgg163
 z233:=Tryd.sizeOf163
 v233:=Tryd.zeroValue163
 g17:=by kernel_rfl
 g18:=by kernel_rfl
 g19:=by kernel_rfl
 i0:=by kernel_rfl
 i2:=by kernel_rfl
 i3:=by kernel_rfl
 i4:=by kernel_rfl
 i5:=by kernel_rfl
 i9:=by kernel_rfl
 i20:=by kernel_rfl
 i37:=by kernel_rfl
 i46:=by kernel_rfl
 i51:=by kernel_rfl
 i53:=by kernel_rfl
 i171:=by kernel_rfl
 i173:=by kernel_rfl
 Kz:=by kernel_rfl
 KA:=by kernel_rfl
 KB:=by kernel_rfl
 Le:=by kernel_rfl
 Lf:=by kernel_rfl
 Lg:=by kernel_rfl }
open Go.RowKit Go.Sort Go.Lib in
theorem Tryd.FU (n:Int) (h0: -9223372036854775808≤n) (h1:n≤9223372036854775807) (w:World) (yX:Lib.ru Tryd.prog w "internal/strconv.uint64pow10" .u64 Lib.pow10Tab):
 Calls Tryd.prog 37 #[.int .i64 n, .int .i64 10] w fun e w'=>e= .returned (.string ⟨(Lib.dy n).toArray⟩)∧ ∃ k os,w'=grow (w.drewN k) os:=Any.FU Tryd.K0 n h0 h1 w yX
def Tryd.zp:Go.Shelf.Ren:=⟨fun | 169=>20 | n=>n,fun | 70=>62 | 9=>9 | 0=>0 | 72=>64 | 37=>25 | 127=>88 | 3=>3 | 5=>5 | n=>n,fun | n=>n⟩
theorem Tryd.KX:Go.Proofs.Lays.n169 Tryd.prog Tryd.zp:= {
 mixed:=by kernel_rfl
 f169:=Tryd.func20.trans (congrArg some (by kernel_rfl))
 t0:=Tryd.underlying0
 a0:=Tryd.isAgg0
 z0:=Tryd.sizeOf0
 v0:=Tryd.zeroValue0
 t3:=Tryd.underlying3
 a3:=Tryd.isAgg3
 z3:=Tryd.sizeOf3
 v3:=Tryd.zeroValue3
 t9:=Tryd.underlying9
 a9:=Tryd.isAgg9
 z9:=Tryd.sizeOf9
 v9:=Tryd.zeroValue9
 t37:=Tryd.underlying25
 a37:=Tryd.isAgg25
 z37:=Tryd.sizeOf25
 v37:=Tryd.zeroValue25
 t70:=Tryd.underlying62
 a70:=Tryd.isAgg62
 z70:=Tryd.sizeOf62
 v70:=Tryd.zeroValue62
 t72:=Tryd.underlying64
 a72:=Tryd.isAgg64
 z72:=Tryd.sizeOf64
 v72:=Tryd.zeroValue64
 t127:=Tryd.underlying88
 a127:=Tryd.isAgg88
 z127:=Tryd.sizeOf88
 v127:=Tryd.zeroValue88 }
theorem Tryd.GN:Builder.Extra Tryd.prog Tryd.zp:= {
 sizeBuilder:=by kernel_rfl
 liesBuilder:=by kernel_rfl
 t5:=Tryd.underlying5
 a5:=Tryd.isAgg5
 z5:=Tryd.sizeOf5
 v5:=Tryd.zeroValue5
 infoByte:=by kernel_rfl
 cellsByte:=by kernel_rfl
 sizeByte:=by kernel_rfl
 neB5:=by decide }
open Go.RowKit in
def Tryd.DY:Go.Shelf.Ren:=⟨fun | 156=>22 | 165=>36 | 166=>18 | 169=>20 | 240=>34 | 241=>50 | 276=>48 | 277=>66 | n=>n,fun | 31=>27 | 9=>9 | 3=>3 | 4=>4 | 0=>0 | 20=>20 | 72=>64 | 76=>67 | 70=>62 | 37=>25 | 75=>66 | 127=>88 | 164=>105 | 5=>5 | 80=>70 | n=>n,fun | n=>n⟩
theorem Tryd.DX:Go.Proofs.Lays.n156 Tryd.prog Tryd.DY:= {
 mixed:=by kernel_rfl
 f156:=Tryd.func22.trans (congrArg some (by kernel_rfl))
 f165:=Tryd.func36.trans (congrArg some (by kernel_rfl))
 f166:=Tryd.func18.trans (congrArg some (by kernel_rfl))
 f169:=Tryd.func20.trans (congrArg some (by kernel_rfl))
 f240:=Tryd.func34.trans (congrArg some (by kernel_rfl))
 f241:=Tryd.func50.trans (congrArg some (by kernel_rfl))
 f276:=Tryd.func48.trans (congrArg some (by kernel_rfl))
 f277:=Tryd.func66.trans (congrArg some (by kernel_rfl))
 t0:=Tryd.underlying0
 a0:=Tryd.isAgg0
 z0:=Tryd.sizeOf0
 v0:=Tryd.zeroValue0
 t3:=Tryd.underlying3
 a3:=Tryd.isAgg3
 z3:=Tryd.sizeOf3
 v3:=Tryd.zeroValue3
 t4:=Tryd.underlying4
 a4:=Tryd.isAgg4
 z4:=Tryd.sizeOf4
 v4:=Tryd.zeroValue4
 t9:=Tryd.underlying9
 a9:=Tryd.isAgg9
 z9:=Tryd.sizeOf9
 v9:=Tryd.zeroValue9
 t20:=Tryd.underlying20
 a20:=Tryd.isAgg20
 z20:=Tryd.sizeOf20
 v20:=Tryd.zeroValue20
 t31:=Tryd.underlying27
 a31:=Tryd.isAgg27
 z31:=Tryd.sizeOf27
 v31:=Tryd.zeroValue27
 t37:=Tryd.underlying25
 a37:=Tryd.isAgg25
 z37:=Tryd.sizeOf25
 v37:=Tryd.zeroValue25
 t70:=Tryd.underlying62
 a70:=Tryd.isAgg62
 z70:=Tryd.sizeOf62
 v70:=Tryd.zeroValue62
 t72:=Tryd.underlying64
 a72:=Tryd.isAgg64
 z72:=Tryd.sizeOf64
 v72:=Tryd.zeroValue64
 t75:=Tryd.underlying66
 a75:=Tryd.isAgg66
 z75:=Tryd.sizeOf66
 v75:=Tryd.zeroValue66
 t76:=Tryd.underlying67
 a76:=Tryd.isAgg67
 z76:=Tryd.sizeOf67
 v76:=Tryd.zeroValue67
 t127:=Tryd.underlying88
 a127:=Tryd.isAgg88
 z127:=Tryd.sizeOf88
 v127:=Tryd.zeroValue88
 t164:=Tryd.underlying105
 a164:=Tryd.isAgg105
 z164:=Tryd.sizeOf105
 v164:=Tryd.zeroValue105 }
theorem Tryd.Bn:Builder.Extra Tryd.prog Tryd.DY:= {
 sizeBuilder:=by kernel_rfl
 liesBuilder:=by kernel_rfl
 t5:=Tryd.underlying5
 a5:=Tryd.isAgg5
 z5:=Tryd.sizeOf5
 v5:=Tryd.zeroValue5
 infoByte:=by kernel_rfl
 cellsByte:=by kernel_rfl
 sizeByte:=by kernel_rfl
 neB5:=by decide }
open Go.RowKit in
theorem Tryd.FW (bk o c:Nat) (xs:List ByteArray) (sep:ByteArray) (w:World) (hcells: ∀ (j:Nat) x,xs[j]? =some x→w.cell? ⟨bk,o+j,none⟩=some (.string x)) (hbk:bk<w.heap.size) (hN:xs.length≤140737488355328) (hcap:xs.length≤c) (hlen:(Lib.join (xs.map (·.data.toList)) sep.data.toList).length≤140737488355328):
 Calls Tryd.prog 22 #[.slice (some ⟨bk,o,none⟩) xs.length c, .string sep] w fun e w'=>e= .returned (.string ⟨(Lib.join (xs.map (·.data.toList)) sep.data.toList).toArray⟩)∧Below w.heap.size w w':=Any.FW Tryd.DX Tryd.Bn bk o c xs sep w hcells hbk hN hcap hlen
open Go.RowKit in
theorem Tryd.FX (a:Option Addr) (c:Nat) (sep:ByteArray) (w:World):
 Calls Tryd.prog 22 #[.slice a 0 c, .string sep] w fun e w'=>e= .returned (.string ⟨#[]⟩)∧w'=w:=Any.FX Tryd.DX Tryd.Bn a c sep w
def Tryd.DW:Go.Shelf.Ren:=⟨fun | 105=>51 | 212=>67 | 99=>68 | 165=>36 | 166=>18 | 170=>69 | 169=>20 | 263=>85 | 264=>86 | 206=>87 | 240=>34 | 241=>50 | 276=>48 | 277=>66 | n=>n,fun | 9=>9 | 3=>3 | 4=>4 | 20=>20 | 0=>0 | 46=>131 | 109=>132 | 5=>5 | 72=>64 | 76=>67 | 51=>144 | 146=>148 | 53=>125 | 148=>150 | 70=>62 | 37=>25 | 75=>66 | 127=>88 | 164=>105 | 80=>70 | n=>n,fun | n=>n⟩
theorem Tryd.KV:Go.Proofs.Lays.n105 Tryd.prog Tryd.DW:= {
 mixed:=by kernel_rfl
 f99:=Tryd.func68.trans (congrArg some (by kernel_rfl))
 f105:=Tryd.func51.trans (congrArg some (by kernel_rfl))
 f165:=Tryd.func36.trans (congrArg some (by kernel_rfl))
 f166:=Tryd.func18.trans (congrArg some (by kernel_rfl))
 f169:=Tryd.func20.trans (congrArg some (by kernel_rfl))
 f170:=Tryd.func69.trans (congrArg some (by kernel_rfl))
 f206:=Tryd.func87.trans (congrArg some (by kernel_rfl))
 f212:=Tryd.func67.trans (congrArg some (by kernel_rfl))
 f240:=Tryd.func34.trans (congrArg some (by kernel_rfl))
 f241:=Tryd.func50.trans (congrArg some (by kernel_rfl))
 f263:=Tryd.func85.trans (congrArg some (by kernel_rfl))
 f264:=Tryd.func86.trans (congrArg some (by kernel_rfl))
 f276:=Tryd.func48.trans (congrArg some (by kernel_rfl))
 f277:=Tryd.func66.trans (congrArg some (by kernel_rfl))
 t0:=Tryd.underlying0
 a0:=Tryd.isAgg0
 z0:=Tryd.sizeOf0
 v0:=Tryd.zeroValue0
 t3:=Tryd.underlying3
 a3:=Tryd.isAgg3
 z3:=Tryd.sizeOf3
 v3:=Tryd.zeroValue3
 t4:=Tryd.underlying4
 a4:=Tryd.isAgg4
 z4:=Tryd.sizeOf4
 v4:=Tryd.zeroValue4
 t5:=Tryd.underlying5
 a5:=Tryd.isAgg5
 z5:=Tryd.sizeOf5
 v5:=Tryd.zeroValue5
 t9:=Tryd.underlying9
 a9:=Tryd.isAgg9
 z9:=Tryd.sizeOf9
 v9:=Tryd.zeroValue9
 t20:=Tryd.underlying20
 a20:=Tryd.isAgg20
 z20:=Tryd.sizeOf20
 v20:=Tryd.zeroValue20
 t37:=Tryd.underlying25
 a37:=Tryd.isAgg25
 z37:=Tryd.sizeOf25
 v37:=Tryd.zeroValue25
 t46:=Tryd.underlying131
 a46:=Tryd.isAgg131
 z46:=Tryd.sizeOf131
 v46:=Tryd.zeroValue131
 t51:=Tryd.underlying144
 a51:=Tryd.isAgg144
 z51:=Tryd.sizeOf144
 v51:=Tryd.zeroValue144
 t53:=Tryd.underlying125
 a53:=Tryd.isAgg125
 z53:=Tryd.sizeOf125
 v53:=Tryd.zeroValue125
 t70:=Tryd.underlying62
 a70:=Tryd.isAgg62
 z70:=Tryd.sizeOf62
 v70:=Tryd.zeroValue62
 t72:=Tryd.underlying64
 a72:=Tryd.isAgg64
 z72:=Tryd.sizeOf64
 v72:=Tryd.zeroValue64
 t75:=Tryd.underlying66
 a75:=Tryd.isAgg66
 z75:=Tryd.sizeOf66
 v75:=Tryd.zeroValue66
 t76:=Tryd.underlying67
 a76:=Tryd.isAgg67
 z76:=Tryd.sizeOf67
 v76:=Tryd.zeroValue67
 t109:=Tryd.underlying132
 a109:=Tryd.isAgg132
 z109:=Tryd.sizeOf132
 v109:=Tryd.zeroValue132
 t127:=Tryd.underlying88
 a127:=Tryd.isAgg88
 z127:=Tryd.sizeOf88
 v127:=Tryd.zeroValue88
 t146:=Tryd.underlying148
 a146:=Tryd.isAgg148
 z146:=Tryd.sizeOf148
 v146:=Tryd.zeroValue148
 t148:=Tryd.underlying150
 a148:=Tryd.isAgg150
 z148:=Tryd.sizeOf150
 v148:=Tryd.zeroValue150
 t164:=Tryd.underlying105
 a164:=Tryd.isAgg105
 z164:=Tryd.sizeOf105
 v164:=Tryd.zeroValue105 }
theorem Tryd.GL:Builder.Extra Tryd.prog Tryd.DW:= {
 sizeBuilder:=by kernel_rfl
 liesBuilder:=by kernel_rfl
 t5:=Tryd.underlying5
 a5:=Tryd.isAgg5
 z5:=Tryd.sizeOf5
 v5:=Tryd.zeroValue5
 infoByte:=by kernel_rfl
 cellsByte:=by kernel_rfl
 sizeByte:=by kernel_rfl
 neB5:=by decide }
open Go.RowKit Go.Lib in
theorem Tryd.FY (s:ByteArray) (c:Nat) (w:World) (hc:c≤9223372036854775807) (hlen:s.size*c≤140737488355328):
 Calls Tryd.prog 51 #[.string s, .int .i64 c] w fun e w'=>e= .returned (.string ⟨(Lib.MO s.data.toList c).toArray⟩)∧Below w.heap.size w w':=Any.FY Tryd.KV Tryd.GL s c w hc hlen
def Tryd.KZ:Go.Shelf.Ren:=⟨fun | 171=>19 | 243=>35 | 246=>49 | 283=>62 | 284=>63 | 285=>64 | 286=>65 | 129=>81 | 317=>80 | 318=>82 | 319=>83 | 320=>84 | 337=>91 | 338=>92 | n=>n,fun | 3=>3 | 9=>9 | 2=>2 | 4=>4 | 171=>124 | 0=>0 | 53=>125 | 37=>25 | 5=>5 | 173=>128 | 212=>143 | 51=>144 | 20=>20 | 213=>145 | 46=>131 | 232=>162 | 233=>163 | n=>n,fun | 17=>0 | 18=>2 | 19=>3 | n=>n⟩
theorem Tryd.KY:Go.Proofs.GR.n171 Tryd.prog Tryd.KZ:= {
 mixed:=by kernel_rfl
 f129:=Tryd.func81.trans (congrArg some (by kernel_rfl))
 f171:=Tryd.func19.trans (congrArg some (by kernel_rfl))
 f243:=Tryd.func35.trans (congrArg some (by kernel_rfl))
 f246:=Tryd.func49.trans (congrArg some (by kernel_rfl))
 f283:=Tryd.func62.trans (congrArg some (by kernel_rfl))
 f284:=Tryd.func63.trans (congrArg some (by kernel_rfl))
 f285:=Tryd.func64.trans (congrArg some (by kernel_rfl))
 f286:=Tryd.func65.trans (congrArg some (by kernel_rfl))
 f317:=Tryd.func80.trans (congrArg some (by kernel_rfl))
 f318:=Tryd.func82.trans (congrArg some (by kernel_rfl))
 f319:=Tryd.func83.trans (congrArg some (by kernel_rfl))
 f320:=Tryd.func84.trans (congrArg some (by kernel_rfl))
 f337:=Tryd.func91.trans (congrArg some (by kernel_rfl))
 f338:=Tryd.func92.trans (congrArg some (by kernel_rfl))
 t0:=Tryd.underlying0
 a0:=Tryd.isAgg0
 z0:=Tryd.sizeOf0
 v0:=Tryd.zeroValue0
 t2:=Tryd.underlying2
 a2:=Tryd.isAgg2
 z2:=Tryd.sizeOf2
 v2:=Tryd.zeroValue2
 t3:=Tryd.underlying3
 a3:=Tryd.isAgg3
 z3:=Tryd.sizeOf3
 v3:=Tryd.zeroValue3
 t4:=Tryd.underlying4
 a4:=Tryd.isAgg4
 z4:=Tryd.sizeOf4
 v4:=Tryd.zeroValue4
 t5:=Tryd.underlying5
 a5:=Tryd.isAgg5
 z5:=Tryd.sizeOf5
 v5:=Tryd.zeroValue5
 t9:=Tryd.underlying9
 a9:=Tryd.isAgg9
 z9:=Tryd.sizeOf9
 v9:=Tryd.zeroValue9
 t20:=Tryd.underlying20
 a20:=Tryd.isAgg20
 z20:=Tryd.sizeOf20
 v20:=Tryd.zeroValue20
 t37:=Tryd.underlying25
 a37:=Tryd.isAgg25
 z37:=Tryd.sizeOf25
 v37:=Tryd.zeroValue25
 t46:=Tryd.underlying131
 a46:=Tryd.isAgg131
 z46:=Tryd.sizeOf131
 v46:=Tryd.zeroValue131
 t51:=Tryd.underlying144
 a51:=Tryd.isAgg144
 z51:=Tryd.sizeOf144
 v51:=Tryd.zeroValue144
 t53:=Tryd.underlying125
 a53:=Tryd.isAgg125
 z53:=Tryd.sizeOf125
 v53:=Tryd.zeroValue125
 t171:=Tryd.underlying124
 a171:=Tryd.isAgg124
 z171:=Tryd.sizeOf124
 v171:=Tryd.zeroValue124
 t173:=Tryd.underlying128
 a173:=Tryd.isAgg128
 z173:=Tryd.sizeOf128
 v173:=Tryd.zeroValue128
 t212:=Tryd.underlying143
 a212:=Tryd.isAgg143
 z212:=Tryd.sizeOf143
 v212:=Tryd.zeroValue143
 t213:=Tryd.underlying145
 a213:=Tryd.isAgg145
 z213:=Tryd.sizeOf145
 t232:=Tryd.underlying162
 a232:=Tryd.isAgg162
 z232:=Tryd.sizeOf162
 v232:=Tryd.zeroValue162
 t233:=Tryd.underlying163
 a233:=Tryd.isAgg163
 z233:=Tryd.sizeOf163
 v233:=Tryd.zeroValue163
 g17:=by kernel_rfl
 g18:=by kernel_rfl
 g19:=by kernel_rfl
 i0:=by kernel_rfl
 i2:=by kernel_rfl
 i3:=by kernel_rfl
 i4:=by kernel_rfl
 i5:=by kernel_rfl
 i9:=by kernel_rfl
 i20:=by kernel_rfl
 i37:=by kernel_rfl
 i46:=by kernel_rfl
 i51:=by kernel_rfl
 i53:=by kernel_rfl
 i171:=by kernel_rfl
 i173:=by kernel_rfl
 Kz:=by kernel_rfl
 KA:=by kernel_rfl
 KB:=by kernel_rfl
 Le:=by kernel_rfl
 Lf:=by kernel_rfl
 Lg:=by kernel_rfl }
open Go.RowKit Go.Sort Go.Lib in
theorem Tryd.FV (n:Int) (h0: -9223372036854775808≤n) (h1:n≤9223372036854775807) (w:World) (yX:Lib.ru Tryd.prog w "internal/strconv.uint64pow10" .u64 Lib.pow10Tab):
 Calls Tryd.prog 19 #[.int .i64 n] w fun e w'=>e= .returned (.string ⟨(Lib.dy n).toArray⟩)∧ ∃ k os,w'=grow (w.drewN k) os:=Any.FV Tryd.KY n h0 h1 w yX
end Go.Proofs
namespace Go.Proofs
open Go.Shelf
def Tryd.zo:Go.Shelf.Ren:=⟨fun | 166=>18 | 240=>34 | 276=>48 | n=>n,fun | 0=>0 | 3=>3 | 4=>4 | 5=>5 | 9=>9 | 20=>20 | 31=>27 | 37=>25 | 70=>62 | 72=>64 | 75=>66 | 76=>67 | 80=>70 | 127=>88 | 164=>105 | n=>n,fun | n=>n⟩
theorem Tryd.KW:Go.Proofs.Lays.n166 Tryd.prog Tryd.zo:= {
 mixed:=by kernel_rfl
 f166:=Tryd.func18.trans (congrArg some (by kernel_rfl))
 f240:=Tryd.func34.trans (congrArg some (by kernel_rfl))
 f276:=Tryd.func48.trans (congrArg some (by kernel_rfl))
 t0:=Tryd.underlying0
 a0:=Tryd.isAgg0
 z0:=Tryd.sizeOf0
 v0:=Tryd.zeroValue0
 t3:=Tryd.underlying3
 a3:=Tryd.isAgg3
 z3:=Tryd.sizeOf3
 v3:=Tryd.zeroValue3
 t4:=Tryd.underlying4
 a4:=Tryd.isAgg4
 z4:=Tryd.sizeOf4
 v4:=Tryd.zeroValue4
 t9:=Tryd.underlying9
 a9:=Tryd.isAgg9
 z9:=Tryd.sizeOf9
 v9:=Tryd.zeroValue9
 t20:=Tryd.underlying20
 a20:=Tryd.isAgg20
 z20:=Tryd.sizeOf20
 v20:=Tryd.zeroValue20
 t37:=Tryd.underlying25
 a37:=Tryd.isAgg25
 z37:=Tryd.sizeOf25
 v37:=Tryd.zeroValue25
 t70:=Tryd.underlying62
 a70:=Tryd.isAgg62
 z70:=Tryd.sizeOf62
 v70:=Tryd.zeroValue62
 t72:=Tryd.underlying64
 a72:=Tryd.isAgg64
 z72:=Tryd.sizeOf64
 v72:=Tryd.zeroValue64
 t75:=Tryd.underlying66
 a75:=Tryd.isAgg66
 z75:=Tryd.sizeOf66
 v75:=Tryd.zeroValue66
 t164:=Tryd.underlying105
 a164:=Tryd.isAgg105
 z164:=Tryd.sizeOf105
 v164:=Tryd.zeroValue105 }
theorem Tryd.GM:Builder.Extra Tryd.prog Tryd.zo:= {
 sizeBuilder:=by kernel_rfl
 liesBuilder:=by kernel_rfl
 t5:=Tryd.underlying5
 a5:=Tryd.isAgg5
 z5:=Tryd.sizeOf5
 v5:=Tryd.zeroValue5
 infoByte:=by kernel_rfl
 cellsByte:=by kernel_rfl
 sizeByte:=by kernel_rfl
 neB5:=by decide }
def Tryd.vC:Go.Shelf.Ren:=⟨fun | 167=>89 | 240=>34 | 276=>48 | n=>n,fun | 0=>0 | 3=>3 | 4=>4 | 5=>5 | 9=>9 | 20=>20 | 31=>27 | 37=>25 | 70=>62 | 72=>64 | 75=>66 | 76=>67 | 80=>70 | 127=>88 | 164=>105 | n=>n,fun | n=>n⟩
theorem Tryd.DZ:Go.Proofs.Lays.n167 Tryd.prog Tryd.vC:= {
 mixed:=by kernel_rfl
 f167:=Tryd.func89.trans (congrArg some (by kernel_rfl))
 f240:=Tryd.func34.trans (congrArg some (by kernel_rfl))
 f276:=Tryd.func48.trans (congrArg some (by kernel_rfl))
 t0:=Tryd.underlying0
 a0:=Tryd.isAgg0
 z0:=Tryd.sizeOf0
 v0:=Tryd.zeroValue0
 t4:=Tryd.underlying4
 a4:=Tryd.isAgg4
 z4:=Tryd.sizeOf4
 v4:=Tryd.zeroValue4
 t5:=Tryd.underlying5
 a5:=Tryd.isAgg5
 z5:=Tryd.sizeOf5
 v5:=Tryd.zeroValue5
 t9:=Tryd.underlying9
 a9:=Tryd.isAgg9
 z9:=Tryd.sizeOf9
 v9:=Tryd.zeroValue9
 t20:=Tryd.underlying20
 a20:=Tryd.isAgg20
 z20:=Tryd.sizeOf20
 v20:=Tryd.zeroValue20
 t37:=Tryd.underlying25
 a37:=Tryd.isAgg25
 z37:=Tryd.sizeOf25
 v37:=Tryd.zeroValue25
 t70:=Tryd.underlying62
 a70:=Tryd.isAgg62
 z70:=Tryd.sizeOf62
 v70:=Tryd.zeroValue62
 t72:=Tryd.underlying64
 a72:=Tryd.isAgg64
 z72:=Tryd.sizeOf64
 v72:=Tryd.zeroValue64
 t75:=Tryd.underlying66
 a75:=Tryd.isAgg66
 z75:=Tryd.sizeOf66
 v75:=Tryd.zeroValue66
 t164:=Tryd.underlying105
 a164:=Tryd.isAgg105
 z164:=Tryd.sizeOf105
 v164:=Tryd.zeroValue105 }
theorem Tryd.Bo:Builder.Extra Tryd.prog Tryd.vC:= {
 sizeBuilder:=by kernel_rfl
 liesBuilder:=by kernel_rfl
 t5:=Tryd.underlying5
 a5:=Tryd.isAgg5
 z5:=Tryd.sizeOf5
 v5:=Tryd.zeroValue5
 infoByte:=by kernel_rfl
 cellsByte:=by kernel_rfl
 sizeByte:=by kernel_rfl
 neB5:=by decide }
end Go.Proofs
set_option maxRecDepth 100000
namespace Go.Sy.Ex
open Go.Sy Go.Proofs
noncomputable section
structure bO where
 lP:Int
 Sets:List (List (List UInt8))
 dK:List (List (List UInt8))
 At:Int
 deriving DecidableEq
def bO.z:bO:=⟨0,[],[],0⟩
structure an where
 Name:List UInt8
 cY:List UInt8
 dU:List UInt8
 fc:List UInt8
 Insts:List (List UInt8)
 ga:List (List UInt8)
 Cells:List bO
 At:Int
 deriving DecidableEq
def an.z:an:=⟨[],[],[],[],[],[],[],0⟩
structure aN where
 Name:List UInt8
 er:List UInt8
 mL:Int
 Ext:Int
 Prio:Int
 At:Int
 deriving DecidableEq
def aN.z:aN:=⟨[],[],0,0,0,0⟩
structure aC where
 Name:List UInt8
 aS:List UInt8
 Port:List UInt8
 To:List UInt8
 Cap:Int
 Prio:Int
 At:Int
 deriving DecidableEq
def aC.z:aC:=⟨[],[],[],[],0,0,0⟩
structure br where
 Name:List UInt8
 N:Int
 At:Int
 deriving DecidableEq
def br.z:br:=⟨[],0,0⟩
structure bh where
 Kind:Int
 N:Int
 Name:List UInt8
 Kids:List bh
 At:Int
def bh.z:bh:=⟨0,0,[],[],0⟩
structure bG where
 Kind:Int
 Name:List UInt8
 Event:List UInt8
 X:List bh
 N:Int
 ry:List bG
 ri:List bG
 At:Int
def bG.z:bG:=⟨0,[],[],[],0,[],[],0⟩
structure fU where
 Event:List UInt8
 Guard:List bh
 Target:List UInt8
 fS:List bG
 At:Int
def fU.z:fU:=⟨[],[],[],[],0⟩
structure bM where
 Kind:Int
 Name:List UInt8
 Entry:List bG
 Exit:List bG
 Trans:List fU
 Kids:List bM
 At:Int
def bM.z:bM:=⟨0,[],[],[],[],[],0⟩
structure fH where
 Name:List UInt8
 Steps:Int
 Fuel:Int
 rz:List br
 wK:List br
 wT:List br
 wR:List bM
 At:Int
def fH.z:fH:=⟨[],0,0,[],[],[],[],0⟩
structure fI where
 qW:Int
 qY:List fH
 Insts:List aN
 ga:List aC
 wI:List an
def fI.z:fI:=⟨0,[],[],[],[]⟩
def C:Nat→Type
 | 0=>Int×Int×Int
 | 1=>bO
 | 2=>an
 | 3=>Unit
 | 4=>List UInt8×List UInt8×List UInt8×List UInt8×List UInt8×List UInt8
 | 5=>aN
 | 6=>aC
 | 7=>fI
 | 8=>fH
 | 9=>br
 | 10=>bM
 | 11=>bG
 | 12=>bh
 | 13=>fU
 | 14=>List UInt8×List UInt8×List UInt8×List UInt8×List UInt8×List UInt8×List UInt8×List UInt8×List UInt8×List UInt8×List UInt8×List UInt8×List UInt8
 | 15=>List UInt8×List UInt8×List UInt8×List UInt8×List UInt8×List UInt8×List UInt8×List UInt8×List UInt8×List UInt8×List UInt8×List UInt8×List UInt8×List UInt8×List UInt8×List UInt8×List UInt8×List UInt8×List UInt8×List UInt8
 | _+16=>Unit
def F:Nat→List Ty
 | 0=> [.int .u16, .int .u16, .int .u16]
 | 1=> [.int .i64, .sl (.sl .str), .sl (.sl .str), .int .i64]
 | 2=> [.str, .str, .str, .str, .sl .str, .sl .str, .sl (.st 1), .int .i64]
 | 3=> []
 | 4=> [.str, .str, .str, .str, .str, .str]
 | 5=> [.str, .str, .int .i64, .int .i64, .int .i64, .int .i64]
 | 6=> [.str, .str, .str, .str, .int .i64, .int .i64, .int .i64]
 | 7=> [.int .i64, .sl (.st 8), .sl (.st 5), .sl (.st 6), .sl (.st 2)]
 | 8=> [.str, .int .i64, .int .i64, .sl (.st 9), .sl (.st 9), .sl (.st 9), .sl (.st 10), .int .i64]
 | 9=> [.str, .int .i64, .int .i64]
 | 10=> [.int .i64, .str, .sl (.st 11), .sl (.st 11), .sl (.st 13), .sl (.st 10), .int .i64]
 | 11=> [.int .i64, .str, .str, .sl (.st 12), .int .i64, .sl (.st 11), .sl (.st 11), .int .i64]
 | 12=> [.int .i64, .int .i64, .str, .sl (.st 12), .int .i64]
 | 13=> [.str, .sl (.st 12), .str, .sl (.st 11), .int .i64]
 | 14=> [.str, .str, .str, .str, .str, .str, .str, .str, .str, .str, .str, .str, .str]
 | 15=> [.str, .str, .str, .str, .str, .str, .str, .str, .str, .str, .str, .str, .str, .str, .str, .str, .str, .str, .str, .str]
 | _+16=> []
def ex:(t:Nat)→C t→ag C (F t)
 | 0,(x:Int×Int×Int)=>(x.1,x.2.1,x.2.2)
 | 1,(x:bO)=>(x.lP,x.Sets,x.dK,x.At)
 | 2,(x:an)=>(x.Name,x.cY,x.dU,x.fc,x.Insts,x.ga,x.Cells,x.At)
 | 3,_=>()
 | 4,(x:List UInt8×List UInt8×List UInt8×List UInt8×List UInt8×List UInt8)=>(x.1,x.2.1,x.2.2.1,x.2.2.2.1,x.2.2.2.2.1,x.2.2.2.2.2)
 | 5,(x:aN)=>(x.Name,x.er,x.mL,x.Ext,x.Prio,x.At)
 | 6,(x:aC)=>(x.Name,x.aS,x.Port,x.To,x.Cap,x.Prio,x.At)
 | 7,(x:fI)=>(x.qW,x.qY,x.Insts,x.ga,x.wI)
 | 8,(x:fH)=>(x.Name,x.Steps,x.Fuel,x.rz,x.wK,x.wT,x.wR,x.At)
 | 9,(x:br)=>(x.Name,x.N,x.At)
 | 10,(x:bM)=>(x.Kind,x.Name,x.Entry,x.Exit,x.Trans,x.Kids,x.At)
 | 11,(x:bG)=>(x.Kind,x.Name,x.Event,x.X,x.N,x.ry,x.ri,x.At)
 | 12,(x:bh)=>(x.Kind,x.N,x.Name,x.Kids,x.At)
 | 13,(x:fU)=>(x.Event,x.Guard,x.Target,x.fS,x.At)
 | 14,(x:List UInt8×List UInt8×List UInt8×List UInt8×List UInt8×List UInt8×List UInt8×List UInt8×List UInt8×List UInt8×List UInt8×List UInt8×List UInt8)=>(x.1,x.2.1,x.2.2.1,x.2.2.2.1,x.2.2.2.2.1,x.2.2.2.2.2.1,x.2.2.2.2.2.2.1,x.2.2.2.2.2.2.2.1,x.2.2.2.2.2.2.2.2.1,x.2.2.2.2.2.2.2.2.2.1,x.2.2.2.2.2.2.2.2.2.2.1,x.2.2.2.2.2.2.2.2.2.2.2.1,x.2.2.2.2.2.2.2.2.2.2.2.2)
 | 15,(x:List UInt8×List UInt8×List UInt8×List UInt8×List UInt8×List UInt8×List UInt8×List UInt8×List UInt8×List UInt8×List UInt8×List UInt8×List UInt8×List UInt8×List UInt8×List UInt8×List UInt8×List UInt8×List UInt8×List UInt8)=>(x.1,x.2.1,x.2.2.1,x.2.2.2.1,x.2.2.2.2.1,x.2.2.2.2.2.1,x.2.2.2.2.2.2.1,x.2.2.2.2.2.2.2.1,x.2.2.2.2.2.2.2.2.1,x.2.2.2.2.2.2.2.2.2.1,x.2.2.2.2.2.2.2.2.2.2.1,x.2.2.2.2.2.2.2.2.2.2.2.1,x.2.2.2.2.2.2.2.2.2.2.2.2.1,x.2.2.2.2.2.2.2.2.2.2.2.2.2.1,x.2.2.2.2.2.2.2.2.2.2.2.2.2.2.1,x.2.2.2.2.2.2.2.2.2.2.2.2.2.2.2.1,x.2.2.2.2.2.2.2.2.2.2.2.2.2.2.2.2.1,x.2.2.2.2.2.2.2.2.2.2.2.2.2.2.2.2.2.1,x.2.2.2.2.2.2.2.2.2.2.2.2.2.2.2.2.2.2.1,x.2.2.2.2.2.2.2.2.2.2.2.2.2.2.2.2.2.2.2)
 | _+16,_=>()
def im:(t:Nat)→ag C (F t)→C t
 | 0,(a0,a1,a2)=>(a0,a1,a2)
 | 1,(a0,a1,a2,a3)=>bO.mk a0 a1 a2 a3
 | 2,(a0,a1,a2,a3,a4,a5,a6,a7)=>an.mk a0 a1 a2 a3 a4 a5 a6 a7
 | 3,_=>()
 | 4,(a0,a1,a2,a3,a4,a5)=>(a0,a1,a2,a3,a4,a5)
 | 5,(a0,a1,a2,a3,a4,a5)=>aN.mk a0 a1 a2 a3 a4 a5
 | 6,(a0,a1,a2,a3,a4,a5,a6)=>aC.mk a0 a1 a2 a3 a4 a5 a6
 | 7,(a0,a1,a2,a3,a4)=>fI.mk a0 a1 a2 a3 a4
 | 8,(a0,a1,a2,a3,a4,a5,a6,a7)=>fH.mk a0 a1 a2 a3 a4 a5 a6 a7
 | 9,(a0,a1,a2)=>br.mk a0 a1 a2
 | 10,(a0,a1,a2,a3,a4,a5,a6)=>bM.mk a0 a1 a2 a3 a4 a5 a6
 | 11,(a0,a1,a2,a3,a4,a5,a6,a7)=>bG.mk a0 a1 a2 a3 a4 a5 a6 a7
 | 12,(a0,a1,a2,a3,a4)=>bh.mk a0 a1 a2 a3 a4
 | 13,(a0,a1,a2,a3,a4)=>fU.mk a0 a1 a2 a3 a4
 | 14,(a0,a1,a2,a3,a4,a5,a6,a7,a8,a9,wU,wV,a12)=>(a0,a1,a2,a3,a4,a5,a6,a7,a8,a9,wU,wV,a12)
 | 15,(a0,a1,a2,a3,a4,a5,a6,a7,a8,a9,wU,wV,a12,GW,GX,GY,GZ,G0,G1,G2)=>(a0,a1,a2,a3,a4,a5,a6,a7,a8,a9,wU,wV,a12,GW,GX,GY,GZ,G0,G1,G2)
 | _+16,_=>()
def jq:Nat→List (Nat×Ty)
 | 0=>lC (.int .u16) 3 0
 | 1=> [(0, .int .i64),(1, .sl (.sl .str)),(2, .sl (.sl .str)),(3, .int .i64)]
 | 2=> [(0, .str),(1, .str),(2, .str),(3, .str),(4, .sl .str),(5, .sl .str),(6, .sl (.st 1)),(7, .int .i64)]
 | 3=> []
 | 4=>lC (.str) 6 0
 | 5=> [(0, .str),(1, .str),(2, .int .i64),(3, .int .i64),(4, .int .i64),(5, .int .i64)]
 | 6=> [(0, .str),(1, .str),(2, .str),(3, .str),(4, .int .i64),(5, .int .i64),(6, .int .i64)]
 | 7=> [(0, .int .i64),(1, .sl (.st 8)),(2, .sl (.st 5)),(3, .sl (.st 6)),(4, .sl (.st 2))]
 | 8=> [(0, .str),(1, .int .i64),(2, .int .i64),(3, .sl (.st 9)),(4, .sl (.st 9)),(5, .sl (.st 9)),(6, .sl (.st 10)),(7, .int .i64)]
 | 9=> [(0, .str),(1, .int .i64),(2, .int .i64)]
 | 10=> [(0, .int .i64),(1, .str),(2, .sl (.st 11)),(3, .sl (.st 11)),(4, .sl (.st 13)),(5, .sl (.st 10)),(6, .int .i64)]
 | 11=> [(0, .int .i64),(1, .str),(2, .str),(3, .sl (.st 12)),(4, .int .i64),(5, .sl (.st 11)),(6, .sl (.st 11)),(7, .int .i64)]
 | 12=> [(0, .int .i64),(1, .int .i64),(2, .str),(3, .sl (.st 12)),(4, .int .i64)]
 | 13=> [(0, .str),(1, .sl (.st 12)),(2, .str),(3, .sl (.st 11)),(4, .int .i64)]
 | 14=>lC (.str) 13 0
 | 15=>lC (.str) 20 0
 | _+16=> []
def z:(t:Nat)→C t
 | 0=>(0,0,0)
 | 1=>bO.z
 | 2=>an.z
 | 3=>()
 | 4=>([],[],[],[],[],[])
 | 5=>aN.z
 | 6=>aC.z
 | 7=>fI.z
 | 8=>fH.z
 | 9=>br.z
 | 10=>bM.z
 | 11=>bG.z
 | 12=>bh.z
 | 13=>fU.z
 | 14=>([],[],[],[],[],[],[],[],[],[],[],[],[])
 | 15=>([],[],[],[],[],[],[],[],[],[],[],[],[],[],[],[],[],[],[],[])
 | _+16=>()
def Bd:List (Nat×Ty):= [(2, .int .i64),(3, .int .i64),(5, .int .u8),(9, .str),(22, .sl (.int .i64)),(23, .int .u16),(24, .st 0),(25, .sl (.int .u8)),(27, .sl .str),(30, .st 5),(32, .st 6),(33, .sl (.st 1)),(35, .st 2),(36, .sl (.sl .str)),(38, .st 1),(39, .sl (.st 5)),(40, .sl (.st 6)),(41, .sl (.st 2)),(42, .sl (.st 8)),(44, .st 7),(55, .sl (.st 9)),(56, .sl (.st 10)),(58, .st 8),(60, .st 4),(82, .st 9),(84, .sl (.st 11)),(85, .sl (.st 13)),(87, .st 10),(97, .sl (.st 12)),(99, .st 13),(102, .st 11),(121, .st 12),(157, .st 15),(164, .st 14)]
def Hj:List (Nat×(Nat×Ty)):= [(24,3, .int .u16),(60,6, .str),(157,20, .str),(164,13, .str)]
def xQ:List (Nat×Unit):= []
def zd:List (Nat×Unit):= []
def zV:List (Nat×Unit):= []
def NG:List (Nat×Unit):= []
abbrev S:aK:=⟨C,F,ex,im,fun u f=>(jq u)[f]?,z,look Bd,fun t=>(look zV t).isSome,look Hj,fun t=>(look xQ t).isSome,fun t=>(look zd t).isSome,[((1,0),fun v=> ∃ m,v= .int .i64 m)],[(0,fun ob=> ∃ t f,ob= .cells (Go.Lib.pow10Tab.map fun z=>Value.int .u64 z).toArray t f)],some (64,5),fun t=>(look NG t).isSome,fun _=> []⟩
def HN:List (Nat×Nat):= [(22,8),(25,1),(27,16),(33,64),(36,24),(39,64),(40,88),(41,144),(42,136),(55,32),(56,128),(84,128),(85,88),(97,64)]
def af (t:Nat):Nat:=(look HN t).getD 1
theorem AY:b6 S:=⟨fun | 0=>rfl | 1=>rfl | 2=>rfl | 3=>rfl | 4=>rfl | 5=>rfl | 6=>rfl | 7=>rfl | 8=>rfl | 9=>rfl | 10=>rfl | 11=>rfl | 12=>rfl | 13=>rfl | 14=>rfl | 15=>rfl | _+16=>rfl,fun | 0,_=>rfl | 1,_=>rfl | 2,_=>rfl | 3,_=>rfl | 4,_=>rfl | 5,_=>rfl | 6,_=>rfl | 7,_=>rfl | 8,_=>rfl | 9,_=>rfl | 10,_=>rfl | 11,_=>rfl | 12,_=>rfl | 13,_=>rfl | 14,_=>rfl | 15,_=>rfl | _+16,_=>rfl⟩
theorem N8:bT Tryd.prog S af 2 (.int .i64):=o5 rfl (by kernel_rfl) (by kernel_rfl) (by kernel_rfl)
theorem Od:bT Tryd.prog S af 3 (.int .i64):=o5 rfl (by kernel_rfl) (by kernel_rfl) (by kernel_rfl)
theorem Oq:bT Tryd.prog S af 5 (.int .u8):=o5 rfl (by kernel_rfl) (by kernel_rfl) (by kernel_rfl)
theorem OB:bT Tryd.prog S af 9 (.str):=OK rfl (by kernel_rfl) (by kernel_rfl) (by kernel_rfl)
theorem N9:bT Tryd.prog S af 22 (.sl (.int .i64)):=hO rfl (by kernel_rfl) (by kernel_rfl) Tryd.underlying22 rfl rfl (by kernel_rfl) (by kernel_rfl)
theorem N_:bT Tryd.prog S af 23 (.int .u16):=o5 rfl (by kernel_rfl) (by kernel_rfl) (by kernel_rfl)
theorem Oa:bT Tryd.prog S af 24 (.st 0):=tZ rfl (by kernel_rfl) rfl (by kernel_rfl) (by kernel_rfl) rfl (by kernel_rfl) Tryd.underlying24 rfl rfl rfl (by kernel_rfl) (fun _=>rfl) rfl
theorem Ob:bT Tryd.prog S af 25 (.sl (.int .u8)):=hO rfl (by kernel_rfl) (by kernel_rfl) Tryd.underlying25 rfl rfl (by kernel_rfl) (by kernel_rfl)
theorem Oc:bT Tryd.prog S af 27 (.sl .str):=hO rfl (by kernel_rfl) (by kernel_rfl) Tryd.underlying27 rfl rfl (by kernel_rfl) (by kernel_rfl)
theorem Oe:bT Tryd.prog S af 30 (.st 5):=ko (l:=jq 5) rfl (by kernel_rfl) rfl (by kernel_rfl) (by kernel_rfl) rfl (by kernel_rfl) Tryd.underlying30 (by kernel_rfl) (fun _=>rfl) rfl
theorem Of:bT Tryd.prog S af 32 (.st 6):=ko (l:=jq 6) rfl (by kernel_rfl) rfl (by kernel_rfl) (by kernel_rfl) rfl (by kernel_rfl) Tryd.underlying32 (by kernel_rfl) (fun _=>rfl) rfl
theorem Og:bT Tryd.prog S af 33 (.sl (.st 1)):=hO rfl (by kernel_rfl) (by kernel_rfl) Tryd.underlying33 rfl rfl (by kernel_rfl) (by kernel_rfl)
theorem Oh:bT Tryd.prog S af 35 (.st 2):=ko (l:=jq 2) rfl (by kernel_rfl) rfl (by kernel_rfl) (by kernel_rfl) rfl (by kernel_rfl) Tryd.underlying35 (by kernel_rfl) (fun _=>rfl) rfl
theorem Oi:bT Tryd.prog S af 36 (.sl (.sl .str)):=hO rfl (by kernel_rfl) (by kernel_rfl) Tryd.underlying36 rfl rfl (by kernel_rfl) (by kernel_rfl)
theorem Oj:bT Tryd.prog S af 38 (.st 1):=ko (l:=jq 1) rfl (by kernel_rfl) rfl (by kernel_rfl) (by kernel_rfl) rfl (by kernel_rfl) Tryd.underlying38 (by kernel_rfl) (fun _=>rfl) rfl
theorem Ok:bT Tryd.prog S af 39 (.sl (.st 5)):=hO rfl (by kernel_rfl) (by kernel_rfl) Tryd.underlying39 rfl rfl (by kernel_rfl) (by kernel_rfl)
theorem Ol:bT Tryd.prog S af 40 (.sl (.st 6)):=hO rfl (by kernel_rfl) (by kernel_rfl) Tryd.underlying40 rfl rfl (by kernel_rfl) (by kernel_rfl)
theorem Om:bT Tryd.prog S af 41 (.sl (.st 2)):=hO rfl (by kernel_rfl) (by kernel_rfl) Tryd.underlying41 rfl rfl (by kernel_rfl) (by kernel_rfl)
theorem On:bT Tryd.prog S af 42 (.sl (.st 8)):=hO rfl (by kernel_rfl) (by kernel_rfl) Tryd.underlying42 rfl rfl (by kernel_rfl) (by kernel_rfl)
theorem Oo:bT Tryd.prog S af 44 (.st 7):=ko (l:=jq 7) rfl (by kernel_rfl) rfl (by kernel_rfl) (by kernel_rfl) rfl (by kernel_rfl) Tryd.underlying44 (by kernel_rfl) (fun _=>rfl) rfl
theorem Ot:bT Tryd.prog S af 55 (.sl (.st 9)):=hO rfl (by kernel_rfl) (by kernel_rfl) Tryd.underlying55 rfl rfl (by kernel_rfl) (by kernel_rfl)
theorem Ou:bT Tryd.prog S af 56 (.sl (.st 10)):=hO rfl (by kernel_rfl) (by kernel_rfl) Tryd.underlying56 rfl rfl (by kernel_rfl) (by kernel_rfl)
theorem Ov:bT Tryd.prog S af 58 (.st 8):=ko (l:=jq 8) rfl (by kernel_rfl) rfl (by kernel_rfl) (by kernel_rfl) rfl (by kernel_rfl) Tryd.underlying58 (by kernel_rfl) (fun _=>rfl) rfl
theorem Ow:bT Tryd.prog S af 60 (.st 4):=tZ rfl (by kernel_rfl) rfl (by kernel_rfl) (by kernel_rfl) rfl (by kernel_rfl) Tryd.underlying60 rfl rfl rfl (by kernel_rfl) (fun _=>rfl) rfl
theorem Ox:bT Tryd.prog S af 82 (.st 9):=ko (l:=jq 9) rfl (by kernel_rfl) rfl (by kernel_rfl) (by kernel_rfl) rfl (by kernel_rfl) Tryd.underlying82 (by kernel_rfl) (fun _=>rfl) rfl
theorem Oy:bT Tryd.prog S af 84 (.sl (.st 11)):=hO rfl (by kernel_rfl) (by kernel_rfl) Tryd.underlying84 rfl rfl (by kernel_rfl) (by kernel_rfl)
theorem Oz:bT Tryd.prog S af 85 (.sl (.st 13)):=hO rfl (by kernel_rfl) (by kernel_rfl) Tryd.underlying85 rfl rfl (by kernel_rfl) (by kernel_rfl)
theorem OA:bT Tryd.prog S af 87 (.st 10):=ko (l:=jq 10) rfl (by kernel_rfl) rfl (by kernel_rfl) (by kernel_rfl) rfl (by kernel_rfl) Tryd.underlying87 (by kernel_rfl) (fun _=>rfl) rfl
theorem OC:bT Tryd.prog S af 97 (.sl (.st 12)):=hO rfl (by kernel_rfl) (by kernel_rfl) Tryd.underlying97 rfl rfl (by kernel_rfl) (by kernel_rfl)
theorem OD:bT Tryd.prog S af 99 (.st 13):=ko (l:=jq 13) rfl (by kernel_rfl) rfl (by kernel_rfl) (by kernel_rfl) rfl (by kernel_rfl) Tryd.underlying99 (by kernel_rfl) (fun _=>rfl) rfl
theorem N4:bT Tryd.prog S af 102 (.st 11):=ko (l:=jq 11) rfl (by kernel_rfl) rfl (by kernel_rfl) (by kernel_rfl) rfl (by kernel_rfl) Tryd.underlying102 (by kernel_rfl) (fun _=>rfl) rfl
theorem N5:bT Tryd.prog S af 121 (.st 12):=ko (l:=jq 12) rfl (by kernel_rfl) rfl (by kernel_rfl) (by kernel_rfl) rfl (by kernel_rfl) Tryd.underlying121 (by kernel_rfl) (fun _=>rfl) rfl
theorem N6:bT Tryd.prog S af 157 (.st 15):=tZ rfl (by kernel_rfl) rfl (by kernel_rfl) (by kernel_rfl) rfl (by kernel_rfl) Tryd.underlying157 rfl rfl rfl (by kernel_rfl) (fun _=>rfl) rfl
theorem N7:bT Tryd.prog S af 164 (.st 14):=tZ rfl (by kernel_rfl) rfl (by kernel_rfl) (by kernel_rfl) rfl (by kernel_rfl) Tryd.underlying164 rfl rfl rfl (by kernel_rfl) (fun _=>rfl) rfl
theorem zU:aL Tryd.prog S af:=⟨AY,fun t T h0=>by
 have h:=k6 (show look Bd t=some T from h0)
 simp only [Bd,List.mem_cons,Prod.mk.injEq,List.not_mem_nil,or_false] at h
 rcases h with ⟨rfl,rfl⟩ | ⟨rfl,rfl⟩ | ⟨rfl,rfl⟩ | ⟨rfl,rfl⟩ | ⟨rfl,rfl⟩ | ⟨rfl,rfl⟩ | ⟨rfl,rfl⟩ | ⟨rfl,rfl⟩ | ⟨rfl,rfl⟩ | ⟨rfl,rfl⟩ | ⟨rfl,rfl⟩ | ⟨rfl,rfl⟩ | ⟨rfl,rfl⟩ | ⟨rfl,rfl⟩ | ⟨rfl,rfl⟩ | ⟨rfl,rfl⟩ | ⟨rfl,rfl⟩ | ⟨rfl,rfl⟩ | ⟨rfl,rfl⟩ | ⟨rfl,rfl⟩ | ⟨rfl,rfl⟩ | ⟨rfl,rfl⟩ | ⟨rfl,rfl⟩ | ⟨rfl,rfl⟩ | ⟨rfl,rfl⟩ | ⟨rfl,rfl⟩ | ⟨rfl,rfl⟩ | ⟨rfl,rfl⟩ | ⟨rfl,rfl⟩ | ⟨rfl,rfl⟩ | ⟨rfl,rfl⟩ | ⟨rfl,rfl⟩ | ⟨rfl,rfl⟩ | ⟨rfl,rfl⟩
 · exact N8
 · exact Od
 · exact Oq
 · exact OB
 · exact N9
 · exact N_
 · exact Oa
 · exact Ob
 · exact Oc
 · exact Oe
 · exact Of
 · exact Og
 · exact Oh
 · exact Oi
 · exact Oj
 · exact Ok
 · exact Ol
 · exact Om
 · exact On
 · exact Oo
 · exact Ot
 · exact Ou
 · exact Ov
 · exact Ow
 · exact Ox
 · exact Oy
 · exact Oz
 · exact OA
 · exact OC
 · exact OD
 · exact N4
 · exact N5
 · exact N6
 · exact N7,fun t h=>by
 have h2: ∃ u,look zV t=some u:=Option.isSome_iff_exists.1 h
 obtain ⟨u,h2⟩:=h2
 have h:=k6 h2
 simp [zV] at h,fun t h=>by
 have h2: ∃ u,look xQ t=some u:=Option.isSome_iff_exists.1 h
 obtain ⟨u,h2⟩:=h2
 have h:=k6 h2
 simp [xQ] at h,fun t h=>by
 have h2: ∃ u,look zd t=some u:=Option.isSome_iff_exists.1 h
 obtain ⟨u,h2⟩:=h2
 have h:=k6 h2
 simp [zd] at h,HK (by kernel_rfl) (by decide)⟩
theorem pk:aL Tryd.prog S af∧Tryd.prog.follows .mixedOrders=true:=⟨zU,by kernel_rfl⟩
abbrev q0:Sy.K:= .val (.data (.st 1))
abbrev q1:Sy.K:= .val (.data .str)
abbrev q2:Sy.K:= .obj [.data (.int .i64), .data (.sl (.sl .str)), .data (.sl (.sl .str)), .data (.int .i64)]
abbrev q3:Sy.K:= .val (.aP .str)
abbrev q4:Sy.K:= .val (.data (.sl (.sl .str)))
abbrev q5:Sy.K:= .val (.data (.int .i64))
abbrev q6:Sy.K:= .val (.data (.sl (.st 2)))
abbrev q7:Sy.K:= .aQ
abbrev q8:Sy.K:= .val (.data (.sl (.st 1)))
abbrev q9:Sy.K:= .val (.data .bool)
abbrev qi:Sy.K:= .val (.data (.sl (.int .i64)))
abbrev tq:Sy.K:= .val (.data (.sl .str))
abbrev LL:Sy.K:= .ro (.st 4)
abbrev vJ:Sy.K:= .val (.data (.sl (.st 5)))
abbrev vK:Sy.K:= .val (.data (.sl (.st 6)))
abbrev LM:Sy.K:= .obj [.data .str, .data .str, .data .str, .data .str, .data (.sl .str), .data (.sl .str), .data (.sl (.st 1)), .data (.int .i64)]
abbrev LN:Sy.K:= .val (.data (.st 14))
abbrev vL:Sy.K:= .val (.data (.st 12))
abbrev Ek:Sy.K:= .obj [.data (.int .i64), .data (.int .i64), .data .str, .data (.sl (.st 12)), .data (.int .i64)]
abbrev El:Sy.K:= .val (.data (.st 11))
abbrev LO:Sy.K:= .obj [.data (.int .i64), .data .str, .data .str, .data (.sl (.st 12)), .data (.int .i64), .data (.sl (.st 11)), .data (.sl (.st 11)), .data (.int .i64)]
abbrev zW:Sy.K:= .val (.data (.sl (.st 12)))
abbrev tr:Sy.K:= .val (.data (.sl (.st 11)))
abbrev Em:Sy.K:= .val (.data (.st 13))
abbrev LP:Sy.K:= .obj [.data .str, .data (.sl (.st 12)), .data .str, .data (.sl (.st 11)), .data (.int .i64)]
abbrev En:Sy.K:= .val (.data (.st 10))
abbrev zX:Sy.K:= .obj [.data (.int .i64), .data .str, .data (.sl (.st 11)), .data (.sl (.st 11)), .data (.sl (.st 13)), .data (.sl (.st 10)), .data (.int .i64)]
abbrev LQ:Sy.K:= .val (.data (.sl (.st 13)))
abbrev Eo:Sy.K:= .val (.data (.sl (.st 10)))
abbrev Ep:Sy.K:= .val (.data (.st 8))
abbrev oC:Sy.K:= .obj [.data .str, .data (.int .i64), .data (.int .i64), .data (.sl (.st 9)), .data (.sl (.st 9)), .data (.sl (.st 9)), .data (.sl (.st 10)), .data (.int .i64)]
abbrev zY:Sy.K:= .val (.data (.sl (.st 9)))
abbrev Er:Sy.K:= .val (.data (.st 7))
abbrev Es:Sy.K:= .obj [.data (.int .i64), .data (.sl (.st 8)), .data (.sl (.st 5)), .data (.sl (.st 6)), .data (.sl (.st 2))]
abbrev LR:Sy.K:= .val (.data (.sl (.st 8)))
abbrev LS:Sy.K:= .val (.data (.st 0))
abbrev Et:Sy.K:= .val (.data (.sl (.int .u8)))
abbrev LU:Sy.K:= .ro (.st 0)
abbrev LV:Sy.K:= .obj [.data .str, .data .str, .data (.int .i64), .data (.int .i64), .data (.int .i64), .data (.int .i64)]
abbrev LW:Sy.K:= .obj [.data .str, .data .str, .data .str, .data .str, .data (.int .i64), .data (.int .i64), .data (.int .i64)]
abbrev LX:Sy.K:= .obj [.data .str, .data .str, .data .str, .data .str, .data (.sl .str), .data (.sl .str), .az (.st 1), .data (.int .i64)]
abbrev Eu:Sy.K:= .err
abbrev LY:Sy.K:= .val (.data (.int .u8))
def bz (e:Ty):Nat:=if e= .int .i64 then 8 else if e= .int .u8 then 1 else 1
def jS:List (Nat×Ty):= [(3, .int .i64),(5, .int .u8),(22, .sl (.int .i64)),(23, .int .u16),(24, .st 0),(25, .sl (.int .u8))]
def BE:List (Nat×(Nat×Ty)):= [(24,3, .int .u16)]
abbrev SA:aK:=S.ud (look jS) (fun _=>false) (look BE) (fun _=>false)
theorem OI:bT Tryd.prog SA af 3 (.int .i64):=o5 rfl (by kernel_rfl) (by kernel_rfl) (by kernel_rfl)
theorem OJ:bT Tryd.prog SA af 5 (.int .u8):=o5 rfl (by kernel_rfl) (by kernel_rfl) (by kernel_rfl)
theorem OE:bT Tryd.prog SA af 22 (.sl (.int .i64)):=hO rfl (by kernel_rfl) (by kernel_rfl) Tryd.underlying22 rfl rfl (by kernel_rfl) (by kernel_rfl)
theorem OF:bT Tryd.prog SA af 23 (.int .u16):=o5 rfl (by kernel_rfl) (by kernel_rfl) (by kernel_rfl)
theorem OG:bT Tryd.prog SA af 24 (.st 0):=tZ rfl (by kernel_rfl) rfl (by kernel_rfl) (by kernel_rfl) rfl (by kernel_rfl) Tryd.underlying24 rfl rfl rfl (by kernel_rfl) (fun _=>rfl) rfl
theorem OH:bT Tryd.prog SA af 25 (.sl (.int .u8)):=hO rfl (by kernel_rfl) (by kernel_rfl) Tryd.underlying25 rfl rfl (by kernel_rfl) (by kernel_rfl)
theorem Ns:b6 SA:=⟨AY.flat,AY.kP⟩
theorem LH:aL Tryd.prog SA af:=⟨Ns,fun t e h0=>by
 have h:=k6 (show look jS t=some (e) from h0)
 simp only [jS,List.mem_cons,Prod.mk.injEq,List.not_mem_nil,or_false] at h
 rcases h with ⟨rfl,h⟩ | ⟨rfl,h⟩ | ⟨rfl,h⟩ | ⟨rfl,h⟩ | ⟨rfl,h⟩ | ⟨rfl,h⟩
 · subst h; exact OI
 · subst h; exact OJ
 · subst h; exact OE
 · subst h; exact OF
 · subst h; exact OG
 · subst h; exact OH,fun t h=>(nomatch h),fun t h=>(nomatch h),zU.om,zU.bt⟩
theorem hbz: ∀ t e,SA.ty t=some (.sl e)→af t=bz e:=fun t e h0=>by
 have h:=k6 (show look jS t=some (.sl e) from h0)
 simp only [jS,List.mem_cons,Prod.mk.injEq,List.not_mem_nil,or_false] at h
 rcases h with ⟨rfl,h⟩ | ⟨rfl,h⟩ | ⟨rfl,h⟩ | ⟨rfl,h⟩ | ⟨rfl,h⟩ | ⟨rfl,h⟩
 · exact (nomatch h)
 · exact (nomatch h)
 · cases h; decide
 · exact (nomatch h)
 · exact (nomatch h)
 · cases h; decide
theorem NC:wP SA:=⟨fun t e h0=>by
 have h:=k6 (show look jS t=some (.sl e) from h0)
 simp only [jS,List.mem_cons,Prod.mk.injEq,List.not_mem_nil,or_false] at h
 rcases h with ⟨rfl,h⟩ | ⟨rfl,h⟩ | ⟨rfl,h⟩ | ⟨rfl,h⟩ | ⟨rfl,h⟩ | ⟨rfl,h⟩
 · exact (nomatch h)
 · exact (nomatch h)
 · cases h; decide
 · exact (nomatch h)
 · exact (nomatch h)
 · cases h; decide,fun t h0=>by
 have h:=k6 (show look jS t=some (.pt) from h0)
 simp only [jS,List.mem_cons,Prod.mk.injEq,List.not_mem_nil,or_false] at h
 rcases h with ⟨rfl,h⟩ | ⟨rfl,h⟩ | ⟨rfl,h⟩ | ⟨rfl,h⟩ | ⟨rfl,h⟩ | ⟨rfl,h⟩
 · exact (nomatch h)
 · exact (nomatch h)
 · exact (nomatch h)
 · exact (nomatch h)
 · exact (nomatch h)
 · exact (nomatch h)⟩
theorem NJ:wQ Tryd.prog SA:=fun t e h0=>by
 have h:=k6 (show look jS t=some (.st e) from h0)
 simp only [jS,List.mem_cons,Prod.mk.injEq,List.not_mem_nil,or_false] at h
 rcases h with ⟨rfl,h⟩ | ⟨rfl,h⟩ | ⟨rfl,h⟩ | ⟨rfl,h⟩ | ⟨rfl,h⟩ | ⟨rfl,h⟩
 · exact (nomatch h)
 · exact (nomatch h)
 · exact (nomatch h)
 · exact (nomatch h)
 · cases h; exact NK Tryd.underlying24 (by kernel_rfl)
 · exact (nomatch h)
abbrev oN:List UInt8:= [97]
abbrev v8:List UInt8:= [98]
abbrev AI:List UInt8:= [107]
abbrev AL:List UInt8:= [109]
abbrev tN:List UInt8:= [120]
abbrev wh:List UInt8:= [121]
abbrev we:List UInt8:= [101]
abbrev AM:List UInt8:= [110]
abbrev AQ:List UInt8:= [113]
abbrev AR:List UInt8:= [114]
abbrev cU:List UInt8:= [99,101,114,116,32]
abbrev aU:List UInt8:= [32,58,32]
abbrev bR:List UInt8:= [46]
abbrev aX:List UInt8:= [32,45,62,32]
abbrev g_:List UInt8:= [32,123,10,32,32,105,110,115,116,115,32]
abbrev dI:List UInt8:= [44,32]
abbrev bS:List UInt8:= [59,10]
abbrev lD:List UInt8:= [32,32,99,104,97,110,115,32]
abbrev ni:List UInt8:= [111,102,102]
abbrev mu:List UInt8:= [43]
abbrev nc:List UInt8:= [99,101,108,108,32]
abbrev lF:List UInt8:= [32,123,32]
abbrev bq:List UInt8:= [59]
abbrev aG:List UInt8:= [32]
abbrev bY:List UInt8:= [32,91]
abbrev cz:List UInt8:= [93]
abbrev qI:List UInt8:= [32,125]
abbrev cW:List UInt8:= [32,32]
abbrev eY:List UInt8:= [10]
abbrev jJ:List UInt8:= [125,10]
abbrev Fw:List UInt8:= [99,101,114,116,32,110,32,58,32,97,46,113,32,45,62,32,114,32,123,10,32,32,105,110,115,116,115,32,97,44,32,98,59,10,32,32,99,104,97,110,115,32,107,44,32,109,59,10,32,32,99,101,108,108,32,50,32,123,32,120,43,121,44,32,111,102,102,59,32,91,101,93,32,91,93,32,125,10,125,10]
abbrev Nn:List UInt8:= [95,99]
abbrev No:List UInt8:= [100,49]
abbrev Nk:List UInt8:= [76,111,110,103,95,110,97,109,101]
abbrev dQ:List UInt8:= [105,110,115,116,32]
abbrev fN:List UInt8:= [32,113,117,97,110,116,117,109,32]
abbrev gZ:List UInt8:= [32,101,120,116,32]
abbrev eZ:List UInt8:= [32,112,114,105,111,32]
abbrev je:List UInt8:= [48,49,50,51,52,53,54,55,56,57]
abbrev qH:List UInt8:= [45]
abbrev cV:List UInt8:= [99,104,97,110,32]
abbrev gX:List UInt8:= [32,99,97,112,32]
abbrev oO:List UInt8:= [32,32,99,101,108,108,32]
abbrev tK:List UInt8:= [32,125,10]
abbrev nk:List UInt8:= [115,121,115,116,101,109,32,97,103,101,32]
abbrev iR:List UInt8:= [99,104,97,114,116,32]
abbrev jL:List UInt8:= [32,115,116,101,112,115,32]
abbrev nh:List UInt8:= [32,102,117,101,108,32]
abbrev AT:List UInt8:= [32,123,10]
abbrev tM:List UInt8:= [32,32,118,97,114,32]
abbrev fO:List UInt8:= [32,61,32]
abbrev AO:List UInt8:= [32,32,112,111,114,116,32]
abbrev AW:List UInt8:= [32,32,116,105,109,101,114,32]
abbrev oQ:List UInt8:= [115,116,97,116,101,32]
abbrev oP:List UInt8:= [112,97,114,97,108,108,101,108,32]
abbrev wg:List UInt8:= [104,105,115,116,111,114,121,32]
abbrev v_:List UInt8:= [100,101,101,112,32]
abbrev Nq:List UInt8:= [32,123,125,10]
abbrev ng:List UInt8:= [101,110,116,114,121,32]
abbrev Fy:List UInt8:= [123,125]
abbrev Fx:List UInt8:= [123,10]
abbrev AE:List UInt8:= [124,124]
abbrev AB:List UInt8:= [38,38]
abbrev AJ:List UInt8:= [60]
abbrev AK:List UInt8:= [60,61]
abbrev AG:List UInt8:= [62]
abbrev AH:List UInt8:= [62,61]
abbrev AF:List UInt8:= [61,61]
abbrev AD:List UInt8:= [33,61]
abbrev AU:List UInt8:= [42]
abbrev AS:List UInt8:= [47]
abbrev AN:List UInt8:= [37]
abbrev mq:List UInt8:= [105,110,40]
abbrev e_:List UInt8:= [41]
abbrev fM:List UInt8:= [40]
abbrev jI:List UInt8:= [114,97,105,115,101,32]
abbrev gr:List UInt8:= [115,101,110,100,32]
abbrev jH:List UInt8:= [97,114,109,32]
abbrev mo:List UInt8:= [99,97,110,99,101,108,32]
abbrev jf:List UInt8:= [105,102,32]
abbrev tJ:List UInt8:= [32,101,108,115,101,32]
abbrev lE:List UInt8:= [108,111,111,112,32]
abbrev nj:List UInt8:= [125]
abbrev gY:List UInt8:= [101,120,105,116,32]
abbrev dH:List UInt8:= [97,117,116,111]
abbrev dh:List UInt8:= [111,110,32]
abbrev jK:List UInt8:= [32,123]
abbrev tL:List UInt8:= [118,97,114,32]
abbrev AP:List UInt8:= [112,111,114,116,32]
abbrev AV:List UInt8:= [116,105,109,101,114,32]
abbrev Np:List UInt8:= [36]
abbrev Nl:List UInt8:= [33]
abbrev cj:List UInt8×List UInt8×List UInt8×List UInt8×List UInt8×List UInt8:=(oN,v8,Nn,No,Nk,tN)
abbrev Hs:List UInt8×List UInt8×List UInt8×List UInt8×List UInt8×List UInt8×List UInt8×List UInt8×List UInt8×List UInt8×List UInt8×List UInt8×List UInt8:=(AE,AB,AJ,AK,AG,AH,AF,AD,mu,qH,AU,AS,AN)
abbrev Fg:List (List UInt8):= [[],[],[],[],[],qH,Nl,AU,AS,AN,mu,qH,AJ,AK,AG,AH,AF,AD,AB,AE]
end
end Go.Sy.Ex
namespace Go.Sy.Ex
open Go.Sy Go.Proofs
theorem CT {w:World} {M:St} (h:ji S w M):Lib.ru Tryd.prog w "internal/strconv.uint64pow10" .u64 Lib.pow10Tab:=by
 obtain ⟨_,_,ob,c3,t,f,rfl⟩:=h.2 ((0,fun ob=> ∃ t f,ob= .cells (Go.Lib.pow10Tab.map fun z=>Value.int .u64 z).toArray t f)) (by simp)
 unfold Lib.ru World.var?
 rw [show Tryd.prog.globalNamed "internal/strconv.uint64pow10" =some 0 from by kernel_rfl]
 show (match w.heap[0]? with | some (.cells cs _ _)=>some cs | _=>none)=_
 rw [c3]
theorem uI {w w':World} {M:St} (h:RowKit.Below w.heap.size w w'):aO w w' M:=by
 obtain ⟨a,b,c,d,e⟩:=h
 exact ⟨a,b,c,d,fun k hk _=>e k hk,fun k o hk _=>cell_of_heap (e k hk),fun k o hk hs=>by rw [cell_of_heap (e k hk)]; exact hs,fun k o hk _=>uU (e k hk)⟩
theorem BL (w:World) (k:Nat) (os:Array Obj):RowKit.Below w.heap.size w (Go.Sort.grow (w.drewN k) os):=
 ⟨rfl,rfl,rfl,by simp [Go.Sort.grow,World.drewN],fun j hj=>by simp [Go.Sort.grow,World.drewN,Array.getElem?_append,hj]⟩
theorem wB {w:World} {s M:St} (hM:b8 M) (r:List UInt8):bW Tryd.prog S w s M [.val (.data .str)] r [.string ⟨r.toArray⟩]:=
 ⟨_,_,_,_,tP M,rfl,⟨⟨hM,1,rfl⟩,rfl⟩,fun _ _ h=>h,rfl⟩
noncomputable def oA (n b:Int):Option (List UInt8):=if b=10∧ -9223372036854775808≤n∧n≤9223372036854775807 then some (Lib.dy n) else none
theorem Ee:aM Tryd.prog S ⟨37,[.val (.data (.int .i64)), .val (.data (.int .i64))],[.val (.data .str)],fun x=>oA x.1 x.2⟩:=by
 refine ⟨⟨Tryd.f37,Tryd.func37,by kernel_rfl,by kernel_rfl⟩,fun w s M (x:Int×Int) args r hx hs hG hr=> ?_⟩
 obtain ⟨x,y⟩:=x
 obtain ⟨M1,M2,v,rr,_,rfl,⟨⟨_,n,h1⟩,h2⟩,M3,M4,v',tD,_,rfl,⟨⟨_,n',h3⟩,h4⟩,_,rfl⟩:=hx
 have hv:=mM (w:=w) (s:=s) ⟨h2,n,h1⟩
 have eg:=mM (w:=w) (s:=s) ⟨h4,n',h3⟩
 subst hv eg
 have ht:=CT hG
 replace hr:oA x y=some r:=hr
 unfold oA at hr
 split at hr
 · rename_i hl
   obtain ⟨rfl,hl⟩:=hl
   cases hr
   refine (Tryd.FU x hl.1 hl.2 w ht).mono ?_
   rintro e w' ⟨rfl,k,os,rfl⟩
   exact ⟨[.string _],fun _ _=>False,fun _ _=>False,rfl,uI (BL w k os),wB (fun _ _ h=>h) _,fun _ _ h=>h.elim,fun _ _ h=>h.elim⟩
 · cases hr
noncomputable def gW (n:Int):Option (List UInt8):=if -9223372036854775808≤n∧n≤9223372036854775807 then some (Lib.dy n) else none
theorem qf:aM Tryd.prog S ⟨19,[.val (.data (.int .i64))],[.val (.data .str)],fun x=>gW x⟩:=by
 refine ⟨⟨Tryd.f19,Tryd.func19,by kernel_rfl,by kernel_rfl⟩,fun w s M (x:Int) args r hx hs hG hr=> ?_⟩
 obtain ⟨M1,M2,v,rr,_,rfl,⟨⟨_,n,h1⟩,h2⟩,_,rfl⟩:=hx
 have hv:=mM (w:=w) (s:=s) ⟨h2,n,h1⟩
 subst hv
 have ht:=CT hG
 replace hr:gW x=some r:=hr
 unfold gW at hr
 split at hr
 · rename_i hl
   cases hr
   refine (Tryd.FV x hl.1 hl.2 w ht).mono ?_
   rintro e w' ⟨rfl,k,os,rfl⟩
   exact ⟨[.string _],fun _ _=>False,fun _ _=>False,rfl,uI (BL w k os),wB (fun _ _ h=>h) _,fun _ _ h=>h.elim,fun _ _ h=>h.elim⟩
 · cases hr
noncomputable def m0 (s:List UInt8) (c:Int):Option (List UInt8):=if 0≤c∧c≤9223372036854775807∧s.length*c.toNat≤140737488355328 then some (Lib.MO s c.toNat) else none
theorem zO:aM Tryd.prog S ⟨51,[.val (.data .str), .val (.data (.int .i64))],[.val (.data .str)],fun x=>m0 x.1 x.2⟩:=by
 refine ⟨⟨Tryd.f51,Tryd.func51,by kernel_rfl,by kernel_rfl⟩,fun w s M (x:List UInt8×Int) args r hx hs hG hr=> ?_⟩
 obtain ⟨x,y⟩:=x
 obtain ⟨M1,M2,v,rr,_,rfl,⟨⟨_,n,h1⟩,h2⟩,M3,M4,v',tD,_,rfl,⟨⟨_,n',h3⟩,h4⟩,_,rfl⟩:=hx
 have hv:=nK (w:=w) (s:=s) ⟨h2,n,h1⟩
 have eg:=mM (w:=w) (s:=s) ⟨h4,n',h3⟩
 subst hv eg
 replace hr:m0 x y=some r:=hr
 unfold m0 at hr
 split at hr
 · rename_i hl
   obtain ⟨h0,nX,kW⟩:=hl
   cases hr
   have hc:=Tryd.FY ⟨x.toArray⟩ y.toNat w (by omega) kW
   rw [Int.toNat_of_nonneg h0] at hc
   refine hc.mono ?_
   rintro e w' ⟨rfl,hb⟩
   exact ⟨[.string _],fun _ _=>False,fun _ _=>False,rfl,uI hb,wB (fun _ _ h=>h) _,fun _ _ h=>h.elim,fun _ _ h=>h.elim⟩
 · cases hr
noncomputable def lg (l:List (List UInt8)) (sep:List UInt8):Option (List UInt8):=if l.length≤140737488355328∧(Lib.join l sep).length≤140737488355328 then some (Lib.join l sep) else none
theorem Ef:aM Tryd.prog S ⟨22,[.val (.data (.sl .str)), .val (.data .str)],[.val (.data .str)],fun x=>lg x.1 x.2⟩:=by
 refine ⟨⟨Tryd.f22,Tryd.func22,by kernel_rfl,by kernel_rfl⟩,fun w s M (x:List (List UInt8)×List UInt8) args r hx hs hG hr=> ?_⟩
 obtain ⟨x,y⟩:=x
 obtain ⟨M1,M2,v,rr,_,rfl,⟨⟨_,n,h1⟩,h2⟩,M3,M4,v',tD,_,rfl,⟨⟨_,n',h3⟩,h4⟩,_,rfl⟩:=hx
 have eg:=nK (w:=w) (s:=s) ⟨h4,n',h3⟩
 subst eg
 obtain ⟨ad,cap,rfl,hc,hel⟩:=jl (w:=w) (s:=s) ⟨h2,n,h1⟩
 replace hr:lg x y=some r:=hr
 unfold lg at hr
 split at hr
 · rename_i hl
   cases hr
   have fin: ∀ w',RowKit.Below w.heap.size w w'→ ∃ us s' M',Ending.returned (Value.string ⟨(Lib.join x y).toArray⟩)= .returned (jd us)∧aO w w' M∧bW Tryd.prog S w' s' M' [.val (.data .str)] (Lib.join x y) (us++ [])∧
    (∀ b o,s' b o→b<w'.heap.size∧ ¬ M' b o∧(s b o∨M b o∨w.heap.size≤b))∧ ∀ b o,M' b o→M b o∨w.heap.size≤b:=fun w' hb=>
    ⟨[.string _],fun _ _=>False,fun _ _=>False,rfl,uI hb,wB (fun _ _ h=>h) _,fun _ _ h=>h.elim,fun _ _ h=>h.elim⟩
   have key:x≠ []→ ∃ b o,ad=some ⟨b,o,none⟩∧b<w.heap.size∧ ∀ (j:Nat) z,x[j]? =some z→w.cell? ⟨b,o+j,none⟩=some (.string ⟨z.toArray⟩):=by
    intro hne
    rcases hel with hel | ⟨b,o,m,rfl,hel⟩
    · exact absurd (List.length_eq_zero_iff.1 hel) hne
    · have cw: ∀ (j:Nat) z,x[j]? =some z→w.cell? ⟨b,o+j,none⟩=some (.string ⟨z.toArray⟩)∧s b (o+j):=by
       intro j z hj
       obtain ⟨ds,d1,d2,d3⟩:=hel j z hj
       have d4:ds= [.string ⟨z.toArray⟩]:=by
        cases m with
        | zero=>exact d3.elim
        | succ m=>exact d3
       subst d4
       have :=d2 0 _ rfl
       simpa [Ty.sz] using this
      refine ⟨b,o,rfl, ?_,fun j z hj=>(cw j z hj).1⟩
      obtain ⟨z,hz⟩: ∃ z,x[0]? =some z:=by
       cases x with
       | nil=>exact absurd rfl hne
       | cons z _=>exact ⟨z,rfl⟩
      exact (hs b (o+0) (cw 0 z hz).2).1
   by_cases hne:x= []
   · subst hne
     refine (Tryd.FX ad cap ⟨y.toArray⟩ w).mono ?_
     rintro e w' ⟨rfl,rfl⟩
     exact fin _ (RowKit.Below.refl _ _)
   · obtain ⟨b,o,rfl,hb,cw⟩:=key hne
     have hmap:(x.map fun z=>(⟨z.toArray⟩:ByteArray)).map (·.data.toList)=x:=by
      rw [List.map_map]
      conv=>rhs; rw [← List.map_id x]
      congr 1
     have hc:=Tryd.FW b o cap (x.map fun z=>(⟨z.toArray⟩:ByteArray)) ⟨y.toArray⟩ w (fun j z hj=>by
      rw [List.getElem?_map,Option.map_eq_some_iff] at hj
      obtain ⟨q,hq,rfl⟩:=hj
      exact cw j q hq) hb (by simpa using hl.1) (by rw [List.length_map]; exact hc) (by rw [hmap]; exact hl.2)
     rw [hmap,List.length_map] at hc
     refine hc.mono ?_
     rintro e w' ⟨rfl,hb'⟩
     exact fin _ hb'
 · cases hr
theorem lp:aM Tryd.prog S ⟨18,[.aQ, .val (.data .str)],[.val (.data (.int .i64)), .err],fun x=>bf x.1 x.2⟩:=
 HB (ρ:=Tryd.zo) Tryd.KW Tryd.GM rfl ⟨Tryd.f18,Tryd.func18,by kernel_rfl,by kernel_rfl⟩
theorem Eg:aM Tryd.prog S ⟨89,[.aQ, .val (.data (.int .u8))],[.err],fun x=>fV x.1 x.2⟩:=
 Hy (ρ:=Tryd.vC) Tryd.DZ Tryd.Bo rfl ⟨Tryd.f89,Tryd.func89,by kernel_rfl,by kernel_rfl⟩
theorem LC:rq Tryd.prog S ⟨89,[.aQ, .val (.data (.int .u8))],[.err],fun x=>fV x.1 x.2⟩:=
 Hz (ρ:=Tryd.vC) Tryd.DZ Tryd.Bo rfl ⟨Tryd.f89,Tryd.func89,by kernel_rfl,by kernel_rfl⟩
noncomputable def kK (x:List UInt8):Option (List UInt8×List UInt8):=some (x,x)
theorem oB:aM Tryd.prog S ⟨20,[.aQ],[.val (.data .str)],fun x=>kK x⟩:=
 HA (ρ:=Tryd.zp) Tryd.KX Tryd.GN rfl ⟨Tryd.f20,Tryd.func20,by kernel_rfl,by kernel_rfl⟩
end Go.Sy.Ex
set_option maxRecDepth 100000
namespace Go.Sy.Ex
open Go.Sy Go.Proofs
noncomputable section
abbrev Ch:Entry S:=⟨22,[tq,q1],[q1],fun x=>lg x.1 x.2⟩
abbrev pP:Entry S:=⟨19,[q5],[q1],fun x=>gW x⟩
abbrev kN:Entry S:=⟨18,[q7,q1],[q5,Eu],fun x=>bf x.1 x.2⟩
abbrev nR:Entry S:=⟨20,[q7],[q1],fun x=>kK x⟩
abbrev xO:Entry S:=⟨89,[q7,LY],[Eu],fun x=>fV x.1 x.2⟩
abbrev Ci:Entry S:=⟨37,[q5,q5],[q1],fun x=>oA x.1 x.2⟩
abbrev xN:Entry S:=⟨51,[q1,q5],[q1],fun x=>m0 x.1 x.2⟩
abbrev NB:=bO→Option (List UInt8)
abbrev FM (f:NB):Entry S:=⟨23,[q0],[q1],fun x=>f x⟩
def qP:Nat→(List UInt8)→(List (List (List UInt8)))→Int→Int→Option (List UInt8)
 | 0,_,_,_,_=>none
 | k+1,t,Bk,GG,ue=>if ue<GG then
  if 0≤ue then
  if ue<(Bk.length:Int) then
  (lg (Bk.getD ue.toNat []) aG).bind fun r4=>
  if bY.length+r4.length≤9223372036854775807 then
  if (bY++r4).length+cz.length≤9223372036854775807 then
  if t.length+((bY++r4)++cz).length≤9223372036854775807 then
  qP k (t++((bY++r4)++cz)) Bk GG (aj (ue+1)) else none else none else none else none else none else
  if t.length+qI.length≤9223372036854775807 then
  some (t++qI) else none
def oT:Nat→Int→(List (List (List UInt8)))→(List (List (List UInt8)))→Int→(List (List UInt8))→(List (List (List UInt8)))→Int→Int→Option (List UInt8)
 | 0,_,_,_,_,_,_,_,_=>none
 | k+1,xj,BR,uF,dM,sets,bE,kz,lI=>if lI<kz then
  if 0≤lI then
  if lI<(bE.length:Int) then
  if ((bE.getD lI.toNat []).length:Int)=0 then
  if (sets.length+ [ni].length)*16≤140737488355328 then
  oT k xj BR uF dM (sets++ [ni]) bE kz (aj (lI+1)) else none else
  (lg (bE.getD lI.toNat []) mu).bind fun r1=>
  if (sets.length+ [r1].length)*16≤140737488355328 then
  oT k xj BR uF dM (sets++ [r1]) bE kz (aj (lI+1)) else none else none else none else
  (gW xj).bind fun r2=>
  if nc.length+r2.length≤9223372036854775807 then
  if (nc++r2).length+lF.length≤9223372036854775807 then
  (lg sets dI).bind fun r3=>
  if ((nc++r2)++lF).length+r3.length≤9223372036854775807 then
  if (((nc++r2)++lF)++r3).length+bq.length≤9223372036854775807 then
  qP k ((((nc++r2)++lF)++r3)++bq) uF (uF.length:Int) 0 else none else none else none else none
def FL (k:Nat) (c:bO):Option (List UInt8):=oT k c.lP c.Sets c.dK c.At [] c.Sets (c.Sets.length:Int) 0
def wz  (c:bO):Option (List UInt8):=cx (fun k (x:bO)=>FL k x) c
theorem NA:aM Tryd.prog S (FM (wz)):=fQ (fun k x=>FL k x) (fun _=>rfl) fun k=>
 ff pk [Ch,pP] ⟨Ef,qf,trivial⟩ Tryd.func23 [] k (fun k=> [(0,⟨[1,3,10,11,12],[q2,q3,q4,q5,q5],fun x=>oT k x.1.1 x.1.2.1 x.1.2.2.1 x.1.2.2.2 x.2.1 x.2.2.1 x.2.2.2.1 x.2.2.2.2,false⟩),(2,⟨[6,38,39,40],[q1,q4,q5,q5],fun x=>qP k x.1 x.2.1 x.2.2.1 x.2.2.2,false⟩)]) ⟨fun _=>rfl,fun _=>rfl,trivial⟩ (fun _=>by kernel_rfl) (fun _=>by kernel_rfl) (by kernel_rfl)
abbrev Nv:=(List an)→Option (List UInt8)
abbrev wk (f:Nv):Entry S:=⟨11,[q6],[q1],fun x=>f x⟩
mutual
def oR:Nat→(List UInt8)→(List an)→Int→Int→Option (List UInt8)
 | 0,_,_,_,_=>none
 | k+1,b,x8,x9,bE=>if bE<x9 then
  if 0≤bE then
  if bE<(x8.length:Int) then
  if cU.length+((x8.getD bE.toNat an.z).Name).length≤9223372036854775807 then
  if (cU++((x8.getD bE.toNat an.z).Name)).length+aU.length≤9223372036854775807 then
  if ((cU++((x8.getD bE.toNat an.z).Name))++aU).length+((x8.getD bE.toNat an.z).cY).length≤9223372036854775807 then
  if (((cU++((x8.getD bE.toNat an.z).Name))++aU)++((x8.getD bE.toNat an.z).cY)).length+bR.length≤9223372036854775807 then
  if ((((cU++((x8.getD bE.toNat an.z).Name))++aU)++((x8.getD bE.toNat an.z).cY))++bR).length+((x8.getD bE.toNat an.z).dU).length≤9223372036854775807 then
  if (((((cU++((x8.getD bE.toNat an.z).Name))++aU)++((x8.getD bE.toNat an.z).cY))++bR)++((x8.getD bE.toNat an.z).dU)).length+aX.length≤9223372036854775807 then
  if ((((((cU++((x8.getD bE.toNat an.z).Name))++aU)++((x8.getD bE.toNat an.z).cY))++bR)++((x8.getD bE.toNat an.z).dU))++aX).length+((x8.getD bE.toNat an.z).fc).length≤9223372036854775807 then
  if (((((((cU++((x8.getD bE.toNat an.z).Name))++aU)++((x8.getD bE.toNat an.z).cY))++bR)++((x8.getD bE.toNat an.z).dU))++aX)++((x8.getD bE.toNat an.z).fc)).length+g_.length≤9223372036854775807 then
  (lg ((x8.getD bE.toNat an.z).Insts) dI).bind fun r1=>
  if ((((((((cU++((x8.getD bE.toNat an.z).Name))++aU)++((x8.getD bE.toNat an.z).cY))++bR)++((x8.getD bE.toNat an.z).dU))++aX)++((x8.getD bE.toNat an.z).fc))++g_).length+r1.length≤9223372036854775807 then
  if (((((((((cU++((x8.getD bE.toNat an.z).Name))++aU)++((x8.getD bE.toNat an.z).cY))++bR)++((x8.getD bE.toNat an.z).dU))++aX)++((x8.getD bE.toNat an.z).fc))++g_)++r1).length+bS.length≤9223372036854775807 then
  (bf b ((((((((((cU++((x8.getD bE.toNat an.z).Name))++aU)++((x8.getD bE.toNat an.z).cY))++bR)++((x8.getD bE.toNat an.z).dU))++aX)++((x8.getD bE.toNat an.z).fc))++g_)++r1)++bS)).bind fun r2=>
  if 0<(((x8.getD bE.toNat an.z).ga).length:Int) then
  (lg ((x8.getD bE.toNat an.z).ga) dI).bind fun r3=>
  if lD.length+r3.length≤9223372036854775807 then
  if (lD++r3).length+bS.length≤9223372036854775807 then
  (bf r2.2.2 ((lD++r3)++bS)).bind fun r4=>
  nr k r4.2.2 x8 x9 bE ((x8.getD bE.toNat an.z).Cells) (((x8.getD bE.toNat an.z).Cells).length:Int) 0 else none else none else
  nr k r2.2.2 x8 x9 bE ((x8.getD bE.toNat an.z).Cells) (((x8.getD bE.toNat an.z).Cells).length:Int) 0 else none else none else none else none else none else none else none else none else none else none else none else none else
  (kK b).bind fun r5=>
  some r5.1
def nr:Nat→(List UInt8)→(List an)→Int→Int→(List bO)→Int→Int→Option (List UInt8)
 | 0,_,_,_,_,_,_,_=>none
 | k+1,b,x8,x9,bE,qT,lK,ug=>if ug<lK then
  if 0≤ug then
  if ug<(qT.length:Int) then
  (wz (qT.getD ug.toNat bO.z)).bind fun r6=>
  if cW.length+r6.length≤9223372036854775807 then
  if (cW++r6).length+eY.length≤9223372036854775807 then
  (bf b ((cW++r6)++eY)).bind fun r7=>
  nr k r7.2.2 x8 x9 bE qT lK (aj (ug+1)) else none else none else none else none else
  (bf b jJ).bind fun r8=>
  oR k r8.2.2 x8 x9 (aj (bE+1))
end
def FF (k:Nat) (l:List an):Option (List UInt8):=oR k [] l (l.length:Int) 0
def nq  (l:List an):Option (List UInt8):=cx (fun k (x:List an)=>FF k x) l
theorem A0:aM Tryd.prog S (wk (nq)):=fQ (fun k x=>FF k x) (fun _=>rfl) fun k=>
 ff pk [Ch,kN,nR,FM wz] ⟨Ef,lp,oB,NA,trivial⟩ Tryd.func11 [] k (fun k=> [(0,⟨[3,8,9,10],[q7,q6,q5,q5],fun x=>oR k x.1 x.2.1 x.2.2.1 x.2.2.2,false⟩),(2,⟨[3,8,9,10,47,48,49],[q7,q6,q5,q5,q8,q5,q5],fun x=>nr k x.1 x.2.1 x.2.2.1 x.2.2.2.1 x.2.2.2.2.1 x.2.2.2.2.2.1 x.2.2.2.2.2.2,false⟩)]) ⟨fun _=>rfl,fun _=>rfl,trivial⟩ (fun _=>by kernel_rfl) (fun _=>by kernel_rfl) (by kernel_rfl)
abbrev KQ:=Option Bool
abbrev DT (f:KQ):Entry S:=⟨5,[],[q9],fun x=>f⟩
def oy:Option Bool:=(nq [an.mk AM oN AQ AR [oN,v8] [AI,AL] [bO.mk 2 [[tN,wh],[]] [[we],[]] 0] 0]).bind fun r1=>
 some (decide (r1=Fw))
theorem KP:aM Tryd.prog S (DT (oy)):=
 gk pk [wk nq] ⟨A0,trivial⟩ Tryd.func5 (by kernel_rfl) (fun _=>by kernel_rfl) (by kernel_rfl)
abbrev Mq:=Int→Int→Option Int
abbrev EW (f:Mq):Entry S:=⟨17,[q5,q5],[q5],fun x=>f x.1 x.2⟩
def oI  (v:Int) (n:Int):Option Int:=if ¬ n=0 then
 if (v.tmod n)<0 then
 some (aj ((v.tmod n)+n)) else
 some (v.tmod n) else none
theorem Mo:aM Tryd.prog S (EW (oI)):=
 gk pk [] trivial Tryd.func17 (by kernel_rfl) (fun _=>by kernel_rfl) (by kernel_rfl)
abbrev KS:=(List Int)→Int→Option (List (List UInt8))
abbrev DV (f:KS):Entry S:=⟨6,[qi,q5],[tq],fun x=>f x.1 x.2⟩
def gF:Nat→(List Int)→Int→(List UInt8×List UInt8×List UInt8×List UInt8×List UInt8×List UInt8)→(List (List UInt8))→Int→Option (List (List UInt8))
 | 0,_,_,_,_,_=>none
 | k+1,v,n,all,out,i=>if i<n then
  if i<(v.length:Int) then
  if 0≤i then
  if i<(v.length:Int) then
  (oI (v.getD i.toNat 0) 6).bind fun r1=>
  if 0≤r1 then
  if r1<([all.1,all.2.1,all.2.2.1,all.2.2.2.1,all.2.2.2.2.1,all.2.2.2.2.2].length:Int) then
  if (out.length+ [[all.1,all.2.1,all.2.2.1,all.2.2.2.1,all.2.2.2.2.1,all.2.2.2.2.2].getD r1.toNat []].length)*16≤140737488355328 then
  gF k v n all (out++ [[all.1,all.2.1,all.2.2.1,all.2.2.2.1,all.2.2.2.2.1,all.2.2.2.2.2].getD r1.toNat []]) (aj (i+1)) else none else none else none else none else none else
  (oI i 6).bind fun r2=>
  if 0≤r2 then
  if r2<([all.1,all.2.1,all.2.2.1,all.2.2.2.1,all.2.2.2.2.1,all.2.2.2.2.2].length:Int) then
  if (out.length+ [[all.1,all.2.1,all.2.2.1,all.2.2.2.1,all.2.2.2.2.1,all.2.2.2.2.2].getD r2.toNat []].length)*16≤140737488355328 then
  gF k v n all (out++ [[all.1,all.2.1,all.2.2.1,all.2.2.2.1,all.2.2.2.2.1,all.2.2.2.2.2].getD r2.toNat []]) (aj (i+1)) else none else none else none else
  some out
def DU (k:Nat) (v:List Int) (n:Int):Option (List (List UInt8)):=gF k v n cj [] 0
def vB  (v:List Int) (n:Int):Option (List (List UInt8)):=cx (fun k (x:List Int×Int)=>DU k x.1 x.2) (v,n)
theorem KR:aM Tryd.prog S (DV (vB)):=fQ (fun k x=>DU k x.1 x.2) (fun _=>rfl) fun k=>
 ff pk [EW oI] ⟨Mo,trivial⟩ Tryd.func6 [] k (fun k=> [(0,⟨[0,1,5,6,7],[qi,q5,LL,q3,q5],fun x=>gF k x.1 x.2.1 x.2.2.1 x.2.2.2.1 x.2.2.2.2,false⟩)]) ⟨fun _=>rfl,trivial⟩ (fun _=>by kernel_rfl) (fun _=>by kernel_rfl) (by kernel_rfl)
abbrev Nx:=(List aN)→Option (List UInt8)
abbrev A2 (f:Nx):Entry S:=⟨7,[vJ],[q1],fun x=>f x⟩
def qO:Nat→(List UInt8)→(List aN)→Int→Int→Option (List UInt8)
 | 0,_,_,_,_=>none
 | k+1,b,x6,x7,x8=>if x8<x7 then
  if 0≤x8 then
  if x8<(x6.length:Int) then
  if dQ.length+((x6.getD x8.toNat aN.z).Name).length≤9223372036854775807 then
  if (dQ++((x6.getD x8.toNat aN.z).Name)).length+aU.length≤9223372036854775807 then
  if ((dQ++((x6.getD x8.toNat aN.z).Name))++aU).length+((x6.getD x8.toNat aN.z).er).length≤9223372036854775807 then
  if (((dQ++((x6.getD x8.toNat aN.z).Name))++aU)++((x6.getD x8.toNat aN.z).er)).length+fN.length≤9223372036854775807 then
  (gW ((x6.getD x8.toNat aN.z).mL)).bind fun r1=>
  if ((((dQ++((x6.getD x8.toNat aN.z).Name))++aU)++((x6.getD x8.toNat aN.z).er))++fN).length+r1.length≤9223372036854775807 then
  if (((((dQ++((x6.getD x8.toNat aN.z).Name))++aU)++((x6.getD x8.toNat aN.z).er))++fN)++r1).length+gZ.length≤9223372036854775807 then
  (gW ((x6.getD x8.toNat aN.z).Ext)).bind fun r2=>
  if ((((((dQ++((x6.getD x8.toNat aN.z).Name))++aU)++((x6.getD x8.toNat aN.z).er))++fN)++r1)++gZ).length+r2.length≤9223372036854775807 then
  if (((((((dQ++((x6.getD x8.toNat aN.z).Name))++aU)++((x6.getD x8.toNat aN.z).er))++fN)++r1)++gZ)++r2).length+eZ.length≤9223372036854775807 then
  (gW ((x6.getD x8.toNat aN.z).Prio)).bind fun r3=>
  if ((((((((dQ++((x6.getD x8.toNat aN.z).Name))++aU)++((x6.getD x8.toNat aN.z).er))++fN)++r1)++gZ)++r2)++eZ).length+r3.length≤9223372036854775807 then
  if (((((((((dQ++((x6.getD x8.toNat aN.z).Name))++aU)++((x6.getD x8.toNat aN.z).er))++fN)++r1)++gZ)++r2)++eZ)++r3).length+bS.length≤9223372036854775807 then
  (bf b ((((((((((dQ++((x6.getD x8.toNat aN.z).Name))++aU)++((x6.getD x8.toNat aN.z).er))++fN)++r1)++gZ)++r2)++eZ)++r3)++bS)).bind fun r4=>
  qO k r4.2.2 x6 x7 (aj (x8+1)) else none else none else none else none else none else none else none else none else none else none else none else none else
  (kK b).bind fun r5=>
  some r5.1
def FI (k:Nat) (l:List aN):Option (List UInt8):=qO k [] l (l.length:Int) 0
def oS  (l:List aN):Option (List UInt8):=cx (fun k (x:List aN)=>FI k x) l
theorem FJ:aM Tryd.prog S (A2 (oS)):=fQ (fun k x=>FI k x) (fun _=>rfl) fun k=>
 ff pk [pP,kN,nR] ⟨qf,lp,oB,trivial⟩ Tryd.func7 [] k (fun k=> [(0,⟨[3,6,7,8],[q7,vJ,q5,q5],fun x=>qO k x.1 x.2.1 x.2.2.1 x.2.2.2,false⟩)]) ⟨fun _=>rfl,trivial⟩ (fun _=>by kernel_rfl) (fun _=>by kernel_rfl) (by kernel_rfl)
abbrev Ad:=Int→Option (List UInt8)
abbrev m7 (f:Ad):Entry S:=⟨32,[q5],[q1],fun x=>f x⟩
def Ac (qJ:Ad) (k:Nat) (n:Int):Option (List UInt8):=if n≤(-10) then
 if ¬ (10:Int)=0 then
 if ¬ (10:Int)=0 then
 (qJ (aj (n.tdiv 10))).bind fun r1=>
 if 0≤(aj ((aj (0 - (n.tmod 10)))+1)) then
 if (aj ((aj (0 - (n.tmod 10)))+1))≤(je.length:Int) then
 if 0≤(aj (0 - (n.tmod 10))) then
 if (aj (0 - (n.tmod 10)))≤(aj ((aj (0 - (n.tmod 10)))+1)) then
 if r1.length+(cut je (aj (0 - (n.tmod 10))) (aj ((aj (0 - (n.tmod 10)))+1))).length≤9223372036854775807 then
 some (r1++(cut je (aj (0 - (n.tmod 10))) (aj ((aj (0 - (n.tmod 10)))+1)))) else none else none else none else none else none else none else none else
 if n<0 then
 if 0≤(aj ((aj (0 - n))+1)) then
 if (aj ((aj (0 - n))+1))≤(je.length:Int) then
 if 0≤(aj (0 - n)) then
 if (aj (0 - n))≤(aj ((aj (0 - n))+1)) then
 if qH.length+(cut je (aj (0 - n)) (aj ((aj (0 - n))+1))).length≤9223372036854775807 then
 some (qH++(cut je (aj (0 - n)) (aj ((aj (0 - n))+1)))) else none else none else none else none else none else
 if n<10 then
 if 0≤(aj (n+1)) then
 if (aj (n+1))≤(je.length:Int) then
 if 0≤n then
 if n≤(aj (n+1)) then
 some (cut je n (aj (n+1))) else none else none else none else none else
 if ¬ (10:Int)=0 then
 (qJ (aj (n.tdiv 10))).bind fun r2=>
 if ¬ (10:Int)=0 then
 if ¬ (10:Int)=0 then
 if 0≤(aj ((n.tmod 10)+1)) then
 if (aj ((n.tmod 10)+1))≤(je.length:Int) then
 if 0≤(n.tmod 10) then
 if (n.tmod 10)≤(aj ((n.tmod 10)+1)) then
 if r2.length+(cut je (n.tmod 10) (aj ((n.tmod 10)+1))).length≤9223372036854775807 then
 some (r2++(cut je (n.tmod 10) (aj ((n.tmod 10)+1)))) else none else none else none else none else none else none else none else none
def qv:Nat→Int→Option (List UInt8)
 | 0,_=>none
 | k+1,x0=>Ac (qv k) k x0
def jD  (n:Int):Option (List UInt8):=cx (fun k (x:Int)=>qv k x) n
theorem Mr (qJ:Ad) (k:Nat) (Jf:aM Tryd.prog S (m7 qJ)):aM Tryd.prog S (m7 (Ac qJ k)):=
 gk pk [m7 qJ] ⟨Jf,trivial⟩ Tryd.func32 (by kernel_rfl) (fun _=>by kernel_rfl) (by kernel_rfl)
theorem vS:aM Tryd.prog S (m7 (jD)):=oU (fun k x=>qv k x) (fun _=>rfl) Tryd.func32 (by kernel_rfl) (fun _=>rfl) fun k h=>Mr (qv k) k h
abbrev Mn:=Int→Option (List UInt8)
abbrev tv (f:Mn):Entry S:=⟨21,[q5],[q1],fun x=>f x⟩
def iP  (n:Int):Option (List UInt8):=(jD n).bind fun r1=>some r1
theorem vR:aM Tryd.prog S (tv (iP)):=
 gk pk [m7 jD] ⟨vS,trivial⟩ Tryd.func21 (by kernel_rfl) (fun _=>by kernel_rfl) (by kernel_rfl)
abbrev Mh:=(List aN)→Option (List UInt8)
abbrev Aa (f:Mh):Entry S:=⟨8,[vJ],[q1],fun x=>f x⟩
def qt:Nat→(List aN)→(List UInt8)→Int→Option (List UInt8)
 | 0,_,_,_=>none
 | k+1,l,s,i=>if i<(l.length:Int) then
  if 0≤i then
  if i<(l.length:Int) then
  if s.length+dQ.length≤9223372036854775807 then
  if (s++dQ).length+((l.getD i.toNat aN.z).Name).length≤9223372036854775807 then
  if ((s++dQ)++((l.getD i.toNat aN.z).Name)).length+aU.length≤9223372036854775807 then
  if (((s++dQ)++((l.getD i.toNat aN.z).Name))++aU).length+((l.getD i.toNat aN.z).er).length≤9223372036854775807 then
  if ((((s++dQ)++((l.getD i.toNat aN.z).Name))++aU)++((l.getD i.toNat aN.z).er)).length+fN.length≤9223372036854775807 then
  (iP ((l.getD i.toNat aN.z).mL)).bind fun r1=>
  if (((((s++dQ)++((l.getD i.toNat aN.z).Name))++aU)++((l.getD i.toNat aN.z).er))++fN).length+r1.length≤9223372036854775807 then
  if ((((((s++dQ)++((l.getD i.toNat aN.z).Name))++aU)++((l.getD i.toNat aN.z).er))++fN)++r1).length+gZ.length≤9223372036854775807 then
  (iP ((l.getD i.toNat aN.z).Ext)).bind fun r2=>
  if (((((((s++dQ)++((l.getD i.toNat aN.z).Name))++aU)++((l.getD i.toNat aN.z).er))++fN)++r1)++gZ).length+r2.length≤9223372036854775807 then
  if ((((((((s++dQ)++((l.getD i.toNat aN.z).Name))++aU)++((l.getD i.toNat aN.z).er))++fN)++r1)++gZ)++r2).length+eZ.length≤9223372036854775807 then
  (iP ((l.getD i.toNat aN.z).Prio)).bind fun r3=>
  if (((((((((s++dQ)++((l.getD i.toNat aN.z).Name))++aU)++((l.getD i.toNat aN.z).er))++fN)++r1)++gZ)++r2)++eZ).length+r3.length≤9223372036854775807 then
  if ((((((((((s++dQ)++((l.getD i.toNat aN.z).Name))++aU)++((l.getD i.toNat aN.z).er))++fN)++r1)++gZ)++r2)++eZ)++r3).length+bS.length≤9223372036854775807 then
  qt k l (((((((((((s++dQ)++((l.getD i.toNat aN.z).Name))++aU)++((l.getD i.toNat aN.z).er))++fN)++r1)++gZ)++r2)++eZ)++r3)++bS) (aj (i+1)) else none else none else none else none else none else none else none else none else none else none else none else none else none else
  some s
def EO (k:Nat) (l:List aN):Option (List UInt8):=qt k l [] 0
def qq  (l:List aN):Option (List UInt8):=cx (fun k (x:List aN)=>EO k x) l
theorem EP:aM Tryd.prog S (Aa (qq)):=fQ (fun k x=>EO k x) (fun _=>rfl) fun k=>
 ff pk [tv iP] ⟨vR,trivial⟩ Tryd.func8 [] k (fun k=> [(0,⟨[0,3,4],[vJ,q1,q5],fun x=>qt k x.1 x.2.1 x.2.2,false⟩)]) ⟨fun _=>rfl,trivial⟩ (fun _=>by kernel_rfl) (fun _=>by kernel_rfl) (by kernel_rfl)
abbrev Nw:=(List aC)→Option (List UInt8)
abbrev A1 (f:Nw):Entry S:=⟨9,[vK],[q1],fun x=>f x⟩
def qN:Nat→(List UInt8)→(List aC)→Int→Int→Option (List UInt8)
 | 0,_,_,_,_=>none
 | k+1,b,x6,x7,x8=>if x8<x7 then
  if 0≤x8 then
  if x8<(x6.length:Int) then
  if cV.length+((x6.getD x8.toNat aC.z).Name).length≤9223372036854775807 then
  if (cV++((x6.getD x8.toNat aC.z).Name)).length+aU.length≤9223372036854775807 then
  if ((cV++((x6.getD x8.toNat aC.z).Name))++aU).length+((x6.getD x8.toNat aC.z).aS).length≤9223372036854775807 then
  if (((cV++((x6.getD x8.toNat aC.z).Name))++aU)++((x6.getD x8.toNat aC.z).aS)).length+bR.length≤9223372036854775807 then
  if ((((cV++((x6.getD x8.toNat aC.z).Name))++aU)++((x6.getD x8.toNat aC.z).aS))++bR).length+((x6.getD x8.toNat aC.z).Port).length≤9223372036854775807 then
  if (((((cV++((x6.getD x8.toNat aC.z).Name))++aU)++((x6.getD x8.toNat aC.z).aS))++bR)++((x6.getD x8.toNat aC.z).Port)).length+aX.length≤9223372036854775807 then
  if ((((((cV++((x6.getD x8.toNat aC.z).Name))++aU)++((x6.getD x8.toNat aC.z).aS))++bR)++((x6.getD x8.toNat aC.z).Port))++aX).length+((x6.getD x8.toNat aC.z).To).length≤9223372036854775807 then
  if (((((((cV++((x6.getD x8.toNat aC.z).Name))++aU)++((x6.getD x8.toNat aC.z).aS))++bR)++((x6.getD x8.toNat aC.z).Port))++aX)++((x6.getD x8.toNat aC.z).To)).length+gX.length≤9223372036854775807 then
  (gW ((x6.getD x8.toNat aC.z).Cap)).bind fun r1=>
  if ((((((((cV++((x6.getD x8.toNat aC.z).Name))++aU)++((x6.getD x8.toNat aC.z).aS))++bR)++((x6.getD x8.toNat aC.z).Port))++aX)++((x6.getD x8.toNat aC.z).To))++gX).length+r1.length≤9223372036854775807 then
  if (((((((((cV++((x6.getD x8.toNat aC.z).Name))++aU)++((x6.getD x8.toNat aC.z).aS))++bR)++((x6.getD x8.toNat aC.z).Port))++aX)++((x6.getD x8.toNat aC.z).To))++gX)++r1).length+eZ.length≤9223372036854775807 then
  (gW ((x6.getD x8.toNat aC.z).Prio)).bind fun r2=>
  if ((((((((((cV++((x6.getD x8.toNat aC.z).Name))++aU)++((x6.getD x8.toNat aC.z).aS))++bR)++((x6.getD x8.toNat aC.z).Port))++aX)++((x6.getD x8.toNat aC.z).To))++gX)++r1)++eZ).length+r2.length≤9223372036854775807 then
  if (((((((((((cV++((x6.getD x8.toNat aC.z).Name))++aU)++((x6.getD x8.toNat aC.z).aS))++bR)++((x6.getD x8.toNat aC.z).Port))++aX)++((x6.getD x8.toNat aC.z).To))++gX)++r1)++eZ)++r2).length+bS.length≤9223372036854775807 then
  (bf b ((((((((((((cV++((x6.getD x8.toNat aC.z).Name))++aU)++((x6.getD x8.toNat aC.z).aS))++bR)++((x6.getD x8.toNat aC.z).Port))++aX)++((x6.getD x8.toNat aC.z).To))++gX)++r1)++eZ)++r2)++bS)).bind fun r3=>
  qN k r3.2.2 x6 x7 (aj (x8+1)) else none else none else none else none else none else none else none else none else none else none else none else none else none else none else
  (kK b).bind fun r4=>
  some r4.1
def FG (k:Nat) (l:List aC):Option (List UInt8):=qN k [] l (l.length:Int) 0
def qM  (l:List aC):Option (List UInt8):=cx (fun k (x:List aC)=>FG k x) l
theorem FH:aM Tryd.prog S (A1 (qM)):=fQ (fun k x=>FG k x) (fun _=>rfl) fun k=>
 ff pk [pP,kN,nR] ⟨qf,lp,oB,trivial⟩ Tryd.func9 [] k (fun k=> [(0,⟨[3,6,7,8],[q7,vK,q5,q5],fun x=>qN k x.1 x.2.1 x.2.2.1 x.2.2.2,false⟩)]) ⟨fun _=>rfl,trivial⟩ (fun _=>by kernel_rfl) (fun _=>by kernel_rfl) (by kernel_rfl)
abbrev Mg:=(List aC)→Option (List UInt8)
abbrev z_ (f:Mg):Entry S:=⟨10,[vK],[q1],fun x=>f x⟩
def qp:Nat→(List aC)→(List UInt8)→Int→Option (List UInt8)
 | 0,_,_,_=>none
 | k+1,l,s,i=>if i<(l.length:Int) then
  if 0≤i then
  if i<(l.length:Int) then
  if s.length+cV.length≤9223372036854775807 then
  if (s++cV).length+((l.getD i.toNat aC.z).Name).length≤9223372036854775807 then
  if ((s++cV)++((l.getD i.toNat aC.z).Name)).length+aU.length≤9223372036854775807 then
  if (((s++cV)++((l.getD i.toNat aC.z).Name))++aU).length+((l.getD i.toNat aC.z).aS).length≤9223372036854775807 then
  if ((((s++cV)++((l.getD i.toNat aC.z).Name))++aU)++((l.getD i.toNat aC.z).aS)).length+bR.length≤9223372036854775807 then
  if (((((s++cV)++((l.getD i.toNat aC.z).Name))++aU)++((l.getD i.toNat aC.z).aS))++bR).length+((l.getD i.toNat aC.z).Port).length≤9223372036854775807 then
  if ((((((s++cV)++((l.getD i.toNat aC.z).Name))++aU)++((l.getD i.toNat aC.z).aS))++bR)++((l.getD i.toNat aC.z).Port)).length+aX.length≤9223372036854775807 then
  if (((((((s++cV)++((l.getD i.toNat aC.z).Name))++aU)++((l.getD i.toNat aC.z).aS))++bR)++((l.getD i.toNat aC.z).Port))++aX).length+((l.getD i.toNat aC.z).To).length≤9223372036854775807 then
  if ((((((((s++cV)++((l.getD i.toNat aC.z).Name))++aU)++((l.getD i.toNat aC.z).aS))++bR)++((l.getD i.toNat aC.z).Port))++aX)++((l.getD i.toNat aC.z).To)).length+gX.length≤9223372036854775807 then
  (iP ((l.getD i.toNat aC.z).Cap)).bind fun r1=>
  if (((((((((s++cV)++((l.getD i.toNat aC.z).Name))++aU)++((l.getD i.toNat aC.z).aS))++bR)++((l.getD i.toNat aC.z).Port))++aX)++((l.getD i.toNat aC.z).To))++gX).length+r1.length≤9223372036854775807 then
  if ((((((((((s++cV)++((l.getD i.toNat aC.z).Name))++aU)++((l.getD i.toNat aC.z).aS))++bR)++((l.getD i.toNat aC.z).Port))++aX)++((l.getD i.toNat aC.z).To))++gX)++r1).length+eZ.length≤9223372036854775807 then
  (iP ((l.getD i.toNat aC.z).Prio)).bind fun r2=>
  if (((((((((((s++cV)++((l.getD i.toNat aC.z).Name))++aU)++((l.getD i.toNat aC.z).aS))++bR)++((l.getD i.toNat aC.z).Port))++aX)++((l.getD i.toNat aC.z).To))++gX)++r1)++eZ).length+r2.length≤9223372036854775807 then
  if ((((((((((((s++cV)++((l.getD i.toNat aC.z).Name))++aU)++((l.getD i.toNat aC.z).aS))++bR)++((l.getD i.toNat aC.z).Port))++aX)++((l.getD i.toNat aC.z).To))++gX)++r1)++eZ)++r2).length+bS.length≤9223372036854775807 then
  qp k l (((((((((((((s++cV)++((l.getD i.toNat aC.z).Name))++aU)++((l.getD i.toNat aC.z).aS))++bR)++((l.getD i.toNat aC.z).Port))++aX)++((l.getD i.toNat aC.z).To))++gX)++r1)++eZ)++r2)++bS) (aj (i+1)) else none else none else none else none else none else none else none else none else none else none else none else none else none else none else none else
  some s
def EM (k:Nat) (l:List aC):Option (List UInt8):=qp k l [] 0
def qo  (l:List aC):Option (List UInt8):=cx (fun k (x:List aC)=>EM k x) l
theorem EN:aM Tryd.prog S (z_ (qo)):=fQ (fun k x=>EM k x) (fun _=>rfl) fun k=>
 ff pk [tv iP] ⟨vR,trivial⟩ Tryd.func10 [] k (fun k=> [(0,⟨[0,3,4],[vK,q1,q5],fun x=>qp k x.1 x.2.1 x.2.2,false⟩)]) ⟨fun _=>rfl,trivial⟩ (fun _=>by kernel_rfl) (fun _=>by kernel_rfl) (by kernel_rfl)
abbrev Mi:=(List (List UInt8))→(List UInt8)→Option (List UInt8)
abbrev Ab (f:Mi):Entry S:=⟨24,[tq,q1],[q1],fun x=>f x.1 x.2⟩
def lu:Nat→(List (List UInt8))→(List UInt8)→(List UInt8)→Int→Option (List UInt8)
 | 0,_,_,_,_=>none
 | k+1,l,mC,s,i=>if i<(l.length:Int) then
  if 0<i then
  if s.length+mC.length≤9223372036854775807 then
  if 0≤i then
  if i<(l.length:Int) then
  if (s++mC).length+(l.getD i.toNat []).length≤9223372036854775807 then
  lu k l mC ((s++mC)++(l.getD i.toNat [])) (aj (i+1)) else none else none else none else none else
  if 0≤i then
  if i<(l.length:Int) then
  if s.length+(l.getD i.toNat []).length≤9223372036854775807 then
  lu k l mC (s++(l.getD i.toNat [])) (aj (i+1)) else none else none else none else
  some s
def ER (k:Nat) (l:List (List UInt8)) (mC:List UInt8):Option (List UInt8):=lu k l mC [] 0
def mg  (l:List (List UInt8)) (mC:List UInt8):Option (List UInt8):=cx (fun k (x:List (List UInt8)×List UInt8)=>ER k x.1 x.2) (l,mC)
theorem ES:aM Tryd.prog S (Ab (mg)):=fQ (fun k x=>ER k x.1 x.2) (fun _=>rfl) fun k=>
 ff pk [] trivial Tryd.func24 [] k (fun k=> [(0,⟨[0,1,5,6],[tq,q1,q1,q5],fun x=>lu k x.1 x.2.1 x.2.2.1 x.2.2.2,false⟩)]) ⟨fun _=>rfl,trivial⟩ (fun _=>by kernel_rfl) (fun _=>by kernel_rfl) (by kernel_rfl)
abbrev Mm:=bO→Option (List UInt8)
abbrev EV (f:Mm):Entry S:=⟨25,[q0],[q1],fun x=>f x⟩
def qu:Nat→Int→(List (List (List UInt8)))→(List (List (List UInt8)))→Int→(List UInt8)→Int→Option (List UInt8)
 | 0,_,_,_,_,_,_=>none
 | k+1,qU,lM,nF,gK,s,i=>if i<(nF.length:Int) then
  if s.length+bY.length≤9223372036854775807 then
  if 0≤i then
  if i<(nF.length:Int) then
  (mg (nF.getD i.toNat []) aG).bind fun r4=>
  if (s++bY).length+r4.length≤9223372036854775807 then
  if ((s++bY)++r4).length+cz.length≤9223372036854775807 then
  qu k qU lM nF gK (((s++bY)++r4)++cz) (aj (i+1)) else none else none else none else none else none else
  if s.length+tK.length≤9223372036854775807 then
  some (s++tK) else none
def oH:Nat→Int→(List (List (List UInt8)))→(List (List (List UInt8)))→Int→(List (List UInt8))→Int→Option (List UInt8)
 | 0,_,_,_,_,_,_=>none
 | k+1,qU,lM,nF,gK,sets,i=>if i<(lM.length:Int) then
  if 0≤i then
  if i<(lM.length:Int) then
  if ((lM.getD i.toNat []).length:Int)=0 then
  if (sets.length+ [ni].length)*16≤140737488355328 then
  oH k qU lM nF gK (sets++ [ni]) (aj (i+1)) else none else
  if 0≤i then
  if i<(lM.length:Int) then
  (mg (lM.getD i.toNat []) mu).bind fun r1=>
  if (sets.length+ [r1].length)*16≤140737488355328 then
  oH k qU lM nF gK (sets++ [r1]) (aj (i+1)) else none else none else none else none else none else
  (iP qU).bind fun r2=>
  if oO.length+r2.length≤9223372036854775807 then
  if (oO++r2).length+lF.length≤9223372036854775807 then
  (mg sets dI).bind fun r3=>
  if ((oO++r2)++lF).length+r3.length≤9223372036854775807 then
  if (((oO++r2)++lF)++r3).length+bq.length≤9223372036854775807 then
  qu k qU lM nF gK ((((oO++r2)++lF)++r3)++bq) 0 else none else none else none else none
def EU (k:Nat) (x:bO):Option (List UInt8):=oH k x.lP x.Sets x.dK x.At [] 0
def vQ  (x:bO):Option (List UInt8):=cx (fun k (x:bO)=>EU k x) x
theorem Ml:aM Tryd.prog S (EV (vQ)):=fQ (fun k x=>EU k x) (fun _=>rfl) fun k=>
 ff pk [Ab mg,tv iP] ⟨ES,vR,trivial⟩ Tryd.func25 [] k (fun k=> [(0,⟨[1,3,4],[q2,q3,q5],fun x=>oH k x.1.1 x.1.2.1 x.1.2.2.1 x.1.2.2.2 x.2.1 x.2.2,false⟩),(2,⟨[1,5,6],[q2,q1,q5],fun x=>qu k x.1.1 x.1.2.1 x.1.2.2.1 x.1.2.2.2 x.2.1 x.2.2,false⟩)]) ⟨fun _=>rfl,fun _=>rfl,trivial⟩ (fun _=>by kernel_rfl) (fun _=>by kernel_rfl) (by kernel_rfl)
abbrev Mf:=(List an)→Option (List UInt8)
abbrev z8 (f:Mf):Entry S:=⟨12,[q6],[q1],fun x=>f x⟩
mutual
def oG:Nat→(List an)→(List UInt8)→Int→Option (List UInt8)
 | 0,_,_,_=>none
 | k+1,l,s,i=>if i<(l.length:Int) then
  if 0≤i then
  if i<(l.length:Int) then
  if s.length+cU.length≤9223372036854775807 then
  if (s++cU).length+((l.getD i.toNat an.z).Name).length≤9223372036854775807 then
  if ((s++cU)++((l.getD i.toNat an.z).Name)).length+aU.length≤9223372036854775807 then
  if (((s++cU)++((l.getD i.toNat an.z).Name))++aU).length+((l.getD i.toNat an.z).cY).length≤9223372036854775807 then
  if ((((s++cU)++((l.getD i.toNat an.z).Name))++aU)++((l.getD i.toNat an.z).cY)).length+bR.length≤9223372036854775807 then
  if (((((s++cU)++((l.getD i.toNat an.z).Name))++aU)++((l.getD i.toNat an.z).cY))++bR).length+((l.getD i.toNat an.z).dU).length≤9223372036854775807 then
  if ((((((s++cU)++((l.getD i.toNat an.z).Name))++aU)++((l.getD i.toNat an.z).cY))++bR)++((l.getD i.toNat an.z).dU)).length+aX.length≤9223372036854775807 then
  if (((((((s++cU)++((l.getD i.toNat an.z).Name))++aU)++((l.getD i.toNat an.z).cY))++bR)++((l.getD i.toNat an.z).dU))++aX).length+((l.getD i.toNat an.z).fc).length≤9223372036854775807 then
  if ((((((((s++cU)++((l.getD i.toNat an.z).Name))++aU)++((l.getD i.toNat an.z).cY))++bR)++((l.getD i.toNat an.z).dU))++aX)++((l.getD i.toNat an.z).fc)).length+g_.length≤9223372036854775807 then
  (mg ((l.getD i.toNat an.z).Insts) dI).bind fun r1=>
  if (((((((((s++cU)++((l.getD i.toNat an.z).Name))++aU)++((l.getD i.toNat an.z).cY))++bR)++((l.getD i.toNat an.z).dU))++aX)++((l.getD i.toNat an.z).fc))++g_).length+r1.length≤9223372036854775807 then
  if ((((((((((s++cU)++((l.getD i.toNat an.z).Name))++aU)++((l.getD i.toNat an.z).cY))++bR)++((l.getD i.toNat an.z).dU))++aX)++((l.getD i.toNat an.z).fc))++g_)++r1).length+bS.length≤9223372036854775807 then
  if 0<(((l.getD i.toNat an.z).ga).length:Int) then
  if (((((((((((s++cU)++((l.getD i.toNat an.z).Name))++aU)++((l.getD i.toNat an.z).cY))++bR)++((l.getD i.toNat an.z).dU))++aX)++((l.getD i.toNat an.z).fc))++g_)++r1)++bS).length+lD.length≤9223372036854775807 then
  (mg ((l.getD i.toNat an.z).ga) dI).bind fun r2=>
  if ((((((((((((s++cU)++((l.getD i.toNat an.z).Name))++aU)++((l.getD i.toNat an.z).cY))++bR)++((l.getD i.toNat an.z).dU))++aX)++((l.getD i.toNat an.z).fc))++g_)++r1)++bS)++lD).length+r2.length≤9223372036854775807 then
  if (((((((((((((s++cU)++((l.getD i.toNat an.z).Name))++aU)++((l.getD i.toNat an.z).cY))++bR)++((l.getD i.toNat an.z).dU))++aX)++((l.getD i.toNat an.z).fc))++g_)++r1)++bS)++lD)++r2).length+bS.length≤9223372036854775807 then
  m6 k l ((((((((((((((s++cU)++((l.getD i.toNat an.z).Name))++aU)++((l.getD i.toNat an.z).cY))++bR)++((l.getD i.toNat an.z).dU))++aX)++((l.getD i.toNat an.z).fc))++g_)++r1)++bS)++lD)++r2)++bS) i ((l.getD i.toNat an.z).Name) ((l.getD i.toNat an.z).cY) ((l.getD i.toNat an.z).dU) ((l.getD i.toNat an.z).fc) ((l.getD i.toNat an.z).Insts) ((l.getD i.toNat an.z).ga) ((l.getD i.toNat an.z).Cells) ((l.getD i.toNat an.z).At) 0 else none else none else none else
  m6 k l (((((((((((s++cU)++((l.getD i.toNat an.z).Name))++aU)++((l.getD i.toNat an.z).cY))++bR)++((l.getD i.toNat an.z).dU))++aX)++((l.getD i.toNat an.z).fc))++g_)++r1)++bS) i ((l.getD i.toNat an.z).Name) ((l.getD i.toNat an.z).cY) ((l.getD i.toNat an.z).dU) ((l.getD i.toNat an.z).fc) ((l.getD i.toNat an.z).Insts) ((l.getD i.toNat an.z).ga) ((l.getD i.toNat an.z).Cells) ((l.getD i.toNat an.z).At) 0 else none else none else none else none else none else none else none else none else none else none else none else none else none else
  some s
def m6:Nat→(List an)→(List UInt8)→Int→(List UInt8)→(List UInt8)→(List UInt8)→(List UInt8)→(List (List UInt8))→(List (List UInt8))→(List bO)→Int→Int→Option (List UInt8)
 | 0,_,_,_,_,_,_,_,_,_,_,_,_=>none
 | k+1,l,s,i,kE,kC,kF,kG,kD,pe,iz,gK,k_=>if k_<(iz.length:Int) then
  if 0≤k_ then
  if k_<(iz.length:Int) then
  (vQ (iz.getD k_.toNat bO.z)).bind fun r3=>
  if s.length+r3.length≤9223372036854775807 then
  m6 k l (s++r3) i kE kC kF kG kD pe iz gK (aj (k_+1)) else none else none else none else
  if s.length+jJ.length≤9223372036854775807 then
  oG k l (s++jJ) (aj (i+1)) else none
end
def EK (k:Nat) (l:List an):Option (List UInt8):=oG k l [] 0
def qn  (l:List an):Option (List UInt8):=cx (fun k (x:List an)=>EK k x) l
theorem EL:aM Tryd.prog S (z8 (qn)):=fQ (fun k x=>EK k x) (fun _=>rfl) fun k=>
 ff pk [Ab mg,EV vQ] ⟨ES,Ml,trivial⟩ Tryd.func12 [] k (fun k=> [(0,⟨[0,3,4],[q6,q1,q5],fun x=>oG k x.1 x.2.1 x.2.2,false⟩),(2,⟨[0,3,4,5,6],[q6,q1,q5,LM,q5],fun x=>m6 k x.1 x.2.1 x.2.2.1 x.2.2.2.1.1 x.2.2.2.1.2.1 x.2.2.2.1.2.2.1 x.2.2.2.1.2.2.2.1 x.2.2.2.1.2.2.2.2.1 x.2.2.2.1.2.2.2.2.2.1 x.2.2.2.1.2.2.2.2.2.2.1 x.2.2.2.1.2.2.2.2.2.2.2 x.2.2.2.2,false⟩)]) ⟨fun _=>rfl,fun _=>rfl,trivial⟩ (fun _=>by kernel_rfl) (fun _=>by kernel_rfl) (by kernel_rfl)
abbrev H7:=Int→Option (List UInt8)
abbrev B7 (f:H7):Entry S:=⟨52,[q5],[q1],fun x=>f x⟩
def xE  (kind:Int):Option (List UInt8):=if kind=1 then
 some oQ else
 if kind=2 then
 some oP else
 if kind=3 then
 some wg else
 some v_
theorem H6:aM Tryd.prog S (B7 (xE)):=
 gk pk [] trivial Tryd.func52 (by kernel_rfl) (fun _=>by kernel_rfl) (by kernel_rfl)
abbrev IF:=(List UInt8)→Option (Int×Int)
abbrev CB (f:IF):Entry S:=⟨96,[q1],[q5,q5],fun x=>f x⟩
def xV  (text:List UInt8):Option (Int×Int):=if text=AE then
 some (19,1) else
 if text=AB then
 some (18,2) else
 if text=AJ then
 some (12,3) else
 if text=AK then
 some (13,3) else
 if text=AG then
 some (14,3) else
 if text=AH then
 some (15,3) else
 if text=AF then
 some (16,3) else
 if text=AD then
 some (17,3) else
 if text=mu then
 some (10,4) else
 if text=qH then
 some (11,4) else
 if text=AU then
 some (7,5) else
 if text=AS then
 some (8,5) else
 if text=AN then
 some (9,5) else
 some (0,0)
theorem IE:aM Tryd.prog S (CB (xV)):=
 gk pk [] trivial Tryd.func96 (by kernel_rfl) (fun _=>by kernel_rfl) (by kernel_rfl)
abbrev IA:=Int→Option (List UInt8×Int)
abbrev xS (f:IA):Entry S:=⟨95,[q5],[q1,q5],fun x=>f x⟩
def xT:Nat→Int→(List UInt8×List UInt8×List UInt8×List UInt8×List UInt8×List UInt8×List UInt8×List UInt8×List UInt8×List UInt8×List UInt8×List UInt8×List UInt8)→Int→Option (List UInt8×Int)
 | 0,_,_,_=>none
 | k+1,kind,x8,x9=>if x9<13 then
  if 0≤x9 then
  if x9<([x8.1,x8.2.1,x8.2.2.1,x8.2.2.2.1,x8.2.2.2.2.1,x8.2.2.2.2.2.1,x8.2.2.2.2.2.2.1,x8.2.2.2.2.2.2.2.1,x8.2.2.2.2.2.2.2.2.1,x8.2.2.2.2.2.2.2.2.2.1,x8.2.2.2.2.2.2.2.2.2.2.1,x8.2.2.2.2.2.2.2.2.2.2.2.1,x8.2.2.2.2.2.2.2.2.2.2.2.2].length:Int) then
  (xV ([x8.1,x8.2.1,x8.2.2.1,x8.2.2.2.1,x8.2.2.2.2.1,x8.2.2.2.2.2.1,x8.2.2.2.2.2.2.1,x8.2.2.2.2.2.2.2.1,x8.2.2.2.2.2.2.2.2.1,x8.2.2.2.2.2.2.2.2.2.1,x8.2.2.2.2.2.2.2.2.2.2.1,x8.2.2.2.2.2.2.2.2.2.2.2.1,x8.2.2.2.2.2.2.2.2.2.2.2.2].getD x9.toNat [])).bind fun r1=>
  if r1.1=kind then
  some ([x8.1,x8.2.1,x8.2.2.1,x8.2.2.2.1,x8.2.2.2.2.1,x8.2.2.2.2.2.1,x8.2.2.2.2.2.2.1,x8.2.2.2.2.2.2.2.1,x8.2.2.2.2.2.2.2.2.1,x8.2.2.2.2.2.2.2.2.2.1,x8.2.2.2.2.2.2.2.2.2.2.1,x8.2.2.2.2.2.2.2.2.2.2.2.1,x8.2.2.2.2.2.2.2.2.2.2.2.2].getD x9.toNat [],r1.2) else
  xT k kind x8 (aj (x9+1)) else none else none else
  some ([],0)
def Cx (k:Nat) (kind:Int):Option (List UInt8×Int):=xT k kind Hs 0
def pR  (kind:Int):Option (List UInt8×Int):=cx (fun k (x:Int)=>Cx k x) kind
theorem Cy:aM Tryd.prog S (xS (pR)):=fQ (fun k x=>Cx k x) (fun _=>rfl) fun k=>
 ff pk [CB xV] ⟨IE,trivial⟩ Tryd.func95 [] k (fun k=> [(0,⟨[0,8,9],[q5,LN,q5],fun x=>xT k x.1 x.2.1 x.2.2,false⟩)]) ⟨fun _=>rfl,trivial⟩ (fun _=>by kernel_rfl) (fun _=>by kernel_rfl) (by kernel_rfl)
abbrev IB:=Int→Option Int
abbrev xU (f:IB):Entry S:=⟨93,[q5],[q5],fun x=>f x⟩
def rU  (kind:Int):Option Int:=if kind=5 then
 some 6 else
 if kind=6 then
 some 6 else
 (pR kind).bind fun r1=>
 if 0<r1.2 then
 some r1.2 else
 some 7
theorem Cz:aM Tryd.prog S (xU (rU)):=
 gk pk [xS pR] ⟨Cy,trivial⟩ Tryd.func93 (by kernel_rfl) (fun _=>by kernel_rfl) (by kernel_rfl)
abbrev ID:=Int→Option (List Int)
abbrev CA (f:ID):Entry S:=⟨94,[q5],[qi],fun x=>f x⟩
def gO  (kind:Int):Option (List Int):=(rU kind).bind fun r1=>
 if r1=7 then
 some [] else
 if r1=6 then
 some [6] else
 if r1=3 then
 some [4,4] else
 some [r1,aj (r1+1)]
theorem IC:aM Tryd.prog S (CA (gO)):=
 gk pk [xU rU] ⟨Cz,trivial⟩ Tryd.func94 (by kernel_rfl) (fun _=>by kernel_rfl) (by kernel_rfl)
abbrev rW:=(List UInt8)→bh→Int→Option (List UInt8)
abbrev rV (f:rW):Entry S:=⟨90,[q7,vL,q5],[],fun x=>f x.1 x.2.1 x.2.2⟩
def kR (di:rW):Nat→(List UInt8)→Int→Int→(List UInt8)→(List bh)→Int→(List Int)→Int→Int→Option (List UInt8)
 | 0,_,_,_,_,_,_,_,_,_=>none
 | k+1,b,nS,rQ,rR,ic,rP,kA,o9,cX=>if cX<o9 then
  if 0≤cX then
  if cX<(kA.length:Int) then
  if (ic.length:Int)≤cX then
  (fV b 41).bind fun L0=>
  some L0.2 else
  if 0<cX then
  (pR nS).bind fun r32=>
  if aG.length+r32.1.length≤9223372036854775807 then
  if (aG++r32.1).length+aG.length≤9223372036854775807 then
  (bf b ((aG++r32.1)++aG)).bind fun L3=>
  if 0≤cX then
  if cX<(ic.length:Int) then
  (di L3.2.2 (ic.getD cX.toNat bh.z) (kA.getD cX.toNat 0)).bind fun L4=>
  kR di k L4 nS rQ rR ic rP kA o9 (aj (cX+1)) else none else none else none else none else
  if 0≤cX then
  if cX<(ic.length:Int) then
  (di b (ic.getD cX.toNat bh.z) (kA.getD cX.toNat 0)).bind fun L5=>
  kR di k L5 nS rQ rR ic rP kA o9 (aj (cX+1)) else none else none else none else none else
  (fV b 41).bind fun L6=>
  some L6.2
def kS (di:rW):Nat→(List UInt8)→Int→Int→(List UInt8)→(List bh)→Int→(List Int)→Int→Int→Option (List UInt8)
 | 0,_,_,_,_,_,_,_,_,_=>none
 | k+1,b,nS,rQ,rR,ic,rP,kA,o9,cX=>if cX<o9 then
  if 0≤cX then
  if cX<(kA.length:Int) then
  if (ic.length:Int)≤cX then
  some b else
  if 0<cX then
  (pR nS).bind fun z6=>
  if aG.length+z6.1.length≤9223372036854775807 then
  if (aG++z6.1).length+aG.length≤9223372036854775807 then
  (bf b ((aG++z6.1)++aG)).bind fun L8=>
  if 0≤cX then
  if cX<(ic.length:Int) then
  (di L8.2.2 (ic.getD cX.toNat bh.z) (kA.getD cX.toNat 0)).bind fun L9=>
  kS di k L9 nS rQ rR ic rP kA o9 (aj (cX+1)) else none else none else none else none else
  if 0≤cX then
  if cX<(ic.length:Int) then
  (di b (ic.getD cX.toNat bh.z) (kA.getD cX.toNat 0)).bind fun L_=>
  kS di k L_ nS rQ rR ic rP kA o9 (aj (cX+1)) else none else none else none else none else
  some b
def CC (di:rW) (k:Nat) (b:List UInt8) (e:bh) (asked:Int):Option (List UInt8):=(rU e.Kind).bind fun r1=>
 if r1<asked then
 (fV b 40).bind fun r2=>
 if e.Kind=1 then
 (oA e.N 10).bind fun r3=>
 (bf r2.2 r3).bind fun r4=>
 (gO e.Kind).bind fun r5=>
 kR di k r4.2.2 e.Kind e.N e.Name e.Kids e.At r5 (r5.length:Int) 0 else
 if e.Kind=3 then
 (fV r2.2 36).bind fun r6=>
 (gO e.Kind).bind fun r7=>
 kR di k r6.2 e.Kind e.N e.Name e.Kids e.At r7 (r7.length:Int) 0 else
 if e.Kind=2 then
 (bf r2.2 e.Name).bind fun r8=>
 (gO e.Kind).bind fun r9=>
 kR di k r8.2.2 e.Kind e.N e.Name e.Kids e.At r9 (r9.length:Int) 0 else
 if e.Kind=4 then
 if mq.length+e.Name.length≤9223372036854775807 then
 if (mq++e.Name).length+e_.length≤9223372036854775807 then
 (bf r2.2 ((mq++e.Name)++e_)).bind fun eX=>
 (gO e.Kind).bind fun fK=>
 kR di k eX.2.2 e.Kind e.N e.Name e.Kids e.At fK (fK.length:Int) 0 else none else none else
 if e.Kind=5 then
 (fV r2.2 45).bind fun fq=>
 (gO e.Kind).bind fun fF=>
 kR di k fq.2 e.Kind e.N e.Name e.Kids e.At fF (fF.length:Int) 0 else
 if e.Kind=6 then
 (fV r2.2 33).bind fun dF=>
 (gO e.Kind).bind fun iO=>
 kR di k dF.2 e.Kind e.N e.Name e.Kids e.At iO (iO.length:Int) 0 else
 (gO e.Kind).bind fun r16=>
 kR di k r2.2 e.Kind e.N e.Name e.Kids e.At r16 (r16.length:Int) 0 else
 if e.Kind=1 then
 (oA e.N 10).bind fun jB=>
 (bf b jB).bind fun jC=>
 (gO e.Kind).bind fun lq=>
 kS di k jC.2.2 e.Kind e.N e.Name e.Kids e.At lq (lq.length:Int) 0 else
 if e.Kind=3 then
 (fV b 36).bind fun qj=>
 (gO e.Kind).bind fun qk=>
 kS di k qj.2 e.Kind e.N e.Name e.Kids e.At qk (qk.length:Int) 0 else
 if e.Kind=2 then
 (bf b e.Name).bind fun ql=>
 (gO e.Kind).bind fun m4=>
 kS di k ql.2.2 e.Kind e.N e.Name e.Kids e.At m4 (m4.length:Int) 0 else
 if e.Kind=4 then
 if mq.length+e.Name.length≤9223372036854775807 then
 if (mq++e.Name).length+e_.length≤9223372036854775807 then
 (bf b ((mq++e.Name)++e_)).bind fun tu=>
 (gO e.Kind).bind fun oD=>
 kS di k tu.2.2 e.Kind e.N e.Name e.Kids e.At oD (oD.length:Int) 0 else none else none else
 if e.Kind=5 then
 (fV b 45).bind fun zZ=>
 (gO e.Kind).bind fun Ev=>
 kS di k zZ.2 e.Kind e.N e.Name e.Kids e.At Ev (Ev.length:Int) 0 else
 if e.Kind=6 then
 (fV b 33).bind fun LZ=>
 (gO e.Kind).bind fun Ew=>
 kS di k LZ.2 e.Kind e.N e.Name e.Kids e.At Ew (Ew.length:Int) 0 else
 (gO e.Kind).bind fun Ey=>
 kS di k b e.Kind e.N e.Name e.Kids e.At Ey (Ey.length:Int) 0
def uQ:Nat→(List UInt8)→bh→Int→Option (List UInt8)
 | 0,_,_,_=>none
 | k+1,x0,x1,x2=>CC (uQ k) k x0 x1 x2
def xW  (b:List UInt8) (e:bh) (asked:Int):Option (List UInt8):=cx (fun k (x:List UInt8×bh×Int)=>uQ k x.1 x.2.1 x.2.2) (b,e,asked)
theorem II (di:rW) (k:Nat) (Je:aM Tryd.prog S (rV di)):aM Tryd.prog S (rV (CC di k)):=
 ye pk ⟨[xU rU,xO,Ci,kN,CA gO,xS pR,rV di],[],false,false,false,some (89,[.tmp 0, .const (.int .u8 41)]),[xO]⟩ ⟨Cz,Eg,Ee,lp,IC,Cy,Je,trivial⟩ (all_cons LC all_nil) (all_nil) Tryd.func90 [] k (fun k=> [(0,⟨[0,4,55,56,57],[q7,Ek,qi,q5,q5],fun x=>kR di k x.1 x.2.1.1 x.2.1.2.1 x.2.1.2.2.1 x.2.1.2.2.2.1 x.2.1.2.2.2.2 x.2.2.1 x.2.2.2.1 x.2.2.2.2,true⟩),(0,⟨[0,4,55,56,57],[q7,Ek,qi,q5,q5],fun x=>kS di k x.1 x.2.1.1 x.2.1.2.1 x.2.1.2.2.1 x.2.1.2.2.2.1 x.2.1.2.2.2.2 x.2.2.1 x.2.2.2.1 x.2.2.2.2,false⟩)]) ⟨fun _=>rfl,fun _=>rfl,trivial⟩ (fun _=>by kernel_rfl) (fun _=>by kernel_rfl) (by kernel_rfl)
theorem IG:aM Tryd.prog S (rV (xW)):=oU (fun k x=>uQ k x.1 x.2.1 x.2.2) (fun _=>rfl) Tryd.func90 (by kernel_rfl) (fun _=>rfl) fun k h=>II (uQ k) k h
abbrev Iz:=bh→Option (List UInt8)
abbrev xR (f:Iz):Entry S:=⟨71,[vL],[q1],fun x=>f x⟩
def rT  (e:bh):Option (List UInt8):=(xW [] (bh.mk e.Kind e.N e.Name e.Kids e.At) 1).bind fun r1=>
 (kK r1).bind fun r2=>
 some r2.1
theorem Cw:aM Tryd.prog S (xR (rT)):=
 gk pk [rV xW,nR] ⟨IG,oB,trivial⟩ Tryd.func71 (by kernel_rfl) (fun _=>by kernel_rfl) (by kernel_rfl)
abbrev mP:=(List UInt8)→(List bG)→Int→Option (List UInt8)
abbrev pF (f:mP):Entry S:=⟨70,[q7,tr,q5],[],fun x=>f x.1 x.2.1 x.2.2⟩
abbrev G8:=(List UInt8)→bG→Int→Option (List UInt8)
abbrev BB (f:G8):Entry S:=⟨88,[q7,El,q5],[],fun x=>f x.1 x.2.1 x.2.2⟩
def w5 (dJ:mP):Nat→(List UInt8)→Int→Int→(List UInt8)→(List UInt8)→(List bh)→Int→(List bG)→(List bG)→Int→(List UInt8)→(List bh)→Int→Int→Option (List UInt8)
 | 0,_,_,_,_,_,_,_,_,_,_,_,_,_,_=>none
 | k+1,b,aD,ia,cC,gB,Bv,wW,rB,rA,G3,x,kz,lI,jh=>if jh<lI then
  if 0≤jh then
  if jh<(kz.length:Int) then
  (rT (bh.mk ((kz.getD jh.toNat bh.z).Kind) ((kz.getD jh.toNat bh.z).N) ((kz.getD jh.toNat bh.z).Name) ((kz.getD jh.toNat bh.z).Kids) ((kz.getD jh.toNat bh.z).At))).bind fun r1=>
  w5 dJ k b aD ia cC gB Bv wW rB rA G3 r1 kz lI (aj (jh+1)) else none else none else
  if 0<(Bv.length:Int) then
  if fM.length+x.length≤9223372036854775807 then
  if (fM++x).length+e_.length≤9223372036854775807 then
  if ia=1 then
  if cC.length+fO.length≤9223372036854775807 then
  if (cC++fO).length+x.length≤9223372036854775807 then
  if ((cC++fO)++x).length+bq.length≤9223372036854775807 then
  (bf b (((cC++fO)++x)++bq)).bind fun r2=>
  some r2.2.2 else none else none else none else
  if ia=2 then
  if jI.length+gB.length≤9223372036854775807 then
  if (jI++gB).length+((fM++x)++e_).length≤9223372036854775807 then
  if ((jI++gB)++((fM++x)++e_)).length+bq.length≤9223372036854775807 then
  (bf b (((jI++gB)++((fM++x)++e_))++bq)).bind fun r3=>
  some r3.2.2 else none else none else none else
  if ia=3 then
  if gr.length+cC.length≤9223372036854775807 then
  if (gr++cC).length+aG.length≤9223372036854775807 then
  if ((gr++cC)++aG).length+gB.length≤9223372036854775807 then
  if (((gr++cC)++aG)++gB).length+((fM++x)++e_).length≤9223372036854775807 then
  if ((((gr++cC)++aG)++gB)++((fM++x)++e_)).length+bq.length≤9223372036854775807 then
  (bf b (((((gr++cC)++aG)++gB)++((fM++x)++e_))++bq)).bind fun r4=>
  some r4.2.2 else none else none else none else none else none else
  if ia=4 then
  if jH.length+cC.length≤9223372036854775807 then
  if (jH++cC).length+((fM++x)++e_).length≤9223372036854775807 then
  if ((jH++cC)++((fM++x)++e_)).length+bq.length≤9223372036854775807 then
  (bf b (((jH++cC)++((fM++x)++e_))++bq)).bind fun r5=>
  some r5.2.2 else none else none else none else
  if ia=5 then
  if mo.length+cC.length≤9223372036854775807 then
  if (mo++cC).length+bq.length≤9223372036854775807 then
  (bf b ((mo++cC)++bq)).bind fun r6=>
  some r6.2.2 else none else none else
  if ia=6 then
  if jf.length+((fM++x)++e_).length≤9223372036854775807 then
  if (jf++((fM++x)++e_)).length+aG.length≤9223372036854775807 then
  (bf b ((jf++((fM++x)++e_))++aG)).bind fun r7=>
  (dJ r7.2.2 rB aD).bind fun r8=>
  if 0<(rA.length:Int) then
  (bf r8 tJ).bind fun r9=>
  (dJ r9.2.2 rA aD).bind fun eX=>
  some eX else
  some r8 else none else none else
  if ia=7 then
  (gW wW).bind fun fK=>
  if lE.length+fK.length≤9223372036854775807 then
  if (lE++fK).length+aG.length≤9223372036854775807 then
  (bf b ((lE++fK)++aG)).bind fun fq=>
  (dJ fq.2.2 rB aD).bind fun fF=>
  some fF else none else none else
  some b else none else none else
  if ia=1 then
  if cC.length+fO.length≤9223372036854775807 then
  if (cC++fO).length+x.length≤9223372036854775807 then
  if ((cC++fO)++x).length+bq.length≤9223372036854775807 then
  (bf b (((cC++fO)++x)++bq)).bind fun dF=>
  some dF.2.2 else none else none else none else
  if ia=2 then
  if jI.length+gB.length≤9223372036854775807 then
  if (jI++gB).length+([]:List UInt8).length≤9223372036854775807 then
  if ((jI++gB)++ []).length+bq.length≤9223372036854775807 then
  (bf b (((jI++gB)++ [])++bq)).bind fun iO=>
  some iO.2.2 else none else none else none else
  if ia=3 then
  if gr.length+cC.length≤9223372036854775807 then
  if (gr++cC).length+aG.length≤9223372036854775807 then
  if ((gr++cC)++aG).length+gB.length≤9223372036854775807 then
  if (((gr++cC)++aG)++gB).length+([]:List UInt8).length≤9223372036854775807 then
  if ((((gr++cC)++aG)++gB)++ []).length+bq.length≤9223372036854775807 then
  (bf b (((((gr++cC)++aG)++gB)++ [])++bq)).bind fun r16=>
  some r16.2.2 else none else none else none else none else none else
  if ia=4 then
  if jH.length+cC.length≤9223372036854775807 then
  if (jH++cC).length+([]:List UInt8).length≤9223372036854775807 then
  if ((jH++cC)++ []).length+bq.length≤9223372036854775807 then
  (bf b (((jH++cC)++ [])++bq)).bind fun jB=>
  some jB.2.2 else none else none else none else
  if ia=5 then
  if mo.length+cC.length≤9223372036854775807 then
  if (mo++cC).length+bq.length≤9223372036854775807 then
  (bf b ((mo++cC)++bq)).bind fun jC=>
  some jC.2.2 else none else none else
  if ia=6 then
  if jf.length+([]:List UInt8).length≤9223372036854775807 then
  if (jf++ []).length+aG.length≤9223372036854775807 then
  (bf b ((jf++ [])++aG)).bind fun lq=>
  (dJ lq.2.2 rB aD).bind fun qj=>
  if 0<(rA.length:Int) then
  (bf qj tJ).bind fun qk=>
  (dJ qk.2.2 rA aD).bind fun ql=>
  some ql else
  some qj else none else none else
  if ia=7 then
  (gW wW).bind fun m4=>
  if lE.length+m4.length≤9223372036854775807 then
  if (lE++m4).length+aG.length≤9223372036854775807 then
  (bf b ((lE++m4)++aG)).bind fun tu=>
  (dJ tu.2.2 rB aD).bind fun oD=>
  some oD else none else none else
  some b
def BA (dJ:mP) (k:Nat) (b:List UInt8) (a:bG) (aD:Int):Option (List UInt8):=w5 dJ k b aD a.Kind a.Name a.Event a.X a.N a.ry a.ri a.At [] a.X (a.X.length:Int) 0
def w4 (dJ:mP)  (b:List UInt8) (a:bG) (aD:Int):Option (List UInt8):=cx (fun k (x:List UInt8×bG×Int)=>BA dJ k x.1 x.2.1 x.2.2) (b,a,aD)
theorem G7 (dJ:mP) (yA:aM Tryd.prog S (pF dJ)):aM Tryd.prog S (BB (w4 dJ)):=fQ (fun k x=>BA dJ k x.1 x.2.1 x.2.2) (fun _=>rfl) fun k=>
 ff pk [xR rT,kN,pF dJ,pP] ⟨Cw,lp,yA,qf,trivial⟩ Tryd.func88 [] k (fun k=> [(0,⟨[0,2,4,6,11,12,13],[q7,q5,LO,q1,zW,q5,q5],fun x=>w5 dJ k x.1 x.2.1 x.2.2.1.1 x.2.2.1.2.1 x.2.2.1.2.2.1 x.2.2.1.2.2.2.1 x.2.2.1.2.2.2.2.1 x.2.2.1.2.2.2.2.2.1 x.2.2.1.2.2.2.2.2.2.1 x.2.2.1.2.2.2.2.2.2.2 x.2.2.2.1 x.2.2.2.2.1 x.2.2.2.2.2.1 x.2.2.2.2.2.2,false⟩)]) ⟨fun _=>rfl,trivial⟩ (fun _=>by kernel_rfl) (fun _=>by kernel_rfl) (by kernel_rfl)
def wZ (dJ:mP):Nat→(List UInt8)→Int→(List bG)→Int→Int→Option (List UInt8)
 | 0,_,_,_,_,_=>none
 | k+1,b,aD,hY,GC,jT=>if jT<GC then
  if 0≤jT then
  if jT<(hY.length:Int) then
  (m0 cW (aj (aD+1))).bind fun r3=>
  (bf b r3).bind fun r4=>
  (w4 dJ r4.2.2 (bG.mk ((hY.getD jT.toNat bG.z).Kind) ((hY.getD jT.toNat bG.z).Name) ((hY.getD jT.toNat bG.z).Event) ((hY.getD jT.toNat bG.z).X) ((hY.getD jT.toNat bG.z).N) ((hY.getD jT.toNat bG.z).ry) ((hY.getD jT.toNat bG.z).ri) ((hY.getD jT.toNat bG.z).At)) (aj (aD+1))).bind fun r5=>
  (fV r5 10).bind fun r6=>
  wZ dJ k r6.2 aD hY GC (aj (jT+1)) else none else none else
  (m0 cW aD).bind fun r7=>
  if r7.length+nj.length≤9223372036854775807 then
  (bf b (r7++nj)).bind fun r8=>
  some r8.2.2 else none
def Bz (dJ:mP) (k:Nat) (b:List UInt8) (l:List bG) (aD:Int):Option (List UInt8):=if (l.length:Int)=0 then
 (bf b Fy).bind fun r1=>
 some r1.2.2 else
 (bf b Fx).bind fun r2=>
 wZ dJ k r2.2.2 aD l (l.length:Int) 0
def uv:Nat→(List UInt8)→(List bG)→Int→Option (List UInt8)
 | 0,_,_,_=>none
 | k+1,x0,x1,x2=>Bz (uv k) k x0 x1 x2
def wY  (b:List UInt8) (l:List bG) (aD:Int):Option (List UInt8):=cx (fun k (x:List UInt8×List bG×Int)=>uv k x.1 x.2.1 x.2.2) (b,l,aD)
theorem G6 (dJ:mP) (k:Nat) (yA:aM Tryd.prog S (pF dJ)):aM Tryd.prog S (pF (Bz dJ k)):=
 ff pk [kN,xN,BB (w4 dJ),xO] ⟨lp,zO,G7 dJ yA,Eg,trivial⟩ Tryd.func70 [] k (fun k=> [(0,⟨[0,2,15,16,17],[q7,q5,tr,q5,q5],fun x=>wZ dJ k x.1 x.2.1 x.2.2.1 x.2.2.2.1 x.2.2.2.2,false⟩)]) ⟨fun _=>rfl,trivial⟩ (fun _=>by kernel_rfl) (fun _=>by kernel_rfl) (by kernel_rfl)
theorem G5:aM Tryd.prog S (pF (wY)):=oU (fun k x=>uv k x.1 x.2.1 x.2.2) (fun _=>rfl) Tryd.func70 (by kernel_rfl) (fun _=>rfl) fun k h=>G6 (uv k) k h
abbrev G4:=(List bG)→Int→Option (List UInt8)
abbrev wX (f:G4):Entry S:=⟨53,[tr,q5],[q1],fun x=>f x.1 x.2⟩
def mO  (l:List bG) (aD:Int):Option (List UInt8):=(wY [] l (max aD 0)).bind fun r1=>(kK r1).bind fun r2=>some r2.1
theorem By:aM Tryd.prog S (wX (mO)):=
 gk pk [pF wY,nR] ⟨G5,oB,trivial⟩ Tryd.func53 (by kernel_rfl) (fun _=>by kernel_rfl) (by kernel_rfl)
abbrev HZ:=(List UInt8)→fU→Int→Option (List UInt8)
abbrev B6 (f:HZ):Entry S:=⟨54,[q7,Em,q5],[],fun x=>f x.1 x.2.1 x.2.2⟩
def uH:Nat→(List UInt8)→Int→(List UInt8)→(List bh)→(List UInt8)→(List bG)→Int→(List bh)→Int→Int→Option (List UInt8)
 | 0,_,_,_,_,_,_,_,_,_,_=>none
 | k+1,b,aD,NT,NU,wC,tU,NS,o8,GD,mF=>if mF<GD then
  if 0≤mF then
  if mF<(o8.length:Int) then
  (rT (bh.mk ((o8.getD mF.toNat bh.z).Kind) ((o8.getD mF.toNat bh.z).N) ((o8.getD mF.toNat bh.z).Name) ((o8.getD mF.toNat bh.z).Kids) ((o8.getD mF.toNat bh.z).At))).bind fun r5=>
  if bY.length+r5.length≤9223372036854775807 then
  if (bY++r5).length+cz.length≤9223372036854775807 then
  (bf b ((bY++r5)++cz)).bind fun r6=>
  uH k r6.2.2 aD NT NU wC tU NS o8 GD (aj (mF+1)) else none else none else none else none else
  if wC≠ [] then
  if aX.length+wC.length≤9223372036854775807 then
  (bf b (aX++wC)).bind fun r7=>
  if (tU.length:Int)=0 then
  (bf r7.2.2 bS).bind fun r8=>
  some r8.2.2 else
  (mO tU aD).bind fun r9=>
  if aG.length+r9.length≤9223372036854775807 then
  if (aG++r9).length+eY.length≤9223372036854775807 then
  (bf r7.2.2 ((aG++r9)++eY)).bind fun eX=>
  some eX.2.2 else none else none else none else
  if (tU.length:Int)=0 then
  (bf b bS).bind fun fK=>
  some fK.2.2 else
  (mO tU aD).bind fun fq=>
  if aG.length+fq.length≤9223372036854775807 then
  if (aG++fq).length+eY.length≤9223372036854775807 then
  (bf b ((aG++fq)++eY)).bind fun fF=>
  some fF.2.2 else none else none
def B5 (k:Nat) (b:List UInt8) (t:fU) (aD:Int):Option (List UInt8):=(m0 cW aD).bind fun r1=>
 (bf b r1).bind fun r2=>
 if t.Event= [] then
 (bf r2.2.2 dH).bind fun r3=>
 uH k r3.2.2 aD t.Event t.Guard t.Target t.fS t.At t.Guard (t.Guard.length:Int) 0 else
 if dh.length+t.Event.length≤9223372036854775807 then
 (bf r2.2.2 (dh++t.Event)).bind fun r4=>
 uH k r4.2.2 aD t.Event t.Guard t.Target t.fS t.At t.Guard (t.Guard.length:Int) 0 else none
def xD  (b:List UInt8) (t:fU) (aD:Int):Option (List UInt8):=cx (fun k (x:List UInt8×fU×Int)=>B5 k x.1 x.2.1 x.2.2) (b,t,aD)
theorem HY:aM Tryd.prog S (B6 (xD)):=fQ (fun k x=>B5 k x.1 x.2.1 x.2.2) (fun _=>rfl) fun k=>
 ff pk [xN,kN,xR rT,wX mO] ⟨zO,lp,Cw,By,trivial⟩ Tryd.func54 [] k (fun k=> [(0,⟨[0,2,4,23,24,25],[q7,q5,LP,zW,q5,q5],fun x=>uH k x.1 x.2.1 x.2.2.1.1 x.2.2.1.2.1 x.2.2.1.2.2.1 x.2.2.1.2.2.2.1 x.2.2.1.2.2.2.2 x.2.2.2.1 x.2.2.2.2.1 x.2.2.2.2.2,false⟩)]) ⟨fun _=>rfl,trivial⟩ (fun _=>by kernel_rfl) (fun _=>by kernel_rfl) (by kernel_rfl)
abbrev rM:=(List UInt8)→bM→Int→Option (List UInt8)
abbrev rL (f:rM):Entry S:=⟨38,[q7,En,q5],[],fun x=>f x.1 x.2.1 x.2.2⟩
def xC (hH:rM):Nat→(List UInt8)→Int→(List UInt8)→(List bM)→Int→Int→Option (List UInt8)
 | 0,_,_,_,_,_,_=>none
 | k+1,b,aD,pK,mE,GA,ku=>if ku<GA then
  if 0≤ku then
  if ku<(mE.length:Int) then
  (hH b (bM.mk ((mE.getD ku.toNat bM.z).Kind) ((mE.getD ku.toNat bM.z).Name) ((mE.getD ku.toNat bM.z).Entry) ((mE.getD ku.toNat bM.z).Exit) ((mE.getD ku.toNat bM.z).Trans) ((mE.getD ku.toNat bM.z).Kids) ((mE.getD ku.toNat bM.z).At)) (aj (aD+1))).bind fun iO=>
  xC hH k iO aD pK mE GA (aj (ku+1)) else none else none else
  if pK.length+jJ.length≤9223372036854775807 then
  (bf b (pK++jJ)).bind fun r16=>
  some r16.2.2 else none
def pM (hH:rM):Nat→(List UInt8)→Int→Int→(List UInt8)→(List bG)→(List bG)→(List fU)→(List bM)→Int→(List UInt8)→(List fU)→Int→Int→Option (List UInt8)
 | 0,_,_,_,_,_,_,_,_,_,_,_,_,_=>none
 | k+1,b,aD,qF,qG,qD,qE,mm,kn,qB,pK,Bl,GJ,uk=>if uk<GJ then
  if 0≤uk then
  if uk<(Bl.length:Int) then
  (xD b (Bl.getD uk.toNat fU.z) (aj (aD+1))).bind fun dF=>
  pM hH k dF aD qF qG qD qE mm kn qB pK Bl GJ (aj (uk+1)) else none else none else
  xC hH k b aD pK kn (kn.length:Int) 0
def B4 (hH:rM) (k:Nat) (b:List UInt8) (s:bM) (aD:Int):Option (List UInt8):=(m0 cW aD).bind fun r1=>
 (xE s.Kind).bind fun r2=>
 if r1.length+r2.length≤9223372036854775807 then
 if (r1++r2).length+s.Name.length≤9223372036854775807 then
 (bf b ((r1++r2)++s.Name)).bind fun r3=>
 if s.Kind=3 then
 (bf r3.2.2 bS).bind fun r4=>
 some r4.2.2 else
 if s.Kind=4 then
 (bf r3.2.2 bS).bind fun r5=>
 some r5.2.2 else
 if (aj ((aj ((aj ((s.Entry.length:Int)+(s.Exit.length:Int)))+(s.Trans.length:Int)))+(s.Kids.length:Int)))=0 then
 (bf r3.2.2 Nq).bind fun r6=>
 some r6.2.2 else
 (bf r3.2.2 AT).bind fun r7=>
 if 0<(s.Entry.length:Int) then
 if r1.length+cW.length≤9223372036854775807 then
 if (r1++cW).length+ng.length≤9223372036854775807 then
 (mO s.Entry (aj (aD+1))).bind fun r8=>
 if ((r1++cW)++ng).length+r8.length≤9223372036854775807 then
 if (((r1++cW)++ng)++r8).length+eY.length≤9223372036854775807 then
 (bf r7.2.2 ((((r1++cW)++ng)++r8)++eY)).bind fun r9=>
 if 0<(s.Exit.length:Int) then
 if r1.length+cW.length≤9223372036854775807 then
 if (r1++cW).length+gY.length≤9223372036854775807 then
 (mO s.Exit (aj (aD+1))).bind fun eX=>
 if ((r1++cW)++gY).length+eX.length≤9223372036854775807 then
 if (((r1++cW)++gY)++eX).length+eY.length≤9223372036854775807 then
 (bf r9.2.2 ((((r1++cW)++gY)++eX)++eY)).bind fun fK=>
 pM hH k fK.2.2 aD s.Kind s.Name s.Entry s.Exit s.Trans s.Kids s.At r1 s.Trans (s.Trans.length:Int) 0 else none else none else none else none else
 pM hH k r9.2.2 aD s.Kind s.Name s.Entry s.Exit s.Trans s.Kids s.At r1 s.Trans (s.Trans.length:Int) 0 else none else none else none else none else
 if 0<(s.Exit.length:Int) then
 if r1.length+cW.length≤9223372036854775807 then
 if (r1++cW).length+gY.length≤9223372036854775807 then
 (mO s.Exit (aj (aD+1))).bind fun fq=>
 if ((r1++cW)++gY).length+fq.length≤9223372036854775807 then
 if (((r1++cW)++gY)++fq).length+eY.length≤9223372036854775807 then
 (bf r7.2.2 ((((r1++cW)++gY)++fq)++eY)).bind fun fF=>
 pM hH k fF.2.2 aD s.Kind s.Name s.Entry s.Exit s.Trans s.Kids s.At r1 s.Trans (s.Trans.length:Int) 0 else none else none else none else none else
 pM hH k r7.2.2 aD s.Kind s.Name s.Entry s.Exit s.Trans s.Kids s.At r1 s.Trans (s.Trans.length:Int) 0 else none else none
def uG:Nat→(List UInt8)→bM→Int→Option (List UInt8)
 | 0,_,_,_=>none
 | k+1,x0,x1,x2=>B4 (uG k) k x0 x1 x2
def xB  (b:List UInt8) (s:bM) (aD:Int):Option (List UInt8):=cx (fun k (x:List UInt8×bM×Int)=>uG k x.1 x.2.1 x.2.2) (b,s,aD)
theorem HX (hH:rM) (k:Nat) (Jd:aM Tryd.prog S (rL hH)):aM Tryd.prog S (rL (B4 hH k)):=
 ff pk [xN,B7 xE,kN,wX mO,B6 xD,rL hH] ⟨zO,H6,lp,By,HY,Jd,trivial⟩ Tryd.func38 [] k (fun k=> [(0,⟨[0,2,4,6,88,89,90],[q7,q5,zX,q1,LQ,q5,q5],fun x=>pM hH k x.1 x.2.1 x.2.2.1.1 x.2.2.1.2.1 x.2.2.1.2.2.1 x.2.2.1.2.2.2.1 x.2.2.1.2.2.2.2.1 x.2.2.1.2.2.2.2.2.1 x.2.2.1.2.2.2.2.2.2 x.2.2.2.1 x.2.2.2.2.1 x.2.2.2.2.2.1 x.2.2.2.2.2.2,false⟩),(2,⟨[0,2,6,101,102,103],[q7,q5,q1,Eo,q5,q5],fun x=>xC hH k x.1 x.2.1 x.2.2.1 x.2.2.2.1 x.2.2.2.2.1 x.2.2.2.2.2,false⟩)]) ⟨fun _=>rfl,fun _=>rfl,trivial⟩ (fun _=>by kernel_rfl) (fun _=>by kernel_rfl) (by kernel_rfl)
theorem HW:aM Tryd.prog S (rL (xB)):=oU (fun k x=>uG k x.1 x.2.1 x.2.2) (fun _=>rfl) Tryd.func38 (by kernel_rfl) (fun _=>rfl) fun k h=>HX (uG k) k h
abbrev HV:=fH→Option (List UInt8)
abbrev B3 (f:HV):Entry S:=⟨26,[Ep],[q1],fun x=>f x⟩
def xA:Nat→(List UInt8)→(List bM)→Int→Int→Option (List UInt8)
 | 0,_,_,_,_=>none
 | k+1,b,mG,GI,kB=>if kB<GI then
  if 0≤kB then
  if kB<(mG.length:Int) then
  (xB b (bM.mk ((mG.getD kB.toNat bM.z).Kind) ((mG.getD kB.toNat bM.z).Name) ((mG.getD kB.toNat bM.z).Entry) ((mG.getD kB.toNat bM.z).Exit) ((mG.getD kB.toNat bM.z).Trans) ((mG.getD kB.toNat bM.z).Kids) ((mG.getD kB.toNat bM.z).At)) 1).bind fun r8=>
  xA k r8 mG GI (aj (kB+1)) else none else none else
  (bf b jJ).bind fun r9=>
  (kK r9.2.2).bind fun eX=>
  some eX.1
def xz:Nat→(List UInt8)→Int→Int→(List br)→(List br)→(List br)→(List bM)→Int→(List UInt8)→(List br)→Int→Int→Option (List UInt8)
 | 0,_,_,_,_,_,_,_,_,_,_,_,_=>none
 | k+1,ec,gi,gh,dN,dY,dZ,eP,dM,b,uh,GH,o_=>if o_<GH then
  if 0≤o_ then
  if o_<(uh.length:Int) then
  if AW.length+((uh.getD o_.toNat br.z).Name).length≤9223372036854775807 then
  if (AW++((uh.getD o_.toNat br.z).Name)).length+bS.length≤9223372036854775807 then
  (bf b ((AW++((uh.getD o_.toNat br.z).Name))++bS)).bind fun r7=>
  xz k ec gi gh dN dY dZ eP dM r7.2.2 uh GH (aj (o_+1)) else none else none else none else none else
  xA k b eP (eP.length:Int) 0
def xy:Nat→(List UInt8)→Int→Int→(List br)→(List br)→(List br)→(List bM)→Int→(List UInt8)→(List br)→Int→Int→Option (List UInt8)
 | 0,_,_,_,_,_,_,_,_,_,_,_,_=>none
 | k+1,ec,gi,gh,dN,dY,dZ,eP,dM,b,uf,qT,lK=>if lK<qT then
  if 0≤lK then
  if lK<(uf.length:Int) then
  if AO.length+((uf.getD lK.toNat br.z).Name).length≤9223372036854775807 then
  if (AO++((uf.getD lK.toNat br.z).Name)).length+bS.length≤9223372036854775807 then
  (bf b ((AO++((uf.getD lK.toNat br.z).Name))++bS)).bind fun r6=>
  xy k ec gi gh dN dY dZ eP dM r6.2.2 uf qT (aj (lK+1)) else none else none else none else none else
  xz k ec gi gh dN dY dZ eP dM b dZ (dZ.length:Int) 0
def xw:Nat→(List UInt8)→Int→Int→(List br)→(List br)→(List br)→(List bM)→Int→(List UInt8)→(List br)→Int→Int→Option (List UInt8)
 | 0,_,_,_,_,_,_,_,_,_,_,_,_=>none
 | k+1,ec,gi,gh,dN,dY,dZ,eP,dM,b,nE,GF,lJ=>if lJ<GF then
  if 0≤lJ then
  if lJ<(nE.length:Int) then
  if tM.length+((nE.getD lJ.toNat br.z).Name).length≤9223372036854775807 then
  if (tM++((nE.getD lJ.toNat br.z).Name)).length+fO.length≤9223372036854775807 then
  (oA ((nE.getD lJ.toNat br.z).N) 10).bind fun r4=>
  if ((tM++((nE.getD lJ.toNat br.z).Name))++fO).length+r4.length≤9223372036854775807 then
  if (((tM++((nE.getD lJ.toNat br.z).Name))++fO)++r4).length+bS.length≤9223372036854775807 then
  (bf b ((((tM++((nE.getD lJ.toNat br.z).Name))++fO)++r4)++bS)).bind fun r5=>
  xw k ec gi gh dN dY dZ eP dM r5.2.2 nE GF (aj (lJ+1)) else none else none else none else none else none else none else
  xy k ec gi gh dN dY dZ eP dM b dY (dY.length:Int) 0
def BZ (k:Nat) (c:fH):Option (List UInt8):=if iR.length+c.Name.length≤9223372036854775807 then
 if (iR++c.Name).length+jL.length≤9223372036854775807 then
 (gW c.Steps).bind fun r1=>
 if ((iR++c.Name)++jL).length+r1.length≤9223372036854775807 then
 if (((iR++c.Name)++jL)++r1).length+nh.length≤9223372036854775807 then
 (gW c.Fuel).bind fun r2=>
 if ((((iR++c.Name)++jL)++r1)++nh).length+r2.length≤9223372036854775807 then
 if (((((iR++c.Name)++jL)++r1)++nh)++r2).length+AT.length≤9223372036854775807 then
 (bf [] ((((((iR++c.Name)++jL)++r1)++nh)++r2)++AT)).bind fun r3=>
 xw k c.Name c.Steps c.Fuel c.rz c.wK c.wT c.wR c.At r3.2.2 c.rz (c.rz.length:Int) 0 else none else none else none else none else none else none
def xu  (c:fH):Option (List UInt8):=cx (fun k (x:fH)=>BZ k x) c
theorem HU:aM Tryd.prog S (B3 (xu)):=fQ (fun k x=>BZ k x) (fun _=>rfl) fun k=>
 ff pk [pP,kN,Ci,rL xB,nR] ⟨qf,lp,Ee,HW,oB,trivial⟩ Tryd.func26 [] k (fun k=> [(0,⟨[1,3,28,29,30],[oC,q7,zY,q5,q5],fun x=>xw k x.1.1 x.1.2.1 x.1.2.2.1 x.1.2.2.2.1 x.1.2.2.2.2.1 x.1.2.2.2.2.2.1 x.1.2.2.2.2.2.2.1 x.1.2.2.2.2.2.2.2 x.2.1 x.2.2.1 x.2.2.2.1 x.2.2.2.2,false⟩),(2,⟨[1,3,46,47,48],[oC,q7,zY,q5,q5],fun x=>xy k x.1.1 x.1.2.1 x.1.2.2.1 x.1.2.2.2.1 x.1.2.2.2.2.1 x.1.2.2.2.2.2.1 x.1.2.2.2.2.2.2.1 x.1.2.2.2.2.2.2.2 x.2.1 x.2.2.1 x.2.2.2.1 x.2.2.2.2,false⟩),(4,⟨[1,3,59,60,61],[oC,q7,zY,q5,q5],fun x=>xz k x.1.1 x.1.2.1 x.1.2.2.1 x.1.2.2.2.1 x.1.2.2.2.2.1 x.1.2.2.2.2.2.1 x.1.2.2.2.2.2.2.1 x.1.2.2.2.2.2.2.2 x.2.1 x.2.2.1 x.2.2.2.1 x.2.2.2.2,false⟩),(6,⟨[3,72,73,74],[q7,Eo,q5,q5],fun x=>xA k x.1 x.2.1 x.2.2.1 x.2.2.2,false⟩)]) ⟨fun _=>rfl,fun _=>rfl,fun _=>rfl,fun _=>rfl,trivial⟩ (fun _=>by kernel_rfl) (fun _=>by kernel_rfl) (by kernel_rfl)
abbrev Nz:=fI→Option (List UInt8)
abbrev FK (f:Nz):Entry S:=⟨13,[Er],[q1],fun x=>f x⟩
def wu:Nat→Int→(List fH)→(List aN)→(List aC)→(List an)→(List UInt8)→(List fH)→Int→Int→Option (List UInt8)
 | 0,_,_,_,_,_,_,_,_,_=>none
 | k+1,AA,qC,tI,tH,tG,b,jh,GB,hY=>if hY<GB then
  if 0≤hY then
  if hY<(jh.length:Int) then
  (xu (jh.getD hY.toNat fH.z)).bind fun r3=>
  (bf b r3).bind fun r4=>
  wu k AA qC tI tH tG r4.2.2 jh GB (aj (hY+1)) else none else none else
  (kK b).bind fun r5=>
  (oS tI).bind fun r6=>
  if r5.1.length+r6.length≤9223372036854775807 then
  (qM tH).bind fun r7=>
  if (r5.1++r6).length+r7.length≤9223372036854775807 then
  (nq tG).bind fun r8=>
  if ((r5.1++r6)++r7).length+r8.length≤9223372036854775807 then
  some (((r5.1++r6)++r7)++r8) else none else none else none
def wq (k:Nat) (s:fI):Option (List UInt8):=(gW s.qW).bind fun r1=>
 if nk.length+r1.length≤9223372036854775807 then
 if (nk++r1).length+bS.length≤9223372036854775807 then
 (bf [] ((nk++r1)++bS)).bind fun r2=>
 wu k s.qW s.qY s.Insts s.ga s.wI r2.2.2 s.qY (s.qY.length:Int) 0 else none else none
def wo  (s:fI):Option (List UInt8):=cx (fun k (x:fI)=>wq k x) s
theorem Ny:aM Tryd.prog S (FK (wo)):=fQ (fun k x=>wq k x) (fun _=>rfl) fun k=>
 ff pk [pP,kN,B3 xu,nR,A2 oS,A1 qM,wk nq] ⟨qf,lp,HU,oB,FJ,FH,A0,trivial⟩ Tryd.func13 [] k (fun k=> [(0,⟨[1,3,13,14,15],[Es,q7,LR,q5,q5],fun x=>wu k x.1.1 x.1.2.1 x.1.2.2.1 x.1.2.2.2.1 x.1.2.2.2.2 x.2.1 x.2.2.1 x.2.2.2.1 x.2.2.2.2,false⟩)]) ⟨fun _=>rfl,trivial⟩ (fun _=>by kernel_rfl) (fun _=>by kernel_rfl) (by kernel_rfl)
abbrev Mz:=Int→Option (List UInt8)
abbrev Ag (f:Mz):Entry S:=⟨45,[q5],[q1],fun x=>f x⟩
def Ah:Nat→Int→(List UInt8)→Int→Option (List UInt8)
 | 0,_,_,_=>none
 | k+1,n,s,i=>if i<n then
  if s.length+cW.length≤9223372036854775807 then
  Ah k n (s++cW) (aj (i+1)) else none else
  some s
def E1 (k:Nat) (n:Int):Option (List UInt8):=Ah k n [] 0
def qw  (n:Int):Option (List UInt8):=cx (fun k (x:Int)=>E1 k x) n
theorem E2:aM Tryd.prog S (Ag (qw)):=fQ (fun k x=>E1 k x) (fun _=>rfl) fun k=>
 ff pk [] trivial Tryd.func45 [] k (fun k=> [(0,⟨[0,3,4],[q5,q1,q5],fun x=>Ah k x.1 x.2.1 x.2.2,false⟩)]) ⟨fun _=>rfl,trivial⟩ (fun _=>by kernel_rfl) (fun _=>by kernel_rfl) (by kernel_rfl)
abbrev MH:=Int→(List UInt8)→Option (List UInt8)
abbrev vV (f:MH):Entry S:=⟨31,[q5,q1],[q1],fun x=>f x.1 x.2⟩
def cy  (aD:Int) (s:List UInt8):Option (List UInt8):=(qw aD).bind fun r1=>
 if r1.length+s.length≤9223372036854775807 then
 if (r1++s).length+eY.length≤9223372036854775807 then
 some ((r1++s)++eY) else none else none
theorem Ap:aM Tryd.prog S (vV (cy)):=
 gk pk [Ag qw] ⟨E2,trivial⟩ Tryd.func31 (by kernel_rfl) (fun _=>by kernel_rfl) (by kernel_rfl)
abbrev Mw:=Int→Option Int
abbrev Af (f:Mw):Entry S:=⟨77,[q5],[q5],fun x=>f x⟩
def tA  (k_:Int):Option Int:=if k_=19 then
 some 1 else
 if k_=18 then
 some 2 else
 if 12≤k_ then
 if k_≤17 then
 some 3 else
 if k_=10 then
 some 4 else
 if k_=11 then
 some 4 else
 if k_=7 then
 some 5 else
 if k_=8 then
 some 5 else
 if k_=9 then
 some 5 else
 if k_=5 then
 some 6 else
 if k_=6 then
 some 6 else
 some 7 else
 if k_=10 then
 some 4 else
 if k_=11 then
 some 4 else
 if k_=7 then
 some 5 else
 if k_=8 then
 some 5 else
 if k_=9 then
 some 5 else
 if k_=5 then
 some 6 else
 if k_=6 then
 some 6 else
 some 7
theorem EZ:aM Tryd.prog S (Af (tA)):=
 gk pk [] trivial Tryd.func77 (by kernel_rfl) (fun _=>by kernel_rfl) (by kernel_rfl)
abbrev My:=Int→Option (List UInt8)
abbrev E0 (f:My):Entry S:=⟨78,[q5],[q1],fun x=>f x⟩
def m_  (k_:Int):Option (List UInt8):=if 0≤k_ then
 if k_<(Fg.length:Int) then
 some (Fg.getD k_.toNat []) else none else none
theorem Mx:aM Tryd.prog S (E0 (m_)):=
 gk pk [] trivial Tryd.func78 (by kernel_rfl) (fun _=>by kernel_rfl) (by kernel_rfl)
abbrev tw:=bh→Option (List UInt8)
abbrev m9 (f:tw):Entry S:=⟨61,[vL],[q1],fun x=>f x⟩
abbrev Mv:=bh→Int→Option (List UInt8)
abbrev EY (f:Mv):Entry S:=⟨79,[vL,q5],[q1],fun x=>f x.1 x.2⟩
def jE (fy:tw)  (e:bh) (asks:Int):Option (List UInt8):=(tA e.Kind).bind fun r1=>
 if r1<asks then
 (fy (bh.mk e.Kind e.N e.Name e.Kids e.At)).bind fun r2=>
 if fM.length+r2.length≤9223372036854775807 then
 if (fM++r2).length+e_.length≤9223372036854775807 then
 some ((fM++r2)++e_) else none else none else
 (fy (bh.mk e.Kind e.N e.Name e.Kids e.At)).bind fun r3=>
 some r3
theorem Mu (fy:tw) (yB:aM Tryd.prog S (m9 fy)):aM Tryd.prog S (EY (jE fy)):=
 gk pk [Af tA,m9 fy] ⟨EZ,yB,trivial⟩ Tryd.func79 (by kernel_rfl) (fun _=>by kernel_rfl) (by kernel_rfl)
def EX (fy:tw) (k:Nat) (e:bh):Option (List UInt8):=(tA e.Kind).bind fun r1=>
 if e.Kind=1 then
 (jD e.N).bind fun r2=>
 some r2 else
 if e.Kind=2 then
 some e.Name else
 if e.Kind=3 then
 some Np else
 if e.Kind=4 then
 if mq.length+e.Name.length≤9223372036854775807 then
 if (mq++e.Name).length+e_.length≤9223372036854775807 then
 some ((mq++e.Name)++e_) else none else none else
 if e.Kind=5 then
 if e.Kind=5 then
 (m_ e.Kind).bind fun r3=>
 if (0:Int)≤0 then
 if 0<(e.Kids.length:Int) then
 (jE fy (e.Kids.getD (0:Int).toNat bh.z) 6).bind fun r4=>
 if r3.length+r4.length≤9223372036854775807 then
 some (r3++r4) else none else none else none else
 if r1=3 then
 if (0:Int)≤0 then
 if 0<(e.Kids.length:Int) then
 (jE fy (e.Kids.getD (0:Int).toNat bh.z) 4).bind fun r5=>
 if r5.length+aG.length≤9223372036854775807 then
 (m_ e.Kind).bind fun r6=>
 if (r5++aG).length+r6.length≤9223372036854775807 then
 if ((r5++aG)++r6).length+aG.length≤9223372036854775807 then
 if (0:Int)≤1 then
 if 1<(e.Kids.length:Int) then
 (jE fy (e.Kids.getD (1:Int).toNat bh.z) (aj (r1+1))).bind fun r7=>
 if (((r5++aG)++r6)++aG).length+r7.length≤9223372036854775807 then
 some ((((r5++aG)++r6)++aG)++r7) else none else none else none else none else none else none else none else none else
 if (0:Int)≤0 then
 if 0<(e.Kids.length:Int) then
 (jE fy (e.Kids.getD (0:Int).toNat bh.z) r1).bind fun r8=>
 if r8.length+aG.length≤9223372036854775807 then
 (m_ e.Kind).bind fun r9=>
 if (r8++aG).length+r9.length≤9223372036854775807 then
 if ((r8++aG)++r9).length+aG.length≤9223372036854775807 then
 if (0:Int)≤1 then
 if 1<(e.Kids.length:Int) then
 (jE fy (e.Kids.getD (1:Int).toNat bh.z) (aj (r1+1))).bind fun eX=>
 if (((r8++aG)++r9)++aG).length+eX.length≤9223372036854775807 then
 some ((((r8++aG)++r9)++aG)++eX) else none else none else none else none else none else none else none else none else
 if e.Kind=6 then
 (m_ e.Kind).bind fun fK=>
 if (0:Int)≤0 then
 if 0<(e.Kids.length:Int) then
 (jE fy (e.Kids.getD (0:Int).toNat bh.z) 6).bind fun fq=>
 if fK.length+fq.length≤9223372036854775807 then
 some (fK++fq) else none else none else none else
 if r1=3 then
 if (0:Int)≤0 then
 if 0<(e.Kids.length:Int) then
 (jE fy (e.Kids.getD (0:Int).toNat bh.z) 4).bind fun fF=>
 if fF.length+aG.length≤9223372036854775807 then
 (m_ e.Kind).bind fun dF=>
 if (fF++aG).length+dF.length≤9223372036854775807 then
 if ((fF++aG)++dF).length+aG.length≤9223372036854775807 then
 if (0:Int)≤1 then
 if 1<(e.Kids.length:Int) then
 (jE fy (e.Kids.getD (1:Int).toNat bh.z) (aj (r1+1))).bind fun iO=>
 if (((fF++aG)++dF)++aG).length+iO.length≤9223372036854775807 then
 some ((((fF++aG)++dF)++aG)++iO) else none else none else none else none else none else none else none else none else
 if (0:Int)≤0 then
 if 0<(e.Kids.length:Int) then
 (jE fy (e.Kids.getD (0:Int).toNat bh.z) r1).bind fun r16=>
 if r16.length+aG.length≤9223372036854775807 then
 (m_ e.Kind).bind fun jB=>
 if (r16++aG).length+jB.length≤9223372036854775807 then
 if ((r16++aG)++jB).length+aG.length≤9223372036854775807 then
 if (0:Int)≤1 then
 if 1<(e.Kids.length:Int) then
 (jE fy (e.Kids.getD (1:Int).toNat bh.z) (aj (r1+1))).bind fun jC=>
 if (((r16++aG)++jB)++aG).length+jC.length≤9223372036854775807 then
 some ((((r16++aG)++jB)++aG)++jC) else none else none else none else none else none else none else none else none
def vT:Nat→bh→Option (List UInt8)
 | 0,_=>none
 | k+1,x0=>EX (vT k) k x0
def m8  (e:bh):Option (List UInt8):=cx (fun k (x:bh)=>vT k x) e
theorem Mt (fy:tw) (k:Nat) (yB:aM Tryd.prog S (m9 fy)):aM Tryd.prog S (m9 (EX fy k)):=
 gk pk [Af tA,m7 jD,E0 m_,EY (jE fy)] ⟨EZ,vS,Mx,Mu fy yB,trivial⟩ Tryd.func61 (by kernel_rfl) (fun _=>by kernel_rfl) (by kernel_rfl)
theorem Ae:aM Tryd.prog S (m9 (m8)):=oU (fun k x=>vT k x) (fun _=>rfl) Tryd.func61 (by kernel_rfl) (fun _=>rfl) fun k h=>Mt (vT k) k h
abbrev MC:=(List bh)→Option (List UInt8)
abbrev E5 (f:MC):Entry S:=⟨76,[zW],[q1],fun x=>f x⟩
def qy  (x:List bh):Option (List UInt8):=if (x.length:Int)=0 then
 some [] else
 if (0:Int)≤0 then
 if 0<(x.length:Int) then
 (m8 (x.getD (0:Int).toNat bh.z)).bind fun r1=>
 if fM.length+r1.length≤9223372036854775807 then
 if (fM++r1).length+e_.length≤9223372036854775807 then
 some ((fM++r1)++e_) else none else none else none else none
theorem MB:aM Tryd.prog S (E5 (qy)):=
 gk pk [m9 m8] ⟨Ae,trivial⟩ Tryd.func76 (by kernel_rfl) (fun _=>by kernel_rfl) (by kernel_rfl)
abbrev qx:=(List bG)→Int→Option (List UInt8)
abbrev oJ (f:qx):Entry S:=⟨46,[tr,q5],[q1],fun x=>f x.1 x.2⟩
abbrev ME:=bG→Int→Option (List UInt8)
abbrev E6 (f:ME):Entry S:=⟨60,[El,q5],[q1],fun x=>f x.1 x.2⟩
def Aj (gu:qx)  (a:bG) (aD:Int):Option (List UInt8):=if a.Kind=1 then
 if a.Name.length+fO.length≤9223372036854775807 then
 if (0:Int)≤0 then
 if 0<(a.X.length:Int) then
 (m8 (a.X.getD (0:Int).toNat bh.z)).bind fun r1=>
 if (a.Name++fO).length+r1.length≤9223372036854775807 then
 if ((a.Name++fO)++r1).length+bq.length≤9223372036854775807 then
 some (((a.Name++fO)++r1)++bq) else none else none else none else none else none else
 if a.Kind=2 then
 if jI.length+a.Event.length≤9223372036854775807 then
 (qy a.X).bind fun r2=>
 if (jI++a.Event).length+r2.length≤9223372036854775807 then
 if ((jI++a.Event)++r2).length+bq.length≤9223372036854775807 then
 some (((jI++a.Event)++r2)++bq) else none else none else none else
 if a.Kind=3 then
 if gr.length+a.Name.length≤9223372036854775807 then
 if (gr++a.Name).length+aG.length≤9223372036854775807 then
 if ((gr++a.Name)++aG).length+a.Event.length≤9223372036854775807 then
 (qy a.X).bind fun r3=>
 if (((gr++a.Name)++aG)++a.Event).length+r3.length≤9223372036854775807 then
 if ((((gr++a.Name)++aG)++a.Event)++r3).length+bq.length≤9223372036854775807 then
 some (((((gr++a.Name)++aG)++a.Event)++r3)++bq) else none else none else none else none else none else
 if a.Kind=4 then
 if jH.length+a.Name.length≤9223372036854775807 then
 (qy a.X).bind fun r4=>
 if (jH++a.Name).length+r4.length≤9223372036854775807 then
 if ((jH++a.Name)++r4).length+bq.length≤9223372036854775807 then
 some (((jH++a.Name)++r4)++bq) else none else none else none else
 if a.Kind=5 then
 if mo.length+a.Name.length≤9223372036854775807 then
 if (mo++a.Name).length+bq.length≤9223372036854775807 then
 some ((mo++a.Name)++bq) else none else none else
 if a.Kind=7 then
 (jD a.N).bind fun r5=>
 if lE.length+r5.length≤9223372036854775807 then
 if (lE++r5).length+aG.length≤9223372036854775807 then
 (gu a.ry aD).bind fun r6=>
 if ((lE++r5)++aG).length+r6.length≤9223372036854775807 then
 some (((lE++r5)++aG)++r6) else none else none else none else
 (qy a.X).bind fun r7=>
 if jf.length+r7.length≤9223372036854775807 then
 if (jf++r7).length+aG.length≤9223372036854775807 then
 (gu a.ry aD).bind fun r8=>
 if ((jf++r7)++aG).length+r8.length≤9223372036854775807 then
 if 0<(a.ri.length:Int) then
 if (((jf++r7)++aG)++r8).length+tJ.length≤9223372036854775807 then
 (gu a.ri aD).bind fun r9=>
 if ((((jf++r7)++aG)++r8)++tJ).length+r9.length≤9223372036854775807 then
 some (((((jf++r7)++aG)++r8)++tJ)++r9) else none else none else
 some (((jf++r7)++aG)++r8) else none else none else none
theorem MD (gu:qx) (yC:aM Tryd.prog S (oJ gu)):aM Tryd.prog S (E6 (Aj gu)):=
 gk pk [m9 m8,E5 qy,m7 jD,oJ gu] ⟨Ae,MB,vS,yC,trivial⟩ Tryd.func60 (by kernel_rfl) (fun _=>by kernel_rfl) (by kernel_rfl)
def Ai (gu:qx):Nat→(List bG)→Int→(List UInt8)→Int→Option (List UInt8)
 | 0,_,_,_,_=>none
 | k+1,l,n,s,i=>if i<(l.length:Int) then
  (qw (aj (n+1))).bind fun r1=>
  if s.length+r1.length≤9223372036854775807 then
  if 0≤i then
  if i<(l.length:Int) then
  (Aj gu (l.getD i.toNat bG.z) (aj (n+1))).bind fun r2=>
  if (s++r1).length+r2.length≤9223372036854775807 then
  if ((s++r1)++r2).length+eY.length≤9223372036854775807 then
  Ai gu k l n (((s++r1)++r2)++eY) (aj (i+1)) else none else none else none else none else none else
  (qw n).bind fun r3=>
  if s.length+r3.length≤9223372036854775807 then
  if (s++r3).length+nj.length≤9223372036854775807 then
  some ((s++r3)++nj) else none else none
def E3 (gu:qx) (k:Nat) (l:List bG) (aD:Int):Option (List UInt8):=if (l.length:Int)=0 then
 some Fy else
 Ai gu k l (max aD 0) Fx 0
def vU:Nat→(List bG)→Int→Option (List UInt8)
 | 0,_,_=>none
 | k+1,x0,x1=>E3 (vU k) k x0 x1
def gH  (l:List bG) (aD:Int):Option (List UInt8):=cx (fun k (x:List bG×Int)=>vU k x.1 x.2) (l,aD)
theorem MA (gu:qx) (k:Nat) (yC:aM Tryd.prog S (oJ gu)):aM Tryd.prog S (oJ (E3 gu k)):=
 ff pk [Ag qw,E6 (Aj gu)] ⟨E2,MD gu yC,trivial⟩ Tryd.func46 [] k (fun k=> [(0,⟨[0,5,6,7],[tr,q5,q1,q5],fun x=>Ai gu k x.1 x.2.1 x.2.2.1 x.2.2.2,false⟩)]) ⟨fun _=>rfl,trivial⟩ (fun _=>by kernel_rfl) (fun _=>by kernel_rfl) (by kernel_rfl)
theorem E4:aM Tryd.prog S (oJ (gH)):=oU (fun k x=>vU k x.1 x.2) (fun _=>rfl) Tryd.func46 (by kernel_rfl) (fun _=>rfl) fun k h=>MA (vU k) k h
abbrev ML:=fU→Int→Option (List UInt8)
abbrev E_ (f:ML):Entry S:=⟨47,[Em,q5],[q1],fun x=>f x.1 x.2⟩
def As  (t:fU) (aD:Int):Option (List UInt8):=if t.Event≠ [] then
 if dh.length+t.Event.length≤9223372036854775807 then
 if 0<(t.Guard.length:Int) then
 if (dh++t.Event).length+bY.length≤9223372036854775807 then
 if (0:Int)≤0 then
 if 0<(t.Guard.length:Int) then
 (m8 (t.Guard.getD (0:Int).toNat bh.z)).bind fun r1=>
 if ((dh++t.Event)++bY).length+r1.length≤9223372036854775807 then
 if (((dh++t.Event)++bY)++r1).length+cz.length≤9223372036854775807 then
 if t.Target≠ [] then
 if ((((dh++t.Event)++bY)++r1)++cz).length+aX.length≤9223372036854775807 then
 if (((((dh++t.Event)++bY)++r1)++cz)++aX).length+t.Target.length≤9223372036854775807 then
 if (t.fS.length:Int)=0 then
 if ((((((dh++t.Event)++bY)++r1)++cz)++aX)++t.Target).length+bq.length≤9223372036854775807 then
 (cy aD (((((((dh++t.Event)++bY)++r1)++cz)++aX)++t.Target)++bq)).bind fun r2=>
 some r2 else none else
 if ((((((dh++t.Event)++bY)++r1)++cz)++aX)++t.Target).length+aG.length≤9223372036854775807 then
 (gH t.fS aD).bind fun r3=>
 if (((((((dh++t.Event)++bY)++r1)++cz)++aX)++t.Target)++aG).length+r3.length≤9223372036854775807 then
 (cy aD ((((((((dh++t.Event)++bY)++r1)++cz)++aX)++t.Target)++aG)++r3)).bind fun r4=>
 some r4 else none else none else none else none else
 if (t.fS.length:Int)=0 then
 if ((((dh++t.Event)++bY)++r1)++cz).length+bq.length≤9223372036854775807 then
 (cy aD (((((dh++t.Event)++bY)++r1)++cz)++bq)).bind fun r5=>
 some r5 else none else
 if ((((dh++t.Event)++bY)++r1)++cz).length+aG.length≤9223372036854775807 then
 (gH t.fS aD).bind fun r6=>
 if (((((dh++t.Event)++bY)++r1)++cz)++aG).length+r6.length≤9223372036854775807 then
 (cy aD ((((((dh++t.Event)++bY)++r1)++cz)++aG)++r6)).bind fun r7=>
 some r7 else none else none else none else none else none else none else none else
 if t.Target≠ [] then
 if (dh++t.Event).length+aX.length≤9223372036854775807 then
 if ((dh++t.Event)++aX).length+t.Target.length≤9223372036854775807 then
 if (t.fS.length:Int)=0 then
 if (((dh++t.Event)++aX)++t.Target).length+bq.length≤9223372036854775807 then
 (cy aD ((((dh++t.Event)++aX)++t.Target)++bq)).bind fun r8=>
 some r8 else none else
 if (((dh++t.Event)++aX)++t.Target).length+aG.length≤9223372036854775807 then
 (gH t.fS aD).bind fun r9=>
 if ((((dh++t.Event)++aX)++t.Target)++aG).length+r9.length≤9223372036854775807 then
 (cy aD (((((dh++t.Event)++aX)++t.Target)++aG)++r9)).bind fun eX=>
 some eX else none else none else none else none else
 if (t.fS.length:Int)=0 then
 if (dh++t.Event).length+bq.length≤9223372036854775807 then
 (cy aD ((dh++t.Event)++bq)).bind fun fK=>
 some fK else none else
 if (dh++t.Event).length+aG.length≤9223372036854775807 then
 (gH t.fS aD).bind fun fq=>
 if ((dh++t.Event)++aG).length+fq.length≤9223372036854775807 then
 (cy aD (((dh++t.Event)++aG)++fq)).bind fun fF=>
 some fF else none else none else none else
 if 0<(t.Guard.length:Int) then
 if dH.length+bY.length≤9223372036854775807 then
 if (0:Int)≤0 then
 if 0<(t.Guard.length:Int) then
 (m8 (t.Guard.getD (0:Int).toNat bh.z)).bind fun dF=>
 if (dH++bY).length+dF.length≤9223372036854775807 then
 if ((dH++bY)++dF).length+cz.length≤9223372036854775807 then
 if t.Target≠ [] then
 if (((dH++bY)++dF)++cz).length+aX.length≤9223372036854775807 then
 if ((((dH++bY)++dF)++cz)++aX).length+t.Target.length≤9223372036854775807 then
 if (t.fS.length:Int)=0 then
 if (((((dH++bY)++dF)++cz)++aX)++t.Target).length+bq.length≤9223372036854775807 then
 (cy aD ((((((dH++bY)++dF)++cz)++aX)++t.Target)++bq)).bind fun iO=>
 some iO else none else
 if (((((dH++bY)++dF)++cz)++aX)++t.Target).length+aG.length≤9223372036854775807 then
 (gH t.fS aD).bind fun r16=>
 if ((((((dH++bY)++dF)++cz)++aX)++t.Target)++aG).length+r16.length≤9223372036854775807 then
 (cy aD (((((((dH++bY)++dF)++cz)++aX)++t.Target)++aG)++r16)).bind fun jB=>
 some jB else none else none else none else none else
 if (t.fS.length:Int)=0 then
 if (((dH++bY)++dF)++cz).length+bq.length≤9223372036854775807 then
 (cy aD ((((dH++bY)++dF)++cz)++bq)).bind fun jC=>
 some jC else none else
 if (((dH++bY)++dF)++cz).length+aG.length≤9223372036854775807 then
 (gH t.fS aD).bind fun lq=>
 if ((((dH++bY)++dF)++cz)++aG).length+lq.length≤9223372036854775807 then
 (cy aD (((((dH++bY)++dF)++cz)++aG)++lq)).bind fun qj=>
 some qj else none else none else none else none else none else none else none else
 if t.Target≠ [] then
 if dH.length+aX.length≤9223372036854775807 then
 if (dH++aX).length+t.Target.length≤9223372036854775807 then
 if (t.fS.length:Int)=0 then
 if ((dH++aX)++t.Target).length+bq.length≤9223372036854775807 then
 (cy aD (((dH++aX)++t.Target)++bq)).bind fun qk=>
 some qk else none else
 if ((dH++aX)++t.Target).length+aG.length≤9223372036854775807 then
 (gH t.fS aD).bind fun ql=>
 if (((dH++aX)++t.Target)++aG).length+ql.length≤9223372036854775807 then
 (cy aD ((((dH++aX)++t.Target)++aG)++ql)).bind fun m4=>
 some m4 else none else none else none else none else
 if (t.fS.length:Int)=0 then
 if dH.length+bq.length≤9223372036854775807 then
 (cy aD (dH++bq)).bind fun tu=>
 some tu else none else
 if dH.length+aG.length≤9223372036854775807 then
 (gH t.fS aD).bind fun oD=>
 if (dH++aG).length+oD.length≤9223372036854775807 then
 (cy aD ((dH++aG)++oD)).bind fun zZ=>
 some zZ else none else none
theorem MK:aM Tryd.prog S (E_ (As)):=
 gk pk [m9 m8,vV cy,oJ gH] ⟨Ae,Ap,E4,trivial⟩ Tryd.func47 (by kernel_rfl) (fun _=>by kernel_rfl) (by kernel_rfl)
abbrev tC:=bM→Int→Option (List UInt8)
abbrev tB (f:tC):Entry S:=⟨33,[En,q5],[q1],fun x=>f x.1 x.2⟩
def Ar (fP:tC):Nat→Int→Int→(List UInt8)→(List bG)→(List bG)→(List fU)→(List bM)→Int→(List UInt8)→(List UInt8)→Int→Option (List UInt8)
 | 0,_,_,_,_,_,_,_,_,_,_,_=>none
 | k+1,aD,qF,qG,qD,qE,mm,kn,qB,head,body,i=>if i<(kn.length:Int) then
  if 0≤i then
  if i<(kn.length:Int) then
  (fP (kn.getD i.toNat bM.z) (aj (aD+1))).bind fun r16=>
  if body.length+r16.length≤9223372036854775807 then
  Ar fP k aD qF qG qD qE mm kn qB head (body++r16) (aj (i+1)) else none else none else none else
  if body= [] then
  if head.length+nj.length≤9223372036854775807 then
  (cy aD (head++nj)).bind fun jB=>
  some jB else none else
  (cy aD head).bind fun jC=>
  if jC.length+body.length≤9223372036854775807 then
  (cy aD nj).bind fun lq=>
  if (jC++body).length+lq.length≤9223372036854775807 then
  some ((jC++body)++lq) else none else none
def lz (fP:tC):Nat→Int→Int→(List UInt8)→(List bG)→(List bG)→(List fU)→(List bM)→Int→(List UInt8)→(List UInt8)→Int→Option (List UInt8)
 | 0,_,_,_,_,_,_,_,_,_,_,_=>none
 | k+1,aD,qF,qG,qD,qE,mm,kn,qB,head,body,i=>if i<(mm.length:Int) then
  if 0≤i then
  if i<(mm.length:Int) then
  (As (mm.getD i.toNat fU.z) (aj (aD+1))).bind fun iO=>
  if body.length+iO.length≤9223372036854775807 then
  lz fP k aD qF qG qD qE mm kn qB head (body++iO) (aj (i+1)) else none else none else none else
  Ar fP k aD qF qG qD qE mm kn qB head body 0
def E9 (fP:tC) (k:Nat) (s:bM) (aD:Int):Option (List UInt8):=if s.Kind=3 then
 if wg.length+s.Name.length≤9223372036854775807 then
 if (wg++s.Name).length+bq.length≤9223372036854775807 then
 (cy aD ((wg++s.Name)++bq)).bind fun r1=>
 some r1 else none else none else
 if s.Kind=4 then
 if v_.length+s.Name.length≤9223372036854775807 then
 if (v_++s.Name).length+bq.length≤9223372036854775807 then
 (cy aD ((v_++s.Name)++bq)).bind fun r2=>
 some r2 else none else none else
 if oQ.length+s.Name.length≤9223372036854775807 then
 if (oQ++s.Name).length+jK.length≤9223372036854775807 then
 if s.Kind=2 then
 if oP.length+s.Name.length≤9223372036854775807 then
 if (oP++s.Name).length+jK.length≤9223372036854775807 then
 if 0<(s.Entry.length:Int) then
 (gH s.Entry (aj (aD+1))).bind fun r3=>
 if ng.length+r3.length≤9223372036854775807 then
 (cy (aj (aD+1)) (ng++r3)).bind fun r4=>
 if ([]:List UInt8).length+r4.length≤9223372036854775807 then
 if 0<(s.Exit.length:Int) then
 (gH s.Exit (aj (aD+1))).bind fun r5=>
 if gY.length+r5.length≤9223372036854775807 then
 (cy (aj (aD+1)) (gY++r5)).bind fun r6=>
 if ([]++r4).length+r6.length≤9223372036854775807 then
 lz fP k aD s.Kind s.Name s.Entry s.Exit s.Trans s.Kids s.At ((oP++s.Name)++jK) (([]++r4)++r6) 0 else none else none else
 lz fP k aD s.Kind s.Name s.Entry s.Exit s.Trans s.Kids s.At ((oP++s.Name)++jK) ([]++r4) 0 else none else none else
 if 0<(s.Exit.length:Int) then
 (gH s.Exit (aj (aD+1))).bind fun r7=>
 if gY.length+r7.length≤9223372036854775807 then
 (cy (aj (aD+1)) (gY++r7)).bind fun r8=>
 if ([]:List UInt8).length+r8.length≤9223372036854775807 then
 lz fP k aD s.Kind s.Name s.Entry s.Exit s.Trans s.Kids s.At ((oP++s.Name)++jK) ([]++r8) 0 else none else none else
 lz fP k aD s.Kind s.Name s.Entry s.Exit s.Trans s.Kids s.At ((oP++s.Name)++jK) [] 0 else none else none else
 if 0<(s.Entry.length:Int) then
 (gH s.Entry (aj (aD+1))).bind fun r9=>
 if ng.length+r9.length≤9223372036854775807 then
 (cy (aj (aD+1)) (ng++r9)).bind fun eX=>
 if ([]:List UInt8).length+eX.length≤9223372036854775807 then
 if 0<(s.Exit.length:Int) then
 (gH s.Exit (aj (aD+1))).bind fun fK=>
 if gY.length+fK.length≤9223372036854775807 then
 (cy (aj (aD+1)) (gY++fK)).bind fun fq=>
 if ([]++eX).length+fq.length≤9223372036854775807 then
 lz fP k aD s.Kind s.Name s.Entry s.Exit s.Trans s.Kids s.At ((oQ++s.Name)++jK) (([]++eX)++fq) 0 else none else none else
 lz fP k aD s.Kind s.Name s.Entry s.Exit s.Trans s.Kids s.At ((oQ++s.Name)++jK) ([]++eX) 0 else none else none else
 if 0<(s.Exit.length:Int) then
 (gH s.Exit (aj (aD+1))).bind fun fF=>
 if gY.length+fF.length≤9223372036854775807 then
 (cy (aj (aD+1)) (gY++fF)).bind fun dF=>
 if ([]:List UInt8).length+dF.length≤9223372036854775807 then
 lz fP k aD s.Kind s.Name s.Entry s.Exit s.Trans s.Kids s.At ((oQ++s.Name)++jK) ([]++dF) 0 else none else none else
 lz fP k aD s.Kind s.Name s.Entry s.Exit s.Trans s.Kids s.At ((oQ++s.Name)++jK) [] 0 else none else none
def vW:Nat→bM→Int→Option (List UInt8)
 | 0,_,_=>none
 | k+1,x0,x1=>E9 (vW k) k x0 x1
def Aq  (s:bM) (aD:Int):Option (List UInt8):=cx (fun k (x:bM×Int)=>vW k x.1 x.2) (s,aD)
theorem MJ (fP:tC) (k:Nat) (Jg:aM Tryd.prog S (tB fP)):aM Tryd.prog S (tB (E9 fP k)):=
 ff pk [vV cy,oJ gH,E_ As,tB fP] ⟨Ap,E4,MK,Jg,trivial⟩ Tryd.func33 [] k (fun k=> [(0,⟨[1,2,5,6,7],[q5,zX,q1,q1,q5],fun x=>lz fP k x.1 x.2.1.1 x.2.1.2.1 x.2.1.2.2.1 x.2.1.2.2.2.1 x.2.1.2.2.2.2.1 x.2.1.2.2.2.2.2.1 x.2.1.2.2.2.2.2.2 x.2.2.1 x.2.2.2.1 x.2.2.2.2,false⟩),(2,⟨[1,2,5,6,8],[q5,zX,q1,q1,q5],fun x=>Ar fP k x.1 x.2.1.1 x.2.1.2.1 x.2.1.2.2.1 x.2.1.2.2.2.1 x.2.1.2.2.2.2.1 x.2.1.2.2.2.2.2.1 x.2.1.2.2.2.2.2.2 x.2.2.1 x.2.2.2.1 x.2.2.2.2,false⟩)]) ⟨fun _=>rfl,fun _=>rfl,trivial⟩ (fun _=>by kernel_rfl) (fun _=>by kernel_rfl) (by kernel_rfl)
theorem MI:aM Tryd.prog S (tB (Aq)):=oU (fun k x=>vW k x.1 x.2) (fun _=>rfl) Tryd.func33 (by kernel_rfl) (fun _=>rfl) fun k h=>MJ (vW k) k h
abbrev MG:=fH→Option (List UInt8)
abbrev E8 (f:MG):Entry S:=⟨16,[Ep],[q1],fun x=>f x⟩
def Ao:Nat→(List UInt8)→Int→Int→(List br)→(List br)→(List br)→(List bM)→Int→(List UInt8)→Int→Option (List UInt8)
 | 0,_,_,_,_,_,_,_,_,_,_=>none
 | k+1,ec,gi,gh,dN,dY,dZ,eP,dM,s,i=>if i<(eP.length:Int) then
  if 0≤i then
  if i<(eP.length:Int) then
  (Aq (eP.getD i.toNat bM.z) 1).bind fun r8=>
  if s.length+r8.length≤9223372036854775807 then
  Ao k ec gi gh dN dY dZ eP dM (s++r8) (aj (i+1)) else none else none else none else
  (cy 0 nj).bind fun r9=>
  if s.length+r9.length≤9223372036854775807 then
  some (s++r9) else none
def An:Nat→(List UInt8)→Int→Int→(List br)→(List br)→(List br)→(List bM)→Int→(List UInt8)→Int→Option (List UInt8)
 | 0,_,_,_,_,_,_,_,_,_,_=>none
 | k+1,ec,gi,gh,dN,dY,dZ,eP,dM,s,i=>if i<(dZ.length:Int) then
  if 0≤i then
  if i<(dZ.length:Int) then
  if AV.length+((dZ.getD i.toNat br.z).Name).length≤9223372036854775807 then
  if (AV++((dZ.getD i.toNat br.z).Name)).length+bq.length≤9223372036854775807 then
  (cy 1 ((AV++((dZ.getD i.toNat br.z).Name))++bq)).bind fun r7=>
  if s.length+r7.length≤9223372036854775807 then
  An k ec gi gh dN dY dZ eP dM (s++r7) (aj (i+1)) else none else none else none else none else none else
  Ao k ec gi gh dN dY dZ eP dM s 0
def Am:Nat→(List UInt8)→Int→Int→(List br)→(List br)→(List br)→(List bM)→Int→(List UInt8)→Int→Option (List UInt8)
 | 0,_,_,_,_,_,_,_,_,_,_=>none
 | k+1,ec,gi,gh,dN,dY,dZ,eP,dM,s,i=>if i<(dY.length:Int) then
  if 0≤i then
  if i<(dY.length:Int) then
  if AP.length+((dY.getD i.toNat br.z).Name).length≤9223372036854775807 then
  if (AP++((dY.getD i.toNat br.z).Name)).length+bq.length≤9223372036854775807 then
  (cy 1 ((AP++((dY.getD i.toNat br.z).Name))++bq)).bind fun r6=>
  if s.length+r6.length≤9223372036854775807 then
  Am k ec gi gh dN dY dZ eP dM (s++r6) (aj (i+1)) else none else none else none else none else none else
  An k ec gi gh dN dY dZ eP dM s 0
def Al:Nat→(List UInt8)→Int→Int→(List br)→(List br)→(List br)→(List bM)→Int→(List UInt8)→Int→Option (List UInt8)
 | 0,_,_,_,_,_,_,_,_,_,_=>none
 | k+1,ec,gi,gh,dN,dY,dZ,eP,dM,s,i=>if i<(dN.length:Int) then
  if 0≤i then
  if i<(dN.length:Int) then
  if tL.length+((dN.getD i.toNat br.z).Name).length≤9223372036854775807 then
  if (tL++((dN.getD i.toNat br.z).Name)).length+fO.length≤9223372036854775807 then
  if 0≤i then
  if i<(dN.length:Int) then
  (jD ((dN.getD i.toNat br.z).N)).bind fun r4=>
  if ((tL++((dN.getD i.toNat br.z).Name))++fO).length+r4.length≤9223372036854775807 then
  if (((tL++((dN.getD i.toNat br.z).Name))++fO)++r4).length+bq.length≤9223372036854775807 then
  (cy 1 ((((tL++((dN.getD i.toNat br.z).Name))++fO)++r4)++bq)).bind fun r5=>
  if s.length+r5.length≤9223372036854775807 then
  Al k ec gi gh dN dY dZ eP dM (s++r5) (aj (i+1)) else none else none else none else none else none else none else none else none else none else
  Am k ec gi gh dN dY dZ eP dM s 0
def E7 (k:Nat) (c:fH):Option (List UInt8):=if iR.length+c.Name.length≤9223372036854775807 then
 if (iR++c.Name).length+jL.length≤9223372036854775807 then
 (jD c.Steps).bind fun r1=>
 if ((iR++c.Name)++jL).length+r1.length≤9223372036854775807 then
 if (((iR++c.Name)++jL)++r1).length+nh.length≤9223372036854775807 then
 (jD c.Fuel).bind fun r2=>
 if ((((iR++c.Name)++jL)++r1)++nh).length+r2.length≤9223372036854775807 then
 if (((((iR++c.Name)++jL)++r1)++nh)++r2).length+jK.length≤9223372036854775807 then
 (cy 0 ((((((iR++c.Name)++jL)++r1)++nh)++r2)++jK)).bind fun r3=>
 Al k c.Name c.Steps c.Fuel c.rz c.wK c.wT c.wR c.At r3 0 else none else none else none else none else none else none
def Ak  (c:fH):Option (List UInt8):=cx (fun k (x:fH)=>E7 k x) c
theorem MF:aM Tryd.prog S (E8 (Ak)):=fQ (fun k x=>E7 k x) (fun _=>rfl) fun k=>
 ff pk [m7 jD,vV cy,tB Aq] ⟨vS,Ap,MI,trivial⟩ Tryd.func16 [] k (fun k=> [(0,⟨[1,3,4],[oC,q1,q5],fun x=>Al k x.1.1 x.1.2.1 x.1.2.2.1 x.1.2.2.2.1 x.1.2.2.2.2.1 x.1.2.2.2.2.2.1 x.1.2.2.2.2.2.2.1 x.1.2.2.2.2.2.2.2 x.2.1 x.2.2,false⟩),(2,⟨[1,3,5],[oC,q1,q5],fun x=>Am k x.1.1 x.1.2.1 x.1.2.2.1 x.1.2.2.2.1 x.1.2.2.2.2.1 x.1.2.2.2.2.2.1 x.1.2.2.2.2.2.2.1 x.1.2.2.2.2.2.2.2 x.2.1 x.2.2,false⟩),(4,⟨[1,3,6],[oC,q1,q5],fun x=>An k x.1.1 x.1.2.1 x.1.2.2.1 x.1.2.2.2.1 x.1.2.2.2.2.1 x.1.2.2.2.2.2.1 x.1.2.2.2.2.2.2.1 x.1.2.2.2.2.2.2.2 x.2.1 x.2.2,false⟩),(6,⟨[1,3,7],[oC,q1,q5],fun x=>Ao k x.1.1 x.1.2.1 x.1.2.2.1 x.1.2.2.2.1 x.1.2.2.2.2.1 x.1.2.2.2.2.2.1 x.1.2.2.2.2.2.2.1 x.1.2.2.2.2.2.2.2 x.2.1 x.2.2,false⟩)]) ⟨fun _=>rfl,fun _=>rfl,fun _=>rfl,fun _=>rfl,trivial⟩ (fun _=>by kernel_rfl) (fun _=>by kernel_rfl) (by kernel_rfl)
abbrev Mk:=fI→Option (List UInt8)
abbrev ET (f:Mk):Entry S:=⟨14,[Er],[q1],fun x=>f x⟩
def vP:Nat→Int→(List fH)→(List aN)→(List aC)→(List an)→(List UInt8)→Int→Option (List UInt8)
 | 0,_,_,_,_,_,_,_=>none
 | k+1,AA,qC,tI,tH,tG,t,i=>if i<(qC.length:Int) then
  if 0≤i then
  if i<(qC.length:Int) then
  (Ak (qC.getD i.toNat fH.z)).bind fun r2=>
  if t.length+r2.length≤9223372036854775807 then
  vP k AA qC tI tH tG (t++r2) (aj (i+1)) else none else none else none else
  (qq tI).bind fun r3=>
  if t.length+r3.length≤9223372036854775807 then
  (qo tH).bind fun r4=>
  if (t++r3).length+r4.length≤9223372036854775807 then
  (qn tG).bind fun r5=>
  if ((t++r3)++r4).length+r5.length≤9223372036854775807 then
  some (((t++r3)++r4)++r5) else none else none else none
def vO (k:Nat) (s:fI):Option (List UInt8):=(iP s.qW).bind fun r1=>
 if nk.length+r1.length≤9223372036854775807 then
 if (nk++r1).length+bS.length≤9223372036854775807 then
 vP k s.qW s.qY s.Insts s.ga s.wI ((nk++r1)++bS) 0 else none else none
def vN  (s:fI):Option (List UInt8):=cx (fun k (x:fI)=>vO k x) s
theorem Mj:aM Tryd.prog S (ET (vN)):=fQ (fun k x=>vO k x) (fun _=>rfl) fun k=>
 ff pk [tv iP,E8 Ak,Aa qq,z_ qo,z8 qn] ⟨vR,MF,EP,EN,EL,trivial⟩ Tryd.func14 [] k (fun k=> [(0,⟨[1,3,4],[Es,q1,q5],fun x=>vP k x.1.1 x.1.2.1 x.1.2.2.1 x.1.2.2.2.1 x.1.2.2.2.2 x.2.1 x.2.2,false⟩)]) ⟨fun _=>rfl,trivial⟩ (fun _=>by kernel_rfl) (fun _=>by kernel_rfl) (by kernel_rfl)
abbrev KO:=(List Int)→(Int×Int×Int)→(List Int)→Option Bool
abbrev KM (f:KO):Entry S:=⟨3,[qi,LS,Et],[q9],fun x=>f x.1 x.2.1 x.2.2⟩
def ox:Nat→(List Int)→(Int×Int×Int)→(List (List UInt8))→(List UInt8)→(List UInt8)→Int→Int→Int→Int→(List UInt8)→(List UInt8)→(List UInt8)→(List UInt8)→Int→Int→Int→(List UInt8)→(List UInt8)→(List UInt8)→(List UInt8)→(List (List UInt8))→(List (List UInt8))→(List bO)→Int→Int→Option Bool
 | 0,_,_,_,_,_,_,_,_,_,_,_,_,_,_,_,_,_,_,_,_,_,_,_,_,_=>none
 | k+1,rows,n,l,l9,l7,mb,l8,l_,l6,ec,rG,rH,rJ,rF,rI,dM,kE,kC,kF,kG,kD,pe,iz,gK,k_=>if k_<(rows.length:Int) then
  if 0≤k_ then
  if k_<(rows.length:Int) then
  if ¬ (3:Int)=0 then
  if 0≤((aj (rows.getD k_.toNat 0)).tmod 3) then
  if ((aj (rows.getD k_.toNat 0)).tmod 3)≤(l.length:Int) then
  if ¬ (3:Int)=0 then
  if ¬ (3:Int)=0 then
  if 0≤(aj (1+((aj ((aj (rows.getD k_.toNat 0)).tdiv 3)).tmod 3))) then
  if (aj (1+((aj ((aj (rows.getD k_.toNat 0)).tdiv 3)).tmod 3)))≤(l.length:Int) then
  if (0:Int)≤1 then
  if (1:Int)≤(aj (1+((aj ((aj (rows.getD k_.toNat 0)).tdiv 3)).tmod 3))) then
  if ¬ (9:Int)=0 then
  if ¬ (4:Int)=0 then
  if 0≤((aj ((aj (rows.getD k_.toNat 0)).tdiv 9)).tmod 4) then
  if ((aj ((aj (rows.getD k_.toNat 0)).tdiv 9)).tmod 4)≤(l.length:Int) then
  if ¬ (36:Int)=0 then
  if ¬ (3:Int)=0 then
  if 0≤(aj (2+((aj ((aj (rows.getD k_.toNat 0)).tdiv 36)).tmod 3))) then
  if (aj (2+((aj ((aj (rows.getD k_.toNat 0)).tdiv 36)).tmod 3)))≤(l.length:Int) then
  if (0:Int)≤2 then
  if (2:Int)≤(aj (2+((aj ((aj (rows.getD k_.toNat 0)).tdiv 36)).tmod 3))) then
  if (iz.length+ [bO.mk (aj (rows.getD k_.toNat 0)) [cut l 0 ((aj (rows.getD k_.toNat 0)).tmod 3),cut l 1 (aj (1+((aj ((aj (rows.getD k_.toNat 0)).tdiv 3)).tmod 3)))] [cut l 0 ((aj ((aj (rows.getD k_.toNat 0)).tdiv 9)).tmod 4),cut l 2 (aj (2+((aj ((aj (rows.getD k_.toNat 0)).tdiv 36)).tmod 3)))] 0].length)*64≤140737488355328 then
  ox k rows n l l9 l7 mb l8 l_ l6 ec rG rH rJ rF rI dM kE kC kF kG kD pe (iz++ [bO.mk (aj (rows.getD k_.toNat 0)) [cut l 0 ((aj (rows.getD k_.toNat 0)).tmod 3),cut l 1 (aj (1+((aj ((aj (rows.getD k_.toNat 0)).tdiv 3)).tmod 3)))] [cut l 0 ((aj ((aj (rows.getD k_.toNat 0)).tdiv 9)).tmod 4),cut l 2 (aj (2+((aj ((aj (rows.getD k_.toNat 0)).tdiv 36)).tmod 3)))] 0]) gK (aj (k_+1)) else none else none else none else none else none else none else none else none else none else none else none else none else none else none else none else none else none else none else none else none else none else none else
  if (0:Int)≤2 then
  if 2<([n.1,n.2.1,n.2.2].length:Int) then
  (oS [aN.mk l9 l7 mb l8 l_ l6,aN.mk l9 l7 mb l8 l_ l6]).bind fun r4=>
  (qq [aN.mk l9 l7 mb l8 l_ l6,aN.mk l9 l7 mb l8 l_ l6]).bind fun r5=>
  if r4=r5 then
  (oS []).bind fun r6=>
  if r6= [] then
  (qM [aC.mk ec rG rH rJ rF rI dM]).bind fun r7=>
  (qo [aC.mk ec rG rH rJ rF rI dM]).bind fun r8=>
  if r7=r8 then
  (nq [an.mk kE kC kF kG kD pe iz gK,an.mk kE kC kF kG kD [] iz gK]).bind fun r9=>
  (qn [an.mk kE kC kF kG kD pe iz gK,an.mk kE kC kF kG kD [] iz gK]).bind fun eX=>
  if r9=eX then
  (wo (fI.mk (aj ([n.1,n.2.1,n.2.2].getD (2:Int).toNat 0)) [] [aN.mk l9 l7 mb l8 l_ l6,aN.mk l9 l7 mb l8 l_ l6] [aC.mk ec rG rH rJ rF rI dM] [an.mk kE kC kF kG kD pe iz gK,an.mk kE kC kF kG kD [] iz gK])).bind fun fK=>
  (vN (fI.mk (aj ([n.1,n.2.1,n.2.2].getD (2:Int).toNat 0)) [] [aN.mk l9 l7 mb l8 l_ l6,aN.mk l9 l7 mb l8 l_ l6] [aC.mk ec rG rH rJ rF rI dM] [an.mk kE kC kF kG kD pe iz gK,an.mk kE kC kF kG kD [] iz gK])).bind fun fq=>
  if fK=fq then
  (oy).bind fun fF=>
  some fF else
  some false else
  some false else
  some false else
  some false else
  some false else none else none
def vA (k:Nat) (v:List Int) (n:Int×Int×Int) (rows:List Int):Option Bool:=if 100<(v.length:Int) then
 (oy).bind fun r1=>
 some r1 else
 if 40<(rows.length:Int) then
 (oy).bind fun r2=>
 some r2 else
 (vB v 9).bind fun r3=>
 if (0:Int)≤0 then
 if 0<(r3.length:Int) then
 if (0:Int)≤1 then
 if 1<(r3.length:Int) then
 if (0:Int)≤0 then
 if 0<([n.1,n.2.1,n.2.2].length:Int) then
 if (0:Int)≤1 then
 if 1<([n.1,n.2.1,n.2.2].length:Int) then
 if (0:Int)≤2 then
 if 2<([n.1,n.2.1,n.2.2].length:Int) then
 if (0:Int)≤2 then
 if 2<(r3.length:Int) then
 if (0:Int)≤3 then
 if 3<(r3.length:Int) then
 if (0:Int)≤4 then
 if 4<(r3.length:Int) then
 if (0:Int)≤5 then
 if 5<(r3.length:Int) then
 if (0:Int)≤0 then
 if 0<([n.1,n.2.1,n.2.2].length:Int) then
 if (0:Int)≤1 then
 if 1<([n.1,n.2.1,n.2.2].length:Int) then
 if (0:Int)≤6 then
 if 6<(r3.length:Int) then
 if (0:Int)≤7 then
 if 7<(r3.length:Int) then
 if (0:Int)≤8 then
 if 8<(r3.length:Int) then
 if (0:Int)≤0 then
 if 0<(r3.length:Int) then
 if (0:Int)≤3 then
 if 3≤(r3.length:Int) then
 if (0:Int)≤1 then
 if (1:Int)≤3 then
 if (0:Int)≤5 then
 if 5≤(r3.length:Int) then
 if (0:Int)≤3 then
 if (3:Int)≤5 then
 ox k rows n r3 (r3.getD (0:Int).toNat []) (r3.getD (1:Int).toNat []) (aj ([n.1,n.2.1,n.2.2].getD (0:Int).toNat 0)) (aj ([n.1,n.2.1,n.2.2].getD (1:Int).toNat 0)) (aj ([n.1,n.2.1,n.2.2].getD (2:Int).toNat 0)) 0 (r3.getD (2:Int).toNat []) (r3.getD (3:Int).toNat []) (r3.getD (4:Int).toNat []) (r3.getD (5:Int).toNat []) (aj ([n.1,n.2.1,n.2.2].getD (0:Int).toNat 0)) (aj ([n.1,n.2.1,n.2.2].getD (1:Int).toNat 0)) 0 (r3.getD (6:Int).toNat []) (r3.getD (7:Int).toNat []) (r3.getD (8:Int).toNat []) (r3.getD (0:Int).toNat []) (cut r3 1 3) (cut r3 3 5) [] 0 0 else none else none else none else none else none else none else none else none else none else none else none else none else none else none else none else none else none else none else none else none else none else none else none else none else none else none else none else none else none else none else none else none else none else none else none else none else none else none
def zn  (v:List Int) (n:Int×Int×Int) (rows:List Int):Option Bool:=cx (fun k (x:List Int×(Int×Int×Int)×List Int)=>vA k x.1 x.2.1 x.2.2) (v,n,rows)
theorem KN:aM Tryd.prog S (KM (zn)):=fQ (fun k x=>vA k x.1 x.2.1 x.2.2) (fun _=>rfl) fun k=>
 ye pk ⟨[DT oy,DV vB,A2 oS,Aa qq,A1 qM,z_ qo,wk nq,z8 qn,FK wo,ET vN],[],false,false,true,none,[]⟩ ⟨KP,KR,FJ,EP,FH,EN,A0,EL,Ny,Mj,trivial⟩ (all_nil) (all_nil) Tryd.func3 [] k (fun k=> [(0,⟨[2,4,7,8,9,10,11],[Et,LU,tq,LV,LW,LX,q5],fun x=>ox k x.1 x.2.1 x.2.2.1 x.2.2.2.1.1 x.2.2.2.1.2.1 x.2.2.2.1.2.2.1 x.2.2.2.1.2.2.2.1 x.2.2.2.1.2.2.2.2.1 x.2.2.2.1.2.2.2.2.2 x.2.2.2.2.1.1 x.2.2.2.2.1.2.1 x.2.2.2.2.1.2.2.1 x.2.2.2.2.1.2.2.2.1 x.2.2.2.2.1.2.2.2.2.1 x.2.2.2.2.1.2.2.2.2.2.1 x.2.2.2.2.1.2.2.2.2.2.2 x.2.2.2.2.2.1.1 x.2.2.2.2.2.1.2.1 x.2.2.2.2.2.1.2.2.1 x.2.2.2.2.2.1.2.2.2.1 x.2.2.2.2.2.1.2.2.2.2.1 x.2.2.2.2.2.1.2.2.2.2.2.1 x.2.2.2.2.2.1.2.2.2.2.2.2.1 x.2.2.2.2.2.1.2.2.2.2.2.2.2 x.2.2.2.2.2.2,false⟩)]) ⟨fun _=>rfl,trivial⟩ (fun _=>by kernel_rfl) (fun _=>by kernel_rfl) (by kernel_rfl)
end
end Go.Sy.Ex
namespace Go.Sy.Ex
open Go Go.Sy Go.Proofs Go.Proofs.YtfacjammklpmpaaDoor
abbrev L7:List (String×DataW Unit):= [("math/bits.deBruijn32tab",Rows.laid_math_bits_deBruijn32tab),("math/bits.deBruijn64tab",Rows.laid_math_bits_deBruijn64tab),("internal/strconv.uint64pow10",Rows.laid_internal_strconv_uint64pow10)]
theorem CR:Tryd.prog.globalNamed "internal/strconv.uint64pow10" =some 0:=by kernel_rfl
theorem NR:(Tryd.prog.globals[0]?).map (·.type)=some 143:=by kernel_rfl
theorem Lo {W:World} (h:W.ShapedOpen Tryd.prog): ∃ m,W.cell? ⟨1,0,none⟩=some (.int .i64 m):=
 O1 (t:=3) (zero:= #[.int .i64 0]) h (of_decide_eq_true (by kernel_rfl)) (by kernel_rfl) rfl (by kernel_rfl) (by kernel_rfl) Tryd.underlying3
theorem IZ {W:World} {M:St} (hM:b8 M) (hL:laidMetH Tryd.prog L7 W) (hsh:W.ShapedOpen Tryd.prog):ji S W M:=by
 rw [MakeChecks.laidMetH_plain _ _ _ (by kernel_rfl)] at hL
 have hT:Lib.ru Tryd.prog W "internal/strconv.uint64pow10" .u64 Lib.pow10Tab:=Lib.Po CR NR Tryd.underlying143 Tryd.underlying125 (by kernel_rfl) (by kernel_rfl) hL.tail.tail
 obtain ⟨m,c3⟩:=Lo hsh
 refine ⟨fun g hg=> ?_,fun g hg=> ?_⟩
 · simp only [List.mem_cons,List.not_mem_nil,or_false] at hg
   subst hg
   exact ⟨World.block_lt_of_cell? _ _ c3,hM _ _,_,c3,m,rfl⟩
 · simp only [List.mem_cons,List.not_mem_nil,or_false] at hg
   subst hg
   unfold Lib.ru World.var? at hT
   rw [CR] at hT
   simp only [Option.bind_some] at hT
   split at hT
   · rename_i cs t f hb
     cases hT
     exact ⟨(Array.getElem?_eq_some_iff.1 hb).1,fun o=>hM _ _,_,hb,t,f,rfl⟩
   · cases hT
end Go.Sy.Ex
namespace Go.Sy.Ex
open Go Go.Sy Go.Proofs Go.Proofs.YtfacjammklpmpaaDoor Go.ChangeShapes Go.WideShapes Go.RowKit
theorem MS {H:Type} {enc:TypeId×Value→H} {a:Assume} {C:Checked} {os:Os} {f:FuncId} {fn:Func} {s:ChangeSpec} {conds:List PathCond} {apart fresh handsOn again:Bool} {X:World→Array Value→Prop}
 (hX: ∀ (w w':World) (args:Array Value),w.heap=w'.heap→X w args→X w' args)
 (own:ownKnob C.prog.godebug=none) (started:os.Started) (noInit:C.prog.inits.idxOf? f=none) (hfn:C.prog.funcs[f]? =some fn)
 (witness: ∃ (w:World) (tape:Tape) (i:Input),w.os=os∧(w.forCall tape i).Shaped C.prog∧i.vars= []∧Input.okWide C.prog (w.forCall tape i) .any w.heap.size f i∧
  ((s.pre enc C.prog fn conds apart (w.forCall tape i).memory i.args∧X (w.forCall tape i).memory i.args)∧sizedMet enc C.prog fn (OpenSpec.ofChange s) apart (w.forCall tape i).memory i.args)∧a.holds C.prog (lone (Frame.enter C.prog f i.args .normal) [] (w.forCall tape i)))
 (contract: ∀ (W:World) (base:Nat) (args:Array Value) (ds gs:List (DataW H)) (before:List MemPlace),
  (∀ (j:Nat) t v,fn.params[j]? =some t→args[j]? =some v→Value.okWide C.prog W .any base t v)→
  DataW.Whole enc C.prog fn.params.toList s.vars apart W args.toList ds gs before→
  conds.all (PathCond.test C.prog ⟨fn.params.toList,ds,s.plain.varTypes C.prog,gs⟩)=true→
  (DataW.weightsEach C.prog (fn.params.toList++s.plain.varTypes C.prog) (ds++gs)).all (· ≤reachBytes)=true→X W args→W.ShapedOpen C.prog→
  a.holds C.prog (lone (Frame.enter C.prog f args .normal) [] W)→
  Calls C.prog f args W fun e W'=> ∃ v,e= .returned v∧s.post enc C.prog fn apart fresh handsOn again W args v W'):
 ReturnsInHanded a C os f .any (fun w args=>(s.pre enc C.prog fn conds apart w args∧X w args)∧sizedMet enc C.prog fn (OpenSpec.ofChange s) apart w args) (s.post enc C.prog fn apart fresh handsOn again):=by
 refine returnsInHanded_of_calls own started noInit witness ?_
 intro w tape i _ hsh _ hok hpre hholds
 obtain ⟨_,_,_,fn',JF,_,_,_,_,hval⟩:=hok
 have e:fn'=fn:=Option.some.inj (JF.symm.trans hfn)
 subst e
 obtain ⟨⟨⟨ds,gs,before,hw,hc⟩,hx⟩,hz⟩:=hpre
 have hw':=DataW.Whole.of_heap (w':=w.forCall tape i) (by rfl) hw
 refine (contract (w.forCall tape i) w.heap.size i.args ds gs before hval hw' hc (hz.weights hw) (hX _ _ _ (by rfl) hx) hsh hholds).mono fun e W' ⟨v,he,hp⟩=> ?_
 subst he
 exact ChangeSpec.post_blind hp
set_option maxRecDepth 100000 in
theorem Ip (os:Os) (args:Array Value):laidMetH Tryd.prog L7 ((World.KK Tryd.prog os L7).forCall (fun _ _=>0) ⟨#[],args,[]⟩).memory:=by
 rw [MakeChecks.laidMetH_plain _ _ _ (by kernel_rfl)]
 exact Pk _ (by kernel_rfl) (by kernel_rfl)
end Go.Sy.Ex
namespace Go.Sy.Ex
open Go.Sy
noncomputable section
theorem xM {u:Nat} (h:u<10):Lib.uM u= [UInt8.ofNat (48+u)]:=by rw [Lib.uM,dif_pos h]
theorem Ce {u:Nat} (h: ¬ u<10):Lib.uM u=Lib.uM (u / 10)++ [UInt8.ofNat (48+u % 10)]:=by rw [Lib.uM,dif_neg h]
theorem uO: ∀ d,d<10→cut je ((d:Nat):Int) ((d+1:Nat):Int)= [UInt8.ofNat (48+d)]:=by decide+kernel
theorem Bp: ∀ j (n:Int), -(10 ^ j:Nat)<n→n<(10 ^ j:Nat)→ -9223372036854775808≤n→n≤9223372036854775807→1≤j→j≤30→ ∀ k,j≤k→qv k n=some (Lib.dy n)∧(Lib.dy n).length≤j+1:=by
 intro j
 induction j with
 | zero=>intro n _ _ _ _ h; omega
 | succ j ih=>
  intro n h1 h2 h3 h4 _ hj k hk
  obtain ⟨k,rfl⟩: ∃ j,k=j+1:=⟨k - 1,by omega⟩
  have dB: ∀ d:Nat,d<10→aj (((d:Nat):Int)+1)=((d+1:Nat):Int):=fun d hd=>by rw [cL (by omega) (by omega)]; omega
  have vk:je.length=10:=rfl
  have Pf:10 ^ (j+1)=10 ^ j*10:=Nat.pow_succ ..
  simp only [qv,Ac]
  by_cases hneg:n<0
  · obtain ⟨u,rfl⟩: ∃ u:Nat,n= -(u:Int):=⟨n.natAbs,by omega⟩
    have Kl:1≤u:=by omega
    rw [Lib.KJ u Kl]
    by_cases hb:u<10
    · rw [if_neg (by omega),if_pos hneg]
      have e1:aj (0 - (-(u:Int)))=(u:Int):=by rw [cL (by omega) (by omega)]; omega
      rw [e1,dB u hb,if_pos (by omega),if_pos (by rw [vk]; omega),if_pos (by omega),if_pos (by omega),uO u hb,if_pos (by simp),xM hb]
      exact ⟨rfl,by simp⟩
    · have e1:Int.tdiv (-(u:Int)) 10= -((u / 10:Nat):Int):=by rw [Int.neg_tdiv,Int.tdiv_eq_ediv_of_nonneg (by omega)]; omega
      have e2:Int.tmod (-(u:Int)) 10= -((u % 10:Nat):Int):=by rw [Int.neg_tmod,Int.tmod_eq_emod_of_nonneg (by omega)]; omega
      have e3:aj (-((u / 10:Nat):Int))= -((u / 10:Nat):Int):=cL (by omega) (by omega)
      have e4:aj (0 - (-((u % 10:Nat):Int)))=((u % 10:Nat):Int):=by rw [cL (by omega) (by omega)]; omega
      have vi:1≤j:=by
       rcases Nat.eq_zero_or_pos j with rfl | q
       · simp at h1 h2; omega
       · exact q
      obtain ⟨i1,i2⟩:=ih (-((u / 10:Nat):Int)) (by omega) (by omega) (by omega) (by omega) vi (by omega) k (by omega)
      rw [Lib.KJ (u / 10) (by omega)] at i1 i2
      rw [if_pos (by omega),if_pos (by decide),if_pos (by decide),e1,e3,i1,bF,e2,e4,dB (u % 10) (by omega),if_pos (by omega),if_pos (by rw [vk]; omega),if_pos (by omega),if_pos (by omega),uO (u % 10) (by omega)]
      rw [if_pos (by simp only [List.length_singleton]; omega),Ce hb]
      refine ⟨rfl, ?_⟩
      simp only [List.length_cons,List.length_append,List.length_nil] at i2 ⊢
      omega
  · obtain ⟨u,rfl⟩: ∃ u:Nat,n=(u:Int):=⟨n.toNat,by omega⟩
    rw [Lib.DN u]
    rw [if_neg (by omega),if_neg hneg]
    by_cases hb:u<10
    · rw [if_pos (by omega),dB u hb,if_pos (by omega),if_pos (by rw [vk]; omega),if_pos (by omega),if_pos (by omega),uO u hb,xM hb]
      exact ⟨rfl,by simp⟩
    · have e1:Int.tdiv ((u:Nat):Int) 10=((u / 10:Nat):Int):=by rw [Int.tdiv_eq_ediv_of_nonneg (by omega)]; omega
      have e2:Int.tmod ((u:Nat):Int) 10=((u % 10:Nat):Int):=by rw [Int.tmod_eq_emod_of_nonneg (by omega)]; omega
      have e3:aj ((u / 10:Nat):Int)=((u / 10:Nat):Int):=cL (by omega) (by omega)
      have vi:1≤j:=by
       rcases Nat.eq_zero_or_pos j with rfl | q
       · simp at h1 h2; omega
       · exact q
      obtain ⟨i1,i2⟩:=ih ((u / 10:Nat):Int) (by omega) (by omega) (by omega) (by omega) vi (by omega) k (by omega)
      rw [Lib.DN (u / 10)] at i1 i2
      rw [if_neg (by omega),if_pos (by decide),e1,e3,i1,bF,e2,if_pos (by decide),if_pos (by decide),dB (u % 10) (by omega),if_pos (by omega),if_pos (by rw [vk]; omega),if_pos (by omega),if_pos (by omega),uO (u % 10) (by omega)]
      rw [if_pos (by simp only [List.length_singleton]; omega),Ce hb]
      refine ⟨rfl, ?_⟩
      simp only [List.length_append,List.length_cons,List.length_nil] at i2 ⊢
      omega
theorem GQ (n:Int) (h0: -9223372036854775808≤n) (h1:n≤9223372036854775807):jD n=some (Lib.dy n):=
 iM 19 fun k hk=>(Bp 19 n (by omega) (by omega) h0 h1 (by decide) (by decide) k hk).1
theorem lits:cU.length=5∧aU.length=3∧bR.length=1∧aX.length=4∧g_.length=11∧dI.length=2∧bS.length=2∧lD.length=8∧ni.length=3∧mu.length=1∧nc.length=5∧lF.length=3∧bq.length=1∧aG.length=1∧bY.length=2∧cz.length=1∧qI.length=2∧cW.length=2∧eY.length=1∧jJ.length=2∧dQ.length=5∧fN.length=9∧gZ.length=5∧eZ.length=6∧cV.length=5∧gX.length=5∧oO.length=7∧tK.length=3∧nk.length=11:=by decide
theorem oF {n:Int} (h:0≤n∧n≤65535):iP n=some (Lib.dy n):=by
 unfold iP
 rw [GQ n (by omega) (by omega),bF]
theorem oz {n:Int} (h:0≤n∧n≤65535):gW n=some (Lib.dy n):=if_pos ⟨by omega,by omega⟩
theorem fZ {n:Int} (h:0≤n∧n≤65535):(Lib.dy n).length≤20:=(Bp 19 n (by omega) (by omega) (by omega) (by omega) (by decide) (by decide) 19 (Nat.le_refl _)).2
theorem nO {b t:List UInt8} (h:b.length+t.length≤140737488355328):bf b t=some ((t.length:Int),true,b++t):=if_pos h
theorem uB (b:List UInt8):kK b=some (b,b):=rfl
structure NL (m:Nat) (l:List (List UInt8)):Prop where
 xX:l.length≤10
 short: ∀ x ∈ l,x.length≤m
theorem Bc (sep:List UInt8) (m:Nat): ∀ r:List (List UInt8),(∀ x ∈ r,x.length≤m)→(Lib.mZ sep r).length≤r.length*(sep.length+m)
 | [],_=>by simp [Lib.mZ]
 | x::r,h=>by
  have ih:=Bc sep m r fun y hy=>h y (by simp [hy])
  have hx:=h x (by simp)
  have e:Lib.mZ sep (x::r)=sep++x++Lib.mZ sep r:=by simp [Lib.mZ]
  rw [e,List.length_append,List.length_append,List.length_cons,Nat.succ_mul]
  omega
theorem iL {m:Nat} {l:List (List UInt8)} (h:NL m l) {sep:List UInt8} (hs:sep.length≤2):(Lib.join l sep).length≤10*(2+m):=by
 cases l with
 | nil=>simp [Lib.join_nil]
 | cons x r=>
  rw [Lib.join_cons,List.length_append]
  have h1:=Bc sep m r fun y hy=>h.short y (by simp [hy])
  have h2:=h.short x (by simp)
  have h3:=h.xX
  rw [List.length_cons] at h3
  have h4:r.length*(sep.length+m)≤9*(2+m):=Nat.mul_le_mul (by omega) (by omega)
  omega
theorem tf {m:Nat} {l:List (List UInt8)} (h:NL m l) (hm:m≤1000) {sep:List UInt8} (hs:sep.length≤2):lg l sep=some (Lib.join l sep):=by
 have :=iL h hs
 have :=h.xX
 exact if_pos ⟨by omega,by omega⟩
theorem DO {m:Nat} {x:List UInt8} {r:List (List UInt8)} (h:NL m (x::r)) (hm:m≤1000) {sep:List UInt8} (hs:sep.length≤2): ∀ q e k,e+q=r.length→lu (k+q+1) (x::r) sep (x++Lib.mZ sep (r.take e)) ((e+1:Nat):Int)=some (Lib.join (x::r) sep)
 | 0,e,k,he=>by
  rw [lu.eq_2,if_neg (by rw [List.length_cons]; omega),Lib.join_cons,List.take_of_length_le (by omega)]
 | q+1,e,k,he=>by
  have hf:=h.xX
  rw [List.length_cons] at hf
  have hlt:e<r.length:=by omega
  have hx:=h.short x (by simp)
  have hy:=h.short (r[e]) (by simp)
  have h1:=Bc sep m (r.take e) fun y hy=>h.short y (List.mem_cons_of_mem _ (List.mem_of_mem_take hy))
  have h4:(r.take e).length*(sep.length+m)≤9*(2+m):=Nat.mul_le_mul (by rw [List.length_take]; omega) (by omega)
  have hg:(x::r).getD (((e+1:Nat):Int)).toNat []=r[e]:=by
   rw [Int.toNat_natCast,List.getD_cons_succ,List.getD_eq_getElem?_getD,List.getElem?_eq_getElem hlt]; rfl
  have ih:=DO h hm hs q (e+1) k (by omega)
  rw [Lib.Ph sep r e (r[e]) (List.getElem?_eq_getElem hlt)] at ih
  rw [show k+(q+1)+1=(k+q+1)+1 from by omega,lu.eq_2,if_pos (by rw [List.length_cons]; omega),if_pos (by omega),if_pos (by rw [List.length_append]; omega),if_pos (by omega),if_pos (by rw [List.length_cons]; omega),hg,
   if_pos (by simp only [List.length_append]; omega),cL (by omega) (by omega)]
  have e2:x++Lib.mZ sep (r.take e)++sep++r[e]=x++(Lib.mZ sep (r.take e)++sep++r[e]):=by simp only [List.append_assoc]
  rw [e2]
  exact ih
theorem s7 {m:Nat} {l:List (List UInt8)} (h:NL m l) (hm:m≤1000) {sep:List UInt8} (hs:sep.length≤2):mg l sep=some (Lib.join l sep):=iM (l.length+2) fun k hk=>by
 show lu k l sep [] 0=_
 cases l with
 | nil=>
  obtain ⟨k,rfl⟩: ∃ j,k=j+1:=⟨k - 1,by omega⟩
  rw [lu.eq_2,if_neg (by simp)]; rfl
 | cons x r=>
  rw [List.length_cons] at hk
  obtain ⟨k,rfl⟩: ∃ j,k=(j+r.length+1)+1:=⟨k - r.length - 2,by omega⟩
  have hx:=h.short x (by simp)
  rw [lu.eq_2,if_pos (by rw [List.length_cons]; omega),if_neg (by omega),if_pos (by omega),if_pos (by rw [List.length_cons]; omega),if_pos (by show 0+x.length≤_; omega)]
  have :=DO h hm hs r.length 0 k (by omega)
  rw [List.take_zero,show Lib.mZ sep []= [] from rfl,List.append_nil] at this
  exact this
def bB {α:Type} (f:α→List UInt8):List α→List UInt8
 | []=> []
 | x::l=>f x++bB f l
theorem qA {α:Type} {f:α→List UInt8} {m:Nat} : ∀ {l:List α},(∀ x ∈ l,(f x).length≤m)→(bB f l).length≤m*l.length
 | [],_=>Nat.zero_le _
 | x::l,h=>by
  have ih:=qA (l:=l) fun y hy=>h y (by simp [hy])
  have hx:=h x (by simp)
  rw [bB,List.length_append,List.length_cons,Nat.mul_succ]
  omega
theorem drop_cons {α:Type} {l:List α} {e:Nat} (h:e<l.length) (z:α):l.drop e=l.getD e z::l.drop (e+1)∧l.getD e z ∈ l:=by
 have :l.getD e z=l[e]:=by rw [List.getD_eq_getElem?_getD,List.getElem?_eq_getElem h]; rfl
 rw [this]
 exact ⟨List.drop_eq_getElem_cons h,List.getElem_mem h⟩
end
end Go.Sy.Ex
namespace Go.Sy.Ex
open Go.Sy
noncomputable section
structure mJ (i:aN):Prop where
 n:i.Name.length≤9
 c:i.er.length≤9
 q:0≤i.mL∧i.mL≤65535
 e:0≤i.Ext∧i.Ext≤65535
 p:0≤i.Prio∧i.Prio≤65535
def ir (i:aN):List UInt8:=((((((((((dQ++i.Name)++aU)++i.er)++fN)++Lib.dy i.mL)++gZ)++Lib.dy i.Ext)++eZ)++Lib.dy i.Prio)++bS)
structure mI (c:aC):Prop where
 n:c.Name.length≤9
 f:c.aS.length≤9
 o:c.Port.length≤9
 t:c.To.length≤9
 q:0≤c.Cap∧c.Cap≤65535
 p:0≤c.Prio∧c.Prio≤65535
def iG (c:aC):List UInt8:=((((((((((((cV++c.Name)++aU)++c.aS)++bR)++c.Port)++aX)++c.To)++gX)++Lib.dy c.Cap)++eZ)++Lib.dy c.Prio)++bS)
theorem zk {i:aN} (h:mJ i):(ir i).length≤1000:=by
 obtain ⟨c0,c1,c2,c3,c4,c5,c6,c7,c8,c9,dB,ew,ey,ez,eA,eB,eC,eD,eE,eF,eG,eH,eI,eJ,eK,eL,eM,eN,eO⟩:=lits
 have h1:=fZ h.q
 have h2:=fZ h.e
 have h3:=fZ h.p
 have h4:=h.n
 have h5:=h.c
 unfold ir
 simp only [List.length_append]
 omega
theorem xq {i:aC} (h:mI i):(iG i).length≤1000:=by
 obtain ⟨c0,c1,c2,c3,c4,c5,c6,c7,c8,c9,dB,ew,ey,ez,eA,eB,eC,eD,eE,eF,eG,eH,eI,eJ,eK,eL,eM,eN,eO⟩:=lits
 have h1:=fZ h.q
 have h3:=fZ h.p
 have h4:=h.n
 have h5:=h.f
 have h6:=h.o
 have h7:=h.t
 unfold iG
 simp only [List.length_append]
 omega
theorem Ft {l:List aN} (hl: ∀ i ∈ l,mJ i) (hn:l.length≤100): ∀ r e b k,e+r=l.length→b.length≤1000*e→qO (k+r+1) b l (l.length:Int) (e:Int)=some (b++bB ir (l.drop e))
 | 0,e,b,k,he,hb=>by
  rw [qO.eq_2,if_neg (by omega),uB,bF,List.drop_of_length_le (by omega),bB,List.append_nil]
 | r+1,e,b,k,he,hb=>by
  obtain ⟨hd,hm⟩:=drop_cons (l:=l) (e:=e) (by omega) aN.z
  have hx:=hl _ hm
  have ht:=zk hx
  obtain ⟨c0,c1,c2,c3,c4,c5,c6,c7,c8,c9,dB,ew,ey,ez,eA,eB,eC,eD,eE,eF,eG,eH,eI,eJ,eK,eL,eM,eN,eO⟩:=lits
  have ih:=Ft hl hn r (e+1) (b++ir (l.getD e aN.z)) k (by omega) (by rw [List.length_append]; omega)
  rw [show k+(r+1)+1=(k+r+1)+1 from by omega,qO.eq_2,if_pos (by omega),if_pos (by omega),if_pos (by omega),Int.toNat_natCast,hd,bB]
  generalize l.getD e aN.z=x at *
  have h1:=fZ hx.q
  have h2:=fZ hx.e
  have h3:=fZ hx.p
  have h4:=hx.n
  have h5:=hx.c
  simp only [oz hx.q,oz hx.e,oz hx.p,bF]
  iterate 10 rw [if_pos (by first | omega | (simp only [List.length_append]; omega))]
  rw [show ((((((((((dQ++x.Name)++aU)++x.er)++fN)++Lib.dy x.mL)++gZ)++Lib.dy x.Ext)++eZ)++Lib.dy x.Prio)++bS)=ir x from rfl,nO (by omega),bF]
  dsimp only
  rw [cL (by omega) (by omega),show (e:Int)+1=((e+1:Nat):Int) from by omega,ih,List.append_assoc]
theorem Az {l:List aN} (hl: ∀ i ∈ l,mJ i) (hn:l.length≤100):oS l=some (bB ir l):=iM (l.length+1) fun k hk=>by
 obtain ⟨k,rfl⟩: ∃ j,k=j+l.length+1:=⟨k - l.length - 1,by omega⟩
 exact Ft hl hn l.length 0 [] k (by omega) (Nat.zero_le _)
theorem EF {l:List aN} (hl: ∀ i ∈ l,mJ i) (hn:l.length≤100): ∀ r e b k,e+r=l.length→b.length≤1000*e→qt (k+r+1) l b (e:Int)=some (b++bB ir (l.drop e))
 | 0,e,b,k,he,hb=>by
  rw [qt.eq_2,if_neg (by omega),List.drop_of_length_le (by omega),bB,List.append_nil]
 | r+1,e,b,k,he,hb=>by
  obtain ⟨hd,hm⟩:=drop_cons (l:=l) (e:=e) (by omega) aN.z
  have hx:=hl _ hm
  have ht:=zk hx
  obtain ⟨c0,c1,c2,c3,c4,c5,c6,c7,c8,c9,dB,ew,ey,ez,eA,eB,eC,eD,eE,eF,eG,eH,eI,eJ,eK,eL,eM,eN,eO⟩:=lits
  have ih:=EF hl hn r (e+1) (b++ir (l.getD e aN.z)) k (by omega) (by rw [List.length_append]; omega)
  rw [show k+(r+1)+1=(k+r+1)+1 from by omega,qt.eq_2,if_pos (by omega),if_pos (by omega),if_pos (by omega),Int.toNat_natCast,hd,bB]
  generalize l.getD e aN.z=x at *
  have h1:=fZ hx.q
  have h2:=fZ hx.e
  have h3:=fZ hx.p
  have h4:=hx.n
  have h5:=hx.c
  simp only [oF hx.q,oF hx.e,oF hx.p,bF]
  iterate 11 rw [if_pos (by first | omega | (simp only [List.length_append]; omega))]
  rw [cL (by omega) (by omega),show (e:Int)+1=((e+1:Nat):Int) from by omega]
  have e1:(((((((((((b++dQ)++x.Name)++aU)++x.er)++fN)++Lib.dy x.mL)++gZ)++Lib.dy x.Ext)++eZ)++Lib.dy x.Prio)++bS)=b++ir x:=by unfold ir; simp only [List.append_assoc]
  rw [e1,ih,List.append_assoc]
theorem EE {l:List aN} (hl: ∀ i ∈ l,mJ i) (hn:l.length≤100):qq l=some (bB ir l):=iM (l.length+1) fun k hk=>by
 obtain ⟨k,rfl⟩: ∃ j,k=j+l.length+1:=⟨k - l.length - 1,by omega⟩
 exact EF hl hn l.length 0 [] k (by omega) (Nat.zero_le _)
theorem Fs {l:List aC} (hl: ∀ i ∈ l,mI i) (hn:l.length≤100): ∀ r e b k,e+r=l.length→b.length≤1000*e→qN (k+r+1) b l (l.length:Int) (e:Int)=some (b++bB iG (l.drop e))
 | 0,e,b,k,he,hb=>by
  rw [qN.eq_2,if_neg (by omega),uB,bF,List.drop_of_length_le (by omega),bB,List.append_nil]
 | r+1,e,b,k,he,hb=>by
  obtain ⟨hd,hm⟩:=drop_cons (l:=l) (e:=e) (by omega) aC.z
  have hx:=hl _ hm
  have ht:=xq hx
  obtain ⟨c0,c1,c2,c3,c4,c5,c6,c7,c8,c9,dB,ew,ey,ez,eA,eB,eC,eD,eE,eF,eG,eH,eI,eJ,eK,eL,eM,eN,eO⟩:=lits
  have ih:=Fs hl hn r (e+1) (b++iG (l.getD e aC.z)) k (by omega) (by rw [List.length_append]; omega)
  rw [show k+(r+1)+1=(k+r+1)+1 from by omega,qN.eq_2,if_pos (by omega),if_pos (by omega),if_pos (by omega),Int.toNat_natCast,hd,bB]
  generalize l.getD e aC.z=x at *
  have h1:=fZ hx.q
  have h3:=fZ hx.p
  have h4:=hx.n
  have h5:=hx.f
  have h6:=hx.o
  have h7:=hx.t
  simp only [oz hx.q,oz hx.p,bF]
  iterate 12 rw [if_pos (by first | omega | (simp only [List.length_append]; omega))]
  rw [show ((((((((((((cV++x.Name)++aU)++x.aS)++bR)++x.Port)++aX)++x.To)++gX)++Lib.dy x.Cap)++eZ)++Lib.dy x.Prio)++bS)=iG x from rfl,nO (by omega),bF]
  dsimp only
  rw [cL (by omega) (by omega),show (e:Int)+1=((e+1:Nat):Int) from by omega,ih,List.append_assoc]
theorem Fq {l:List aC} (hl: ∀ i ∈ l,mI i) (hn:l.length≤100):qM l=some (bB iG l):=iM (l.length+1) fun k hk=>by
 obtain ⟨k,rfl⟩: ∃ j,k=j+l.length+1:=⟨k - l.length - 1,by omega⟩
 exact Fs hl hn l.length 0 [] k (by omega) (Nat.zero_le _)
theorem ED {l:List aC} (hl: ∀ i ∈ l,mI i) (hn:l.length≤100): ∀ r e b k,e+r=l.length→b.length≤1000*e→qp (k+r+1) l b (e:Int)=some (b++bB iG (l.drop e))
 | 0,e,b,k,he,hb=>by
  rw [qp.eq_2,if_neg (by omega),List.drop_of_length_le (by omega),bB,List.append_nil]
 | r+1,e,b,k,he,hb=>by
  obtain ⟨hd,hm⟩:=drop_cons (l:=l) (e:=e) (by omega) aC.z
  have hx:=hl _ hm
  have ht:=xq hx
  obtain ⟨c0,c1,c2,c3,c4,c5,c6,c7,c8,c9,dB,ew,ey,ez,eA,eB,eC,eD,eE,eF,eG,eH,eI,eJ,eK,eL,eM,eN,eO⟩:=lits
  have ih:=ED hl hn r (e+1) (b++iG (l.getD e aC.z)) k (by omega) (by rw [List.length_append]; omega)
  rw [show k+(r+1)+1=(k+r+1)+1 from by omega,qp.eq_2,if_pos (by omega),if_pos (by omega),if_pos (by omega),Int.toNat_natCast,hd,bB]
  generalize l.getD e aC.z=x at *
  have h1:=fZ hx.q
  have h3:=fZ hx.p
  have h4:=hx.n
  have h5:=hx.f
  have h6:=hx.o
  have h7:=hx.t
  simp only [oF hx.q,oF hx.p,bF]
  iterate 13 rw [if_pos (by first | omega | (simp only [List.length_append]; omega))]
  rw [cL (by omega) (by omega),show (e:Int)+1=((e+1:Nat):Int) from by omega]
  have e1:(((((((((((((b++cV)++x.Name)++aU)++x.aS)++bR)++x.Port)++aX)++x.To)++gX)++Lib.dy x.Cap)++eZ)++Lib.dy x.Prio)++bS)=b++iG x:=by unfold iG; simp only [List.append_assoc]
  rw [e1,ih,List.append_assoc]
theorem EC {l:List aC} (hl: ∀ i ∈ l,mI i) (hn:l.length≤100):qo l=some (bB iG l):=iM (l.length+1) fun k hk=>by
 obtain ⟨k,rfl⟩: ∃ j,k=j+l.length+1:=⟨k - l.length - 1,by omega⟩
 exact ED hl hn l.length 0 [] k (by omega) (Nat.zero_le _)
end
end Go.Sy.Ex
namespace Go.Sy.Ex
open Go.Sy
noncomputable section
structure iA (c:bO):Prop where
 r:0≤c.lP∧c.lP≤65535
 s:c.Sets.length≤10∧ ∀ x ∈ c.Sets,NL 9 x
 m:c.dK.length≤10∧ ∀ x ∈ c.dK,NL 9 x
def iS (s:List (List UInt8)):List UInt8:=if (s.length:Int)=0 then ni else Lib.join s mu
def k9 (m:List (List UInt8)):List UInt8:=((bY++Lib.join m aG)++cz)
def jY (c:bO):List UInt8:=((((((nc++Lib.dy c.lP)++lF)++Lib.join (c.Sets.map iS) dI)++bq)++bB k9 c.dK)++qI)
theorem Nu {s:List (List UInt8)} (h:NL 9 s):(iS s).length≤110:=by
 unfold iS
 split
 · decide
 · exact iL h (by decide)
theorem zC {s:List (List UInt8)} (h:NL 9 s):(k9 s).length≤120:=by
 have :=iL h (sep:=aG) (by decide)
 obtain ⟨c0,c1,c2,c3,c4,c5,c6,c7,c8,c9,dB,ew,ey,ez,eA,eB,eC,eD,eE,eF,eG,eH,eI,eJ,eK,eL,eM,eN,eO⟩:=lits
 unfold k9
 simp only [List.length_append]
 omega
theorem tO {l:List (List (List UInt8))} (h:l.length≤10∧ ∀ x ∈ l,NL 9 x):NL 110 (l.map iS):=⟨by rw [List.length_map]; exact h.1,fun x hx=>by
 obtain ⟨y,hy,rfl⟩:=List.mem_map.1 hx
 exact Nu (h.2 y hy)⟩
theorem BW {c:bO} (h:iA c):(jY c).length≤2400:=by
 have h1:=fZ h.r
 have h2:=iL (tO h.s) (sep:=dI) (by decide)
 have h3:=qA (f:=k9) (m:=120) (l:=c.dK) fun x hx=>zC (h.m.2 x hx)
 have h4:=h.m.1
 obtain ⟨c0,c1,c2,c3,c4,c5,c6,c7,c8,c9,dB,ew,ey,ez,eA,eB,eC,eD,eE,eF,eG,eH,eI,eJ,eK,eL,eM,eN,eO⟩:=lits
 unfold jY
 simp only [List.length_append]
 omega
theorem map_take {α β:Type} (f:α→β) {l:List α} {e:Nat} (h:e<l.length) (z:α):(l.take (e+1)).map f=(l.take e).map f++ [f (l.getD e z)]:=by
 have :l.getD e z=l[e]:=by rw [List.getD_eq_getElem?_getD,List.getElem?_eq_getElem h]; rfl
 rw [this,List.take_add_one,List.getElem?_eq_getElem h,List.map_append]; rfl
theorem Fu {l:List (List (List UInt8))} (hl:l.length≤10∧ ∀ x ∈ l,NL 9 x): ∀ r e t k,e+r=l.length→t.length≤2000+120*e→qP (k+r+1) t l (l.length:Int) (e:Int)=some ((t++bB k9 (l.drop e))++qI)
 | 0,e,t,k,he,ht=>by
  obtain ⟨c0,c1,c2,c3,c4,c5,c6,c7,c8,c9,dB,ew,ey,ez,eA,eB,eC,eD,eE,eF,eG,eH,eI,eJ,eK,eL,eM,eN,eO⟩:=lits
  have :=hl.1
  rw [qP.eq_2,if_neg (by omega),if_pos (by omega),List.drop_of_length_le (by omega),bB,List.append_nil]
 | r+1,e,t,k,he,ht=>by
  obtain ⟨hd,hm⟩:=drop_cons (l:=l) (e:=e) (by omega) []
  have hx:=hl.2 _ hm
  have hj:=iL hx (sep:=aG) (by decide)
  have hq:=zC hx
  have :=hl.1
  obtain ⟨c0,c1,c2,c3,c4,c5,c6,c7,c8,c9,dB,ew,ey,ez,eA,eB,eC,eD,eE,eF,eG,eH,eI,eJ,eK,eL,eM,eN,eO⟩:=lits
  have ih:=Fu hl r (e+1) (t++k9 (l.getD e [])) k (by omega) (by rw [List.length_append]; omega)
  rw [show k+(r+1)+1=(k+r+1)+1 from by omega,qP.eq_2,if_pos (by omega),if_pos (by omega),if_pos (by omega),Int.toNat_natCast,hd,bB]
  generalize l.getD e []=x at *
  rw [tf hx (by decide) (by decide),bF]
  iterate 3 rw [if_pos (by first | omega | (simp only [List.length_append]; omega))]
  rw [cL (by omega) (by omega),show (e:Int)+1=((e+1:Nat):Int) from by omega]
  refine Eq.trans ih ?_
  rw [List.append_assoc t]
theorem EG {l:List (List (List UInt8))} (hl:l.length≤10∧ ∀ x ∈ l,NL 9 x) (R:Int) (Ss:List (List (List UInt8))) (A:Int): ∀ r e t k,e+r=l.length→t.length≤2000+120*e→qu (k+r+1) R Ss l A t (e:Int)=some ((t++bB k9 (l.drop e))++tK)
 | 0,e,t,k,he,ht=>by
  obtain ⟨c0,c1,c2,c3,c4,c5,c6,c7,c8,c9,dB,ew,ey,ez,eA,eB,eC,eD,eE,eF,eG,eH,eI,eJ,eK,eL,eM,eN,eO⟩:=lits
  have :=hl.1
  rw [qu.eq_2,if_neg (by omega),if_pos (by omega),List.drop_of_length_le (by omega),bB,List.append_nil]
 | r+1,e,t,k,he,ht=>by
  obtain ⟨hd,hm⟩:=drop_cons (l:=l) (e:=e) (by omega) []
  have hx:=hl.2 _ hm
  have hj:=iL hx (sep:=aG) (by decide)
  have hq:=zC hx
  have :=hl.1
  obtain ⟨c0,c1,c2,c3,c4,c5,c6,c7,c8,c9,dB,ew,ey,ez,eA,eB,eC,eD,eE,eF,eG,eH,eI,eJ,eK,eL,eM,eN,eO⟩:=lits
  have ih:=EG hl R Ss A r (e+1) (t++k9 (l.getD e [])) k (by omega) (by rw [List.length_append]; omega)
  rw [show k+(r+1)+1=(k+r+1)+1 from by omega,qu.eq_2,if_pos (by omega),if_pos (by omega),if_pos (by omega),if_pos (by omega),Int.toNat_natCast,hd,bB]
  generalize l.getD e []=x at *
  rw [s7 hx (by decide) (by decide),bF]
  iterate 2 rw [if_pos (by first | omega | (simp only [List.length_append]; omega))]
  rw [cL (by omega) (by omega),show (e:Int)+1=((e+1:Nat):Int) from by omega]
  have e1:((t++bY)++Lib.join x aG)++cz=t++k9 x:=by unfold k9; simp only [List.append_assoc]
  rw [e1]
  refine Eq.trans ih ?_
  rw [List.append_assoc t]
theorem Fv {c:bO} (hc:iA c): ∀ r e k,e+r=c.Sets.length→oT (k+c.dK.length+2+r) c.lP c.Sets c.dK c.At ((c.Sets.take e).map iS) c.Sets (c.Sets.length:Int) (e:Int)=some (jY c)
 | 0,e,k,he=>by
  obtain ⟨c0,c1,c2,c3,c4,c5,c6,c7,c8,c9,dB,ew,ey,ez,eA,eB,eC,eD,eE,eF,eG,eH,eI,eJ,eK,eL,eM,eN,eO⟩:=lits
  have h1:=fZ hc.r
  have h2:=iL (tO hc.s) (sep:=dI) (by decide)
  rw [Nat.add_zero,show k+c.dK.length+2=(k+c.dK.length+1)+1 from rfl,oT.eq_2,if_neg (by omega),List.take_of_length_le (by omega)]
  simp only [oz hc.r,tf (tO hc.s) (by decide) (show dI.length≤2 by decide),bF]
  iterate 4 rw [if_pos (by first | omega | (simp only [List.length_append]; omega))]
  exact Fu hc.m c.dK.length 0 _ k (by omega) (by simp only [List.length_append]; omega)
 | r+1,e,k,he=>by
  obtain ⟨hd,hm⟩:=drop_cons (l:=c.Sets) (e:=e) (by omega) []
  have hx:=hc.s.2 _ hm
  have hn:=hc.s.1
  have ih:=Fv hc r (e+1) k (by omega)
  rw [map_take iS (l:=c.Sets) (e:=e) (by omega) []] at ih
  have hl: ∀ y:List UInt8,(((c.Sets.take e).map iS).length+ [y].length)*16≤140737488355328:=fun y=>by
   rw [List.length_map,List.length_take,List.length_singleton]; omega
  rw [show k+c.dK.length+2+(r+1)=(k+c.dK.length+2+r)+1 from by omega,oT.eq_2,if_pos (by omega),if_pos (by omega),if_pos (by omega),Int.toNat_natCast]
  generalize c.Sets.getD e []=x at *
  by_cases hz:(x.length:Int)=0
  · rw [show iS x=ni from if_pos hz] at ih
    rw [if_pos hz,if_pos (hl _),cL (by omega) (by omega),show (e:Int)+1=((e+1:Nat):Int) from by omega]
    exact ih
  · rw [show iS x=Lib.join x mu from if_neg hz] at ih
    rw [if_neg hz,tf hx (by decide) (by decide),bF,if_pos (hl _),cL (by omega) (by omega),show (e:Int)+1=((e+1:Nat):Int) from by omega]
    exact ih
theorem Ni {c:bO} (hc:iA c):wz c=some (jY c):=iM (c.dK.length+2+c.Sets.length) fun k hk=>by
 obtain ⟨k,rfl⟩: ∃ j,k=j+c.dK.length+2+c.Sets.length:=⟨k - (c.dK.length+2+c.Sets.length),by omega⟩
 exact Fv hc c.Sets.length 0 k (by omega)
theorem EH {c:bO} (hc:iA c): ∀ r e k,e+r=c.Sets.length→oH (k+c.dK.length+2+r) c.lP c.Sets c.dK c.At ((c.Sets.take e).map iS) (e:Int)=some ((cW++jY c)++eY)
 | 0,e,k,he=>by
  obtain ⟨c0,c1,c2,c3,c4,c5,c6,c7,c8,c9,dB,ew,ey,ez,eA,eB,eC,eD,eE,eF,eG,eH,eI,eJ,eK,eL,eM,eN,eO⟩:=lits
  have h1:=fZ hc.r
  have h2:=iL (tO hc.s) (sep:=dI) (by decide)
  rw [Nat.add_zero,show k+c.dK.length+2=(k+c.dK.length+1)+1 from rfl,oH.eq_2,if_neg (by omega),List.take_of_length_le (by omega)]
  simp only [oF hc.r,s7 (tO hc.s) (by decide) (show dI.length≤2 by decide),bF]
  iterate 4 rw [if_pos (by first | omega | (simp only [List.length_append]; omega))]
  refine Eq.trans (EG hc.m c.lP c.Sets c.At c.dK.length 0 _ k (by omega) (by simp only [List.length_append]; omega)) ?_
  have e1:oO=cW++nc:=rfl
  have e2:tK=qI++eY:=rfl
  rw [e1,e2,List.drop_zero]
  unfold jY
  simp only [List.append_assoc]
 | r+1,e,k,he=>by
  obtain ⟨hd,hm⟩:=drop_cons (l:=c.Sets) (e:=e) (by omega) []
  have hx:=hc.s.2 _ hm
  have hn:=hc.s.1
  have ih:=EH hc r (e+1) k (by omega)
  rw [map_take iS (l:=c.Sets) (e:=e) (by omega) []] at ih
  have hl: ∀ y:List UInt8,(((c.Sets.take e).map iS).length+ [y].length)*16≤140737488355328:=fun y=>by
   rw [List.length_map,List.length_take,List.length_singleton]; omega
  rw [show k+c.dK.length+2+(r+1)=(k+c.dK.length+2+r)+1 from by omega,oH.eq_2,if_pos (by omega),if_pos (by omega),if_pos (by omega),Int.toNat_natCast]
  generalize c.Sets.getD e []=x at *
  by_cases hz:(x.length:Int)=0
  · rw [show iS x=ni from if_pos hz] at ih
    rw [if_pos hz,if_pos (hl _),cL (by omega) (by omega),show (e:Int)+1=((e+1:Nat):Int) from by omega]
    exact ih
  · rw [show iS x=Lib.join x mu from if_neg hz] at ih
    rw [if_neg hz,if_pos (by omega),if_pos (by omega),s7 hx (by decide) (by decide),bF,if_pos (hl _),cL (by omega) (by omega),show (e:Int)+1=((e+1:Nat):Int) from by omega]
    exact ih
theorem Mc {c:bO} (hc:iA c):vQ c=some ((cW++jY c)++eY):=iM (c.dK.length+2+c.Sets.length) fun k hk=>by
 obtain ⟨k,rfl⟩: ∃ j,k=j+c.dK.length+2+c.Sets.length:=⟨k - (c.dK.length+2+c.Sets.length),by omega⟩
 exact EH hc c.Sets.length 0 k (by omega)
structure jW (x:an):Prop where
 n:x.Name.length≤9
 i:x.cY.length≤9
 q:x.dU.length≤9
 p:x.fc.length≤9
 l:NL 9 x.Insts
 k:NL 9 x.ga
 c:x.Cells.length≤40∧ ∀ y ∈ x.Cells,iA y
def ja (c:bO):List UInt8:=((cW++jY c)++eY)
def j9 (x:an):List UInt8:=((((((((((cU++x.Name)++aU)++x.cY)++bR)++x.dU)++aX)++x.fc)++g_)++Lib.join x.Insts dI)++bS)
def kT (x:an):List UInt8:=if 0<(x.ga.length:Int) then ((lD++Lib.join x.ga dI)++bS) else []
def fB (x:an):List UInt8:=((j9 x++kT x)++bB ja x.Cells)++jJ
theorem zw {c:bO} (h:iA c):(ja c).length≤2403:=by
 have :=BW h
 obtain ⟨c0,c1,c2,c3,c4,c5,c6,c7,c8,c9,dB,ew,ey,ez,eA,eB,eC,eD,eE,eF,eG,eH,eI,eJ,eK,eL,eM,eN,eO⟩:=lits
 unfold ja
 simp only [List.length_append]
 omega
theorem yH {x:an} (h:jW x):(j9 x).length≤500∧(kT x).length≤300:=by
 have h1:=iL h.l (sep:=dI) (by decide)
 have h2:=iL h.k (sep:=dI) (by decide)
 have h3:=h.n
 have h4:=h.i
 have h5:=h.q
 have h6:=h.p
 obtain ⟨c0,c1,c2,c3,c4,c5,c6,c7,c8,c9,dB,ew,ey,ez,eA,eB,eC,eD,eE,eF,eG,eH,eI,eJ,eK,eL,eM,eN,eO⟩:=lits
 constructor
 · unfold j9
   simp only [List.length_append]
   omega
 · unfold kT
   split
   · simp only [List.length_append]; omega
   · exact Nat.zero_le _
theorem xp {x:an} (h:jW x):(fB x).length≤100000:=by
 obtain ⟨h1,h2⟩:=yH h
 have h3:=qA (f:=ja) (m:=2403) (l:=x.Cells) fun y hy=>zw (h.c.2 y hy)
 have h4:=h.c.1
 obtain ⟨c0,c1,c2,c3,c4,c5,c6,c7,c8,c9,dB,ew,ey,ez,eA,eB,eC,eD,eE,eF,eG,eH,eI,eJ,eK,eL,eM,eN,eO⟩:=lits
 unfold fB
 simp only [List.length_append]
 omega
theorem Fo {l:List bO} (hl:l.length≤40∧ ∀ y ∈ l,iA y) (X:List an) (a i:Int) (N:Nat) (hN:N≤10000000): ∀ r e b k,e+r=l.length→b.length≤N+2403*e→nr (k+r+1) b X a i l (l.length:Int) (e:Int)=oR k ((b++bB ja (l.drop e))++jJ) X a (aj (i+1))
 | 0,e,b,k,he,hb=>by
  have :=hl.1
  obtain ⟨c0,c1,c2,c3,c4,c5,c6,c7,c8,c9,dB,ew,ey,ez,eA,eB,eC,eD,eE,eF,eG,eH,eI,eJ,eK,eL,eM,eN,eO⟩:=lits
  rw [nr.eq_2,if_neg (by omega),nO (by omega),bF,List.drop_of_length_le (by omega),bB,List.append_nil]
 | r+1,e,b,k,he,hb=>by
  obtain ⟨hd,hm⟩:=drop_cons (l:=l) (e:=e) (by omega) bO.z
  have hx:=hl.2 _ hm
  have ht:=BW hx
  have hq:=zw hx
  have :=hl.1
  obtain ⟨c0,c1,c2,c3,c4,c5,c6,c7,c8,c9,dB,ew,ey,ez,eA,eB,eC,eD,eE,eF,eG,eH,eI,eJ,eK,eL,eM,eN,eO⟩:=lits
  have ih:=Fo hl X a i N hN r (e+1) (b++ja (l.getD e bO.z)) k (by omega) (by rw [List.length_append]; omega)
  rw [show k+(r+1)+1=(k+r+1)+1 from by omega,nr.eq_2,if_pos (by omega),if_pos (by omega),if_pos (by omega),Int.toNat_natCast,hd,bB]
  generalize l.getD e bO.z=x at *
  rw [Ni hx,bF]
  iterate 2 rw [if_pos (by first | omega | (simp only [List.length_append]; omega))]
  rw [show (cW++jY x)++eY=ja x from rfl,nO (by omega),bF]
  dsimp only
  rw [cL (n:=(e:Int)+1) (by omega) (by omega),show (e:Int)+1=((e+1:Nat):Int) from by omega,ih,List.append_assoc b]
theorem Ez {l:List bO} (hl:l.length≤40∧ ∀ y ∈ l,iA y) (X:List an) (i:Int) (x1 x2 x3 x4:List UInt8) (x5 x6:List (List UInt8)) (x7:Int) (N:Nat) (hN:N≤10000000): ∀ r e b k,e+r=l.length→b.length≤N+2403*e→m6 (k+r+1) X b i x1 x2 x3 x4 x5 x6 l x7 (e:Int)=oG k X ((b++bB ja (l.drop e))++jJ) (aj (i+1))
 | 0,e,b,k,he,hb=>by
  have :=hl.1
  obtain ⟨c0,c1,c2,c3,c4,c5,c6,c7,c8,c9,dB,ew,ey,ez,eA,eB,eC,eD,eE,eF,eG,eH,eI,eJ,eK,eL,eM,eN,eO⟩:=lits
  rw [m6.eq_2,if_neg (by omega),if_pos (by omega),List.drop_of_length_le (by omega),bB,List.append_nil]
 | r+1,e,b,k,he,hb=>by
  obtain ⟨hd,hm⟩:=drop_cons (l:=l) (e:=e) (by omega) bO.z
  have hx:=hl.2 _ hm
  have hq:=zw hx
  have :=hl.1
  have ih:=Ez hl X i x1 x2 x3 x4 x5 x6 x7 N hN r (e+1) (b++ja (l.getD e bO.z)) k (by omega) (by rw [List.length_append]; omega)
  rw [show k+(r+1)+1=(k+r+1)+1 from by omega,m6.eq_2,if_pos (by omega),if_pos (by omega),if_pos (by omega),Int.toNat_natCast,hd,bB]
  generalize l.getD e bO.z=x at *
  rw [Mc hx,bF,show (cW++jY x)++eY=ja x from rfl,if_pos (by omega),cL (n:=(e:Int)+1) (by omega) (by omega),show (e:Int)+1=((e+1:Nat):Int) from by omega,ih,List.append_assoc b]
end
end Go.Sy.Ex
namespace Go.Sy.Ex
open Go.Sy
noncomputable section
theorem Fp {l:List an} (hl: ∀ i ∈ l,jW i) (hn:l.length≤10): ∀ r e b k,e+r=l.length→b.length≤100000*e→oR (k+42*r+1) b l (l.length:Int) (e:Int)=some (b++bB fB (l.drop e))
 | 0,e,b,k,he,hb=>by
  rw [Nat.mul_zero,Nat.add_zero,oR.eq_2,if_neg (by omega),uB,bF,List.drop_of_length_le (by omega),bB,List.append_nil]
 | r+1,e,b,k,he,hb=>by
  obtain ⟨hd,hm⟩:=drop_cons (l:=l) (e:=e) (by omega) an.z
  have hx:=hl _ hm
  have ht:=xp hx
  obtain ⟨c0,c1,c2,c3,c4,c5,c6,c7,c8,c9,dB,ew,ey,ez,eA,eB,eC,eD,eE,eF,eG,eH,eI,eJ,eK,eL,eM,eN,eO⟩:=lits
  have ih:=fun j=>Fp hl hn r (e+1) (b++fB (l.getD e an.z)) j (by omega) (by rw [List.length_append]; omega)
  rw [show k+42*(r+1)+1=(k+42*r+42)+1 from by omega,oR.eq_2,if_pos (by omega),if_pos (by omega),if_pos (by omega),Int.toNat_natCast,hd,bB]
  generalize l.getD e an.z=x at *
  have h1:=iL hx.l (sep:=dI) (by decide)
  have h2:=iL hx.k (sep:=dI) (by decide)
  have h3:=hx.n
  have h4:=hx.i
  have h5:=hx.q
  have h6:=hx.p
  have h7:=hx.c.1
  obtain ⟨h8,h9⟩:=yH hx
  obtain ⟨k',hk'⟩: ∃ k',k+42*r+42=(k'+42*r+1)+x.Cells.length+1:=⟨k+40 - x.Cells.length,by omega⟩
  simp only [tf hx.l (by decide) (show dI.length≤2 by decide),tf hx.k (by decide) (show dI.length≤2 by decide),bF]
  iterate 10 rw [if_pos (by first | omega | (simp only [List.length_append]; omega))]
  rw [show ((((((((((cU++x.Name)++aU)++x.cY)++bR)++x.dU)++aX)++x.fc)++g_)++Lib.join x.Insts dI)++bS)=j9 x from rfl,nO (by omega),bF]
  dsimp only
  have fin: ∀ t,t=b++j9 x++kT x→nr (k+42*r+42) t l (l.length:Int) (e:Int) x.Cells (x.Cells.length:Int) 0=some (b++(fB x++bB fB (l.drop (e+1)))):=fun t ht=>by
   rw [hk']
   refine Eq.trans (Fo hx.c l (l.length:Int) (e:Int) 2000000 (by omega) x.Cells.length 0 t (k'+42*r+1) (by omega) (by rw [ht]; simp only [List.length_append]; omega)) ?_
   rw [cL (by omega) (by omega),show (e:Int)+1=((e+1:Nat):Int) from by omega,List.drop_zero,ht]
   have e1:(b++j9 x++kT x++bB ja x.Cells)++jJ=b++fB x:=by unfold fB; simp only [List.append_assoc]
   rw [e1,ih,List.append_assoc]
  by_cases hz:0<(x.ga.length:Int)
  · rw [if_pos hz]
    iterate 2 rw [if_pos (by first | omega | (simp only [List.length_append]; omega))]
    have e2:((lD++Lib.join x.ga dI)++bS)=kT x:=by unfold kT; rw [if_pos hz]
    rw [e2,nO (by rw [List.length_append]; omega),bF]
    exact fin _ rfl
  · rw [if_neg hz]
    refine fin _ ?_
    unfold kT
    rw [if_neg hz,List.append_nil]
theorem Ay {l:List an} (hl: ∀ i ∈ l,jW i) (hn:l.length≤10):nq l=some (bB fB l):=iM (42*l.length+1) fun k hk=>by
 obtain ⟨k,rfl⟩: ∃ j,k=j+42*l.length+1:=⟨k - 42*l.length - 1,by omega⟩
 exact Fp hl hn l.length 0 [] k (by omega) (Nat.zero_le _)
theorem EB {l:List an} (hl: ∀ i ∈ l,jW i) (hn:l.length≤10): ∀ r e b k,e+r=l.length→b.length≤100000*e→oG (k+42*r+1) l b (e:Int)=some (b++bB fB (l.drop e))
 | 0,e,b,k,he,hb=>by
  rw [Nat.mul_zero,Nat.add_zero,oG.eq_2,if_neg (by omega),List.drop_of_length_le (by omega),bB,List.append_nil]
 | r+1,e,b,k,he,hb=>by
  obtain ⟨hd,hm⟩:=drop_cons (l:=l) (e:=e) (by omega) an.z
  have hx:=hl _ hm
  have ht:=xp hx
  obtain ⟨c0,c1,c2,c3,c4,c5,c6,c7,c8,c9,dB,ew,ey,ez,eA,eB,eC,eD,eE,eF,eG,eH,eI,eJ,eK,eL,eM,eN,eO⟩:=lits
  have ih:=fun j=>EB hl hn r (e+1) (b++fB (l.getD e an.z)) j (by omega) (by rw [List.length_append]; omega)
  rw [show k+42*(r+1)+1=(k+42*r+42)+1 from by omega,oG.eq_2,if_pos (by omega),if_pos (by omega),if_pos (by omega),Int.toNat_natCast,hd,bB]
  generalize l.getD e an.z=x at *
  have h1:=iL hx.l (sep:=dI) (by decide)
  have h2:=iL hx.k (sep:=dI) (by decide)
  have h3:=hx.n
  have h4:=hx.i
  have h5:=hx.q
  have h6:=hx.p
  have h7:=hx.c.1
  obtain ⟨h8,h9⟩:=yH hx
  obtain ⟨k',hk'⟩: ∃ k',k+42*r+42=(k'+42*r+1)+x.Cells.length+1:=⟨k+40 - x.Cells.length,by omega⟩
  simp only [s7 hx.l (by decide) (show dI.length≤2 by decide),s7 hx.k (by decide) (show dI.length≤2 by decide),bF]
  iterate 11 rw [if_pos (by first | omega | (simp only [List.length_append]; omega))]
  have e3:((((((((((((b++cU)++x.Name)++aU)++x.cY)++bR)++x.dU)++aX)++x.fc)++g_)++Lib.join x.Insts dI)++bS))=b++j9 x:=by unfold j9; simp only [List.append_assoc]
  rw [e3]
  have fin: ∀ t,t=b++j9 x++kT x→m6 (k+42*r+42) l t (e:Int) x.Name x.cY x.dU x.fc x.Insts x.ga x.Cells x.At 0=some (b++(fB x++bB fB (l.drop (e+1)))):=fun t ht=>by
   rw [hk']
   refine Eq.trans (Ez hx.c l (e:Int) _ _ _ _ _ _ _ 2000000 (by omega) x.Cells.length 0 t (k'+42*r+1) (by omega) (by rw [ht]; simp only [List.length_append]; omega)) ?_
   rw [cL (by omega) (by omega),show (e:Int)+1=((e+1:Nat):Int) from by omega,List.drop_zero,ht]
   have e1:(b++j9 x++kT x++bB ja x.Cells)++jJ=b++fB x:=by unfold fB; simp only [List.append_assoc]
   rw [e1,ih,List.append_assoc]
  by_cases hz:0<(x.ga.length:Int)
  · rw [if_pos hz]
    iterate 3 rw [if_pos (by first | omega | (simp only [List.length_append]; omega))]
    refine fin _ ?_
    unfold kT
    rw [if_pos hz]
    simp only [List.append_assoc]
  · rw [if_neg hz]
    refine fin _ ?_
    unfold kT
    rw [if_neg hz,List.append_nil]
theorem EA {l:List an} (hl: ∀ i ∈ l,jW i) (hn:l.length≤10):qn l=some (bB fB l):=iM (42*l.length+1) fun k hk=>by
 obtain ⟨k,rfl⟩: ∃ j,k=j+42*l.length+1:=⟨k - 42*l.length - 1,by omega⟩
 exact EB hl hn l.length 0 [] k (by omega) (Nat.zero_le _)
def F_ (a:Int) (I:List aN) (C:List aC) (X:List an):List UInt8:=((((nk++Lib.dy a)++bS)++bB ir I)++bB iG C)++bB fB X
section
variable {a:Int} {I:List aN} {C:List aC} {X:List an} (ha:0≤a∧a≤65535) (hI: ∀ i ∈ I,mJ i) (mU:I.length≤10) (hC: ∀ i ∈ C,mI i) (yp:C.length≤10) (hX: ∀ i ∈ X,jW i) (sn:X.length≤10)
include ha hI mU hC yp hX sn
theorem Ga:(Lib.dy a).length≤20∧(bB ir I).length≤10000∧(bB iG C).length≤10000∧(bB fB X).length≤1000000:=by
 have h1:=qA (f:=ir) (m:=1000) (l:=I) fun y hy=>zk (hI y hy)
 have h2:=qA (f:=iG) (m:=1000) (l:=C) fun y hy=>xq (hC y hy)
 have h3:=qA (f:=fB) (m:=100000) (l:=X) fun y hy=>xp (hX y hy)
 exact ⟨fZ ha,by omega,by omega,by omega⟩
theorem Nj:wo (fI.mk a [] I C X)=some (F_ a I C X):=iM 1 fun k hk=>by
 obtain ⟨k,rfl⟩: ∃ j,k=j+1:=⟨k - 1,by omega⟩
 obtain ⟨h1,h2,h3,h4⟩:=Ga ha hI mU hC yp hX sn
 obtain ⟨c0,c1,c2,c3,c4,c5,c6,c7,c8,c9,dB,ew,ey,ez,eA,eB,eC,eD,eE,eF,eG,eH,eI,eJ,eK,eL,eM,eN,eO⟩:=lits
 show wq (k+1) (fI.mk a [] I C X)=_
 unfold wq
 dsimp only
 rw [oz ha,bF]
 iterate 2 rw [if_pos (by first | omega | (simp only [List.length_append]; omega))]
 rw [nO (by simp only [List.length_append,List.length_nil]; omega),bF]
 dsimp only
 rw [wu.eq_2,if_neg (by decide),uB,bF,Az hI (by omega),bF]
 dsimp only
 rw [List.nil_append,if_pos (by simp only [List.length_append]; omega),Fq hC (by omega),bF,if_pos (by simp only [List.length_append]; omega),Ay hX sn,bF,if_pos (by simp only [List.length_append]; omega)]
 rfl
theorem Md:vN (fI.mk a [] I C X)=some (F_ a I C X):=iM 1 fun k hk=>by
 obtain ⟨k,rfl⟩: ∃ j,k=j+1:=⟨k - 1,by omega⟩
 obtain ⟨h1,h2,h3,h4⟩:=Ga ha hI mU hC yp hX sn
 obtain ⟨c0,c1,c2,c3,c4,c5,c6,c7,c8,c9,dB,ew,ey,ez,eA,eB,eC,eD,eE,eF,eG,eH,eI,eJ,eK,eL,eM,eN,eO⟩:=lits
 show vO (k+1) (fI.mk a [] I C X)=_
 unfold vO
 dsimp only
 rw [oF ha,bF]
 iterate 2 rw [if_pos (by first | omega | (simp only [List.length_append]; omega))]
 rw [vP.eq_2,if_neg (by decide),EE hI (by omega),bF,if_pos (by simp only [List.length_append]; omega),EC hC (by omega),bF,if_pos (by simp only [List.length_append]; omega),EA hX sn,bF,if_pos (by simp only [List.length_append]; omega)]
 rfl
end
theorem KI:Lib.dy 2= [50]:=by
 have :Lib.dy ((2:Nat):Int)= [50]:=by rw [Lib.DN 2,xM (by decide)]; rfl
 exact this
theorem vH {l:List (List UInt8)} (h:(decide (l.length≤10)&&l.all fun x=>decide (x.length≤9))=true):NL 9 l:=by
 rw [Bool.and_eq_true] at h
 exact ⟨of_decide_eq_true h.1,fun x hx=>of_decide_eq_true (List.all_eq_true.1 h.2 x hx)⟩
theorem zm:oy=some true:=by
 have hc:iA (bO.mk 2 [[tN,wh],[]] [[we],[]] 0):=⟨⟨by decide,by decide⟩,⟨by decide,fun x hx=>by simp at hx; rcases hx with rfl | rfl <;> exact vH (by decide)⟩,⟨by decide,fun x hx=>by simp at hx; rcases hx with rfl | rfl <;> exact vH (by decide)⟩⟩
 have hx:jW (an.mk AM oN AQ AR [oN,v8] [AI,AL] [bO.mk 2 [[tN,wh],[]] [[we],[]] 0] 0):=⟨by decide,by decide,by decide,by decide,vH (by decide),vH (by decide),by decide,fun y hy=>by simp at hy; subst hy; exact hc⟩
 unfold oy
 rw [Ay (fun i hi=>by simp at hi; subst hi; exact hx) (by decide),bF]
 have :bB fB [an.mk AM oN AQ AR [oN,v8] [AI,AL] [bO.mk 2 [[tN,wh],[]] [[we],[]] 0] 0]=Fw:=by
  simp only [bB,fB,j9,kT,ja,jY,KI]
  decide
 rw [decide_eq_true this]
theorem LG (a:Int): ∃ p:Nat,p<6∧oI a 6=some (p:Int):=by
 have h1: -6<a.tmod 6:=Int.lt_tmod_of_pos a (by decide)
 have h2:a.tmod 6<6:=Int.tmod_lt_of_pos a (by decide)
 unfold oI
 rw [if_pos (by decide)]
 by_cases h:a.tmod 6<0
 · rw [if_pos h,cL (by omega) (by omega)]
   exact ⟨(a.tmod 6+6).toNat,by omega,by congr 1; omega⟩
 · rw [if_neg h]
   exact ⟨(a.tmod 6).toNat,by omega,by congr 1; omega⟩
theorem Ho: ∀ p,p<6→([cj.1,cj.2.1,cj.2.2.1,cj.2.2.2.1,cj.2.2.2.2.1,cj.2.2.2.2.2].getD p []).length≤9:=by decide
theorem zD (v:List Int): ∀ (r e k:Nat) (out:List (List UInt8)),e+r=9→out.length=e→(∀ x ∈ out,x.length≤9)→ ∃ l:List (List UInt8),l.length=9∧(∀ x ∈ l,x.length≤9)∧gF (k+r+1) v 9 cj out (e:Int)=some l
 | 0,e,k,out,he,ho,hs=>⟨out,by omega,hs,by rw [gF.eq_2,if_neg (by omega)]⟩
 | r+1,e,k,out,he,ho,hs=>by
  have step: ∀ a:Int, ∃ l:List (List UInt8),l.length=9∧(∀ x ∈ l,x.length≤9)∧((oI a 6).bind fun r1=>
   if 0≤r1 then
   if r1<([cj.1,cj.2.1,cj.2.2.1,cj.2.2.2.1,cj.2.2.2.2.1,cj.2.2.2.2.2].length:Int) then
   if (out.length+ [[cj.1,cj.2.1,cj.2.2.1,cj.2.2.2.1,cj.2.2.2.2.1,cj.2.2.2.2.2].getD r1.toNat []].length)*16≤140737488355328 then
   gF (k+r+1) v 9 cj (out++ [[cj.1,cj.2.1,cj.2.2.1,cj.2.2.2.1,cj.2.2.2.2.1,cj.2.2.2.2.2].getD r1.toNat []]) (aj ((e:Int)+1)) else none else none else none)=some l:=fun a=>by
   obtain ⟨p,hp,hq⟩:=LG a
   obtain ⟨l,h1,h2,h3⟩:=zD v r (e+1) k (out++ [[cj.1,cj.2.1,cj.2.2.1,cj.2.2.2.1,cj.2.2.2.2.1,cj.2.2.2.2.2].getD p []]) (by omega) (by rw [List.length_append,List.length_singleton]; omega) (fun x hx=>by
    rcases List.mem_append.1 hx with hx | hx
    · exact hs x hx
    · rw [List.mem_singleton.1 hx]; exact Ho p hp)
   refine ⟨l,h1,h2, ?_⟩
   rw [hq,bF,if_pos (by omega),if_pos (by show (p:Int)<((6:Nat):Int); omega),if_pos (by rw [List.length_singleton]; omega),Int.toNat_natCast,cL (by omega) (by omega),show (e:Int)+1=((e+1:Nat):Int) from by omega]
   exact h3
  rw [show k+(r+1)+1=(k+r+1)+1 from by omega,gF.eq_2,if_pos (by omega)]
  by_cases hv:(e:Int)<(v.length:Int)
  · rw [if_pos hv,if_pos (by omega),if_pos hv]
    exact step _
  · rw [if_neg hv]
    exact step _
theorem D5 (v:List Int): ∀ (r e k k':Nat) (out:List (List UInt8)),e+r=9→gF (k+r+1) v 9 cj out (e:Int)=gF (k'+r+1) v 9 cj out (e:Int)
 | 0,e,k,k',out,he=>by
  rw [gF.eq_2,gF.eq_2,if_neg (by omega),if_neg (by omega)]
 | r+1,e,k,k',out,he=>by
  have ih:=fun o=>D5 v r (e+1) k k' o (by omega)
  have hw:aj ((e:Int)+1)=((e+1:Nat):Int):=by rw [cL (by omega) (by omega)]; omega
  rw [show k+(r+1)+1=(k+r+1)+1 from by omega,show k'+(r+1)+1=(k'+r+1)+1 from by omega,gF.eq_2,gF.eq_2]
  simp only [hw,ih]
theorem Lt (v:List Int): ∃ l:List (List UInt8),l.length=9∧(∀ x ∈ l,x.length≤9)∧vB v 9=some l:=by
 obtain ⟨l,h1,h2,h3⟩:=zD v 9 0 0 [] (by omega) rfl (by simp)
 refine ⟨l,h1,h2,iM 10 fun k hk=> ?_⟩
 obtain ⟨k,rfl⟩: ∃ j,k=j+9+1:=⟨k - 10,by omega⟩
 obtain ⟨l',nX,kW,CV⟩:=zD v 9 0 k [] (by omega) rfl (by simp)
 show gF (k+9+1) v 9 cj [] 0=_
 have hm: ∀ k,gF (k+9+1) v 9 cj [] 0=gF (0+9+1) v 9 cj [] 0:=fun k=>D5 v 9 0 k 0 [] (by omega)
 rw [hm k]
 exact h3
end
end Go.Sy.Ex
namespace Go.Sy.Ex
open Go.Sy
noncomputable section
theorem uK {l:List (List UInt8)} (hl:l.length=9) (hs: ∀ x ∈ l,x.length≤9) (a b:Int):NL 9 (cut l a b):=by
 refine ⟨?_,fun x hx=>hs x (List.mem_of_mem_take (List.mem_of_mem_drop hx))⟩
 unfold cut
 rw [List.length_drop,List.length_take]
 omega
theorem lf {l:List (List UInt8)} (hl:l.length=9) (hs: ∀ x ∈ l,x.length≤9) (j:Nat) (hj:j<9):(l.getD j []).length≤9:=(hs _ (drop_cons (l:=l) (e:=j) (by omega) []).2)
theorem cell_of {l:List (List UInt8)} (hl:l.length=9) (hs: ∀ x ∈ l,x.length≤9) {R:Int} (hR:0≤R∧R≤255) (a b c d e f g h:Int):iA (bO.mk R [cut l a b,cut l c d] [cut l e f,cut l g h] 0):=
 ⟨⟨hR.1,by show R≤65535; omega⟩,⟨by show 2≤10; decide,fun x hx=>by
  have :x=cut l a b∨x=cut l c d:=by simpa using hx
  rcases this with rfl | rfl <;> exact uK hl hs _ _⟩,⟨by show 2≤10; decide,fun x hx=>by
  have :x=cut l e f∨x=cut l g h:=by simpa using hx
  rcases this with rfl | rfl <;> exact uK hl hs _ _⟩⟩
section
variable {l:List (List UInt8)} (hl:l.length=9) (hs: ∀ x ∈ l,x.length≤9) {rows:List Int} (hr: ∀ y ∈ rows,0≤y∧y≤255) (hn:rows.length≤40)
 {n:Int×Int×Int} {i1 i2 c1 c2 c3 c4 x1 x2 x3 x4:List UInt8} {q e p cq cp:Int} {X5 X6:List (List UInt8)}
 (hi:mJ (aN.mk i1 i2 q e p 0)) (hc:mI (aC.mk c1 c2 c3 c4 cq cp 0)) (hx: ∀ E:List bO,E.length≤40→(∀ y ∈ E,iA y)→jW (an.mk x1 x2 x3 x4 X5 X6 E 0)) (ha:0≤n.2.2∧n.2.2≤65535)
include hl hs hr hn hi hc hx ha
theorem K6 (E:List bO) (hE:E.length≤40) (nY: ∀ y ∈ E,iA y) (k:Nat):ox (k+1) rows n l i1 i2 q e p 0 c1 c2 c3 c4 cq cp 0 x1 x2 x3 x4 X5 X6 E 0 (rows.length:Int)=some true:=by
 have hx1:=hx E hE nY
 have y8:jW (an.mk x1 x2 x3 x4 X5 [] E 0):=⟨hx1.n,hx1.i,hx1.q,hx1.p,hx1.l,⟨by show 0≤10; decide,by simp⟩,hx1.c⟩
 have hI: ∀ i ∈ [aN.mk i1 i2 q e p 0,aN.mk i1 i2 q e p 0],mJ i:=fun i h=>by
  have :i=aN.mk i1 i2 q e p 0:=by simpa using h
  rw [this]; exact hi
 have hC: ∀ i ∈ [aC.mk c1 c2 c3 c4 cq cp 0],mI i:=fun i h=>by
  rw [List.mem_singleton.1 h]; exact hc
 have hX: ∀ i ∈ [an.mk x1 x2 x3 x4 X5 X6 E 0,an.mk x1 x2 x3 x4 X5 [] E 0],jW i:=fun i h=>by
  have :i=an.mk x1 x2 x3 x4 X5 X6 E 0∨i=an.mk x1 x2 x3 x4 X5 [] E 0:=by simpa using h
  rcases this with rfl | rfl
  · exact hx1
  · exact y8
 have hw:aj ([n.1,n.2.1,n.2.2].getD (2:Int).toNat 0)=n.2.2:=cL (by show -9223372036854775808≤n.2.2; omega) (by show n.2.2≤9223372036854775807; omega)
 rw [ox.eq_2,if_neg (by omega),if_pos (by decide),if_pos (by show (2:Int)<((3:Nat):Int); decide),hw,
  Az hI (by show 2≤100; decide),bF,EE hI (by show 2≤100; decide),bF,if_pos rfl,Az (l:= []) (fun i h=>by cases h) (by decide),bF,if_pos (show bB ir []= [] from rfl),
  Fq hC (by show 1≤100; decide),bF,EC hC (by show 1≤100; decide),bF,if_pos rfl,Ay hX (by show 2≤10; decide),bF,EA hX (by show 2≤10; decide),bF,if_pos rfl,
  Nj ha hI (by show 2≤10; decide) hC (by show 1≤10; decide) hX (by show 2≤10; decide),bF,Md ha hI (by show 2≤10; decide) hC (by show 1≤10; decide) hX (by show 2≤10; decide),bF,if_pos rfl,zm,bF]
theorem D2: ∀ (r j k:Nat) (E:List bO),j+r=rows.length→E.length=j→(∀ y ∈ E,iA y)→ox (k+r+1) rows n l i1 i2 q e p 0 c1 c2 c3 c4 cq cp 0 x1 x2 x3 x4 X5 X6 E 0 (j:Int)=some true
 | 0,j,k,E,hj,hE,nY=>by
  obtain rfl:j=rows.length:=by omega
  exact K6 hl hs hr hn hi hc hx ha E (by omega) nY k
 | r+1,j,k,E,hj,hE,nY=>by
  obtain ⟨sk,I9⟩:=hr _ (drop_cons (l:=rows) (e:=j) (by omega) 0).2
  have ih:=fun E' h1 h2=>D2 r (j+1) k E' (by omega) h1 h2
  rw [show k+(r+1)+1=(k+r+1)+1 from by omega,ox.eq_2,if_pos (by omega),if_pos (by omega),if_pos (by omega),Int.toNat_natCast]
  generalize rows.getD j 0=R at *
  have hw:aj R=R:=cL (by omega) (by omega)
  have d3:R.tdiv 3=R / 3:=Int.tdiv_eq_ediv_of_nonneg sk
  have d9:R.tdiv 9=R / 9:=Int.tdiv_eq_ediv_of_nonneg sk
  have d36:R.tdiv 36=R / 36:=Int.tdiv_eq_ediv_of_nonneg sk
  have m3:R.tmod 3=R % 3:=Int.tmod_eq_emod_of_nonneg sk
  have w3:aj (R / 3)=R / 3:=cL (by omega) (by omega)
  have w9:aj (R / 9)=R / 9:=cL (by omega) (by omega)
  have OP:aj (R / 36)=R / 36:=cL (by omega) (by omega)
  have Lh:(R / 3).tmod 3=R / 3 % 3:=Int.tmod_eq_emod_of_nonneg (by omega)
  have Lj:(R / 9).tmod 4=R / 9 % 4:=Int.tmod_eq_emod_of_nonneg (by omega)
  have Li:(R / 36).tmod 3=R / 36 % 3:=Int.tmod_eq_emod_of_nonneg (by omega)
  have a1:aj (1+R / 3 % 3)=1+R / 3 % 3:=cL (by omega) (by omega)
  have a2:aj (2+R / 36 % 3)=2+R / 36 % 3:=cL (by omega) (by omega)
  simp only [hw,d3,d9,d36,m3,w3,w9,OP,Lh,Lj,Li,a1,a2,hl]
  iterate 19 rw [if_pos (by first | decide | omega)]
  rw [if_pos (by rw [List.length_singleton]; omega),cL (by omega) (by omega),show (j:Int)+1=((j+1:Nat):Int) from by omega]
  refine ih _ (by rw [List.length_append,List.length_singleton,hE]) fun y hy=> ?_
  rcases List.mem_append.1 hy with hy | hy
  · exact nY y hy
  · rw [List.mem_singleton.1 hy]
    exact cell_of hl hs ⟨sk,I9⟩ _ _ _ _ _ _ _ _
end
theorem K7 (v:List Int) (n:Int×Int×Int) (h1:0≤n.1∧n.1≤65535) (h2:0≤n.2.1∧n.2.1≤65535) (h3:0≤n.2.2∧n.2.2≤65535) {rows:List Int} (hr: ∀ y ∈ rows,0≤y∧y≤255):zn v n rows=some true:=iM 50 fun k hk=>by
 show vA k v n rows=_
 unfold vA
 by_cases hv:100<(v.length:Int)
 · rw [if_pos hv,zm,bF]
 rw [if_neg hv]
 by_cases hq:40<(rows.length:Int)
 · rw [if_pos hq,zm,bF]
 rw [if_neg hq]
 obtain ⟨l,hl,hs,hn⟩:=Lt v
 rw [hn,bF]
 have w1:aj ([n.1,n.2.1,n.2.2].getD (0:Int).toNat 0)=n.1:=cL (by show -9223372036854775808≤n.1; omega) (by show n.1≤9223372036854775807; omega)
 have w2:aj ([n.1,n.2.1,n.2.2].getD (1:Int).toNat 0)=n.2.1:=cL (by show -9223372036854775808≤n.2.1; omega) (by show n.2.1≤9223372036854775807; omega)
 have w3:aj ([n.1,n.2.1,n.2.2].getD (2:Int).toNat 0)=n.2.2:=cL (by show -9223372036854775808≤n.2.2; omega) (by show n.2.2≤9223372036854775807; omega)
 have J1:(([n.1,n.2.1,n.2.2].length:Nat):Int)=3:=rfl
 simp only [w1,w2,w3,hl,J1]
 iterate 38 rw [if_pos (by decide)]
 obtain ⟨k,rfl⟩: ∃ j,k=j+rows.length+1:=⟨k - rows.length - 1,by omega⟩
 exact D2 hl hs hr (by omega) (n:=n) ⟨lf hl hs 0 (by decide),lf hl hs 1 (by decide),h1,h2,h3⟩ ⟨lf hl hs 2 (by decide),lf hl hs 3 (by decide),lf hl hs 4 (by decide),lf hl hs 5 (by decide),h1,h2⟩
  (fun E hE nY=>⟨lf hl hs 6 (by decide),lf hl hs 7 (by decide),lf hl hs 8 (by decide),lf hl hs 0 (by decide),uK hl hs 1 3,uK hl hs 3 5,hE,nY⟩) h3 rows.length 0 k [] (by omega) rfl (fun y hy=>by cases hy)
end
end Go.Sy.Ex
