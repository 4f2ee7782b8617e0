import Derived.Shelf.Strings.Builder1
import Derived.Shelf.Strings.Builder2
import Derived.Shelf.Strings.OnBuilder
import Derived.Shelf.Strings.BuilderF
import Derived.Shelf.Strings.BuilderK
import Derived.Shelf.Strings.Builder2Cap
import Derived.Shelf.Strconv.Itoa0
import Derived.Shelf.Strconv.Itoa1
import Derived.Shelf.LaysM
import Derived.Shelf.Strconv.Itoa2
import Derived.Shelf.Strconv.Itoa3
import Derived.Shelf.Strconv.Itoa4
import Derived.Shelf.Strings.Prefix
import Derived.Shelf.Bits.Mul64
import Derived.Shelf.Strings.Repeat
import Derived.Lib.ItoaMem
import Derived.Stop.LaidErr
import Derived.Shelf.Vars
import Derived.MakeChecks
import Derived.LaidHandle
import Derived.ChangeSame
import Derived.ChangeVars
import Derived.JoinedOf
import Derived.RowKit
import Derived.HandedShaped
import Derived.LaidMore
import Derived.LaidLaws
import Derived.Lay
import Derived.Lib.Join
import Derived.Test.YtfacjammklpmpaaDoorProg
import Derived.Test.YtfacjammklpmpaaDoorRows
import Derived.Test.YtfacjammklpmpaaDoorSc
set_option linter.unusedVariables false
set_option linter.unusedSimpArgs false
/-
 DERIVED:THE SHELF's CONTRACTS AT THIS DUMP,IN PLAIN WORDS (tools/lay-plain.mjs out of 'XAcL.lean',which tools/lay-shelf.mjs wrote):THE SAME DECLARATIONS UNDER THE SAME NAMES: 'import', 'namespace', 'open', 'def', 'theorem' AND NOTHING ELSE:no command of the shelf's:FOR A HAND-IN. Each laying:the table of numbers ('.._ren') and one theorem,a field a fact of the dump's own or the kernel's comparison; each contract:ONE APPLICATION.
-/
namespace Go.Proofs
open Go.Shelf
def Tryd.KG:Go.Shelf.Ren:=⟨fun | 173=>37 | 246=>49 | 283=>62 | 284=>63 | 285=>64 | 286=>65 | 129=>81 | 317=>80 | 318=>82 | 319=>83 | 320=>84 | 337=>91 | 338=>92 | n=>n,fun | 2=>2 | 3=>3 | 9=>9 | 4=>4 | 171=>124 | 0=>0 | 53=>125 | 37=>25 | 5=>5 | 173=>128 | 212=>143 | 51=>144 | 20=>20 | 213=>145 | 46=>131 | 232=>162 | 233=>163 | n=>n,fun | 17=>0 | 18=>2 | 19=>3 | n=>n⟩
theorem Tryd.KF:Go.Proofs.LaysM.n173 Tryd.prog Tryd.KG:= {
 mixed:=by kernel_rfl
 f129:=Tryd.func81.trans (congrArg some (by kernel_rfl))
 f173:=Tryd.func37.trans (congrArg some (by kernel_rfl))
 f246:=Tryd.func49.trans (congrArg some (by kernel_rfl))
 f283:=Tryd.func62.trans (congrArg some (by kernel_rfl))
 f284:=Tryd.func63.trans (congrArg some (by kernel_rfl))
 f285:=Tryd.func64.trans (congrArg some (by kernel_rfl))
 f286:=Tryd.func65.trans (congrArg some (by kernel_rfl))
 f317:=Tryd.func80.trans (congrArg some (by kernel_rfl))
 f318:=Tryd.func82.trans (congrArg some (by kernel_rfl))
 f319:=Tryd.func83.trans (congrArg some (by kernel_rfl))
 f320:=Tryd.func84.trans (congrArg some (by kernel_rfl))
 f337:=Tryd.func91.trans (congrArg some (by kernel_rfl))
 f338:=Tryd.func92.trans (congrArg some (by kernel_rfl))
 t0:=Tryd.underlying0
 a0:=Tryd.isAgg0
 z0:=Tryd.sizeOf0
 v0:=Tryd.zeroValue0
 t2:=Tryd.underlying2
 a2:=Tryd.isAgg2
 z2:=Tryd.sizeOf2
 v2:=Tryd.zeroValue2
 t3:=Tryd.underlying3
 a3:=Tryd.isAgg3
 z3:=Tryd.sizeOf3
 v3:=Tryd.zeroValue3
 t4:=Tryd.underlying4
 a4:=Tryd.isAgg4
 z4:=Tryd.sizeOf4
 v4:=Tryd.zeroValue4
 t5:=Tryd.underlying5
 a5:=Tryd.isAgg5
 z5:=Tryd.sizeOf5
 v5:=Tryd.zeroValue5
 t9:=Tryd.underlying9
 a9:=Tryd.isAgg9
 z9:=Tryd.sizeOf9
 v9:=Tryd.zeroValue9
 t20:=Tryd.underlying20
 a20:=Tryd.isAgg20
 z20:=Tryd.sizeOf20
 v20:=Tryd.zeroValue20
 t37:=Tryd.underlying25
 a37:=Tryd.isAgg25
 z37:=Tryd.sizeOf25
 v37:=Tryd.zeroValue25
 t46:=Tryd.underlying131
 a46:=Tryd.isAgg131
 z46:=Tryd.sizeOf131
 v46:=Tryd.zeroValue131
 t51:=Tryd.underlying144
 a51:=Tryd.isAgg144
 z51:=Tryd.sizeOf144
 v51:=Tryd.zeroValue144
 t53:=Tryd.underlying125
 a53:=Tryd.isAgg125
 z53:=Tryd.sizeOf125
 v53:=Tryd.zeroValue125
 t171:=Tryd.underlying124
 a171:=Tryd.isAgg124
 z171:=Tryd.sizeOf124
 v171:=Tryd.zeroValue124
 t173:=Tryd.underlying128
 a173:=Tryd.isAgg128
 z173:=Tryd.sizeOf128
 v173:=Tryd.zeroValue128
 t212:=Tryd.underlying143
 a212:=Tryd.isAgg143
 z212:=Tryd.sizeOf143
 v212:=Tryd.zeroValue143
 t213:=Tryd.underlying145
 a213:=Tryd.isAgg145
 z213:=Tryd.sizeOf145
 t232:=Tryd.underlying162
 a232:=Tryd.isAgg162
 z232:=Tryd.sizeOf162
 v232:=Tryd.zeroValue162
 t233:=Tryd.underlying163
 a233:=Tryd.isAgg163
 z233:=Tryd.sizeOf163
 v233:=Tryd.zeroValue163
 g17:=by kernel_rfl
 g18:=by kernel_rfl
 g19:=by kernel_rfl
 i0:=by kernel_rfl
 i2:=by kernel_rfl
 i3:=by kernel_rfl
 i4:=by kernel_rfl
 i5:=by kernel_rfl
 i9:=by kernel_rfl
 i20:=by kernel_rfl
 i37:=by kernel_rfl
 i46:=by kernel_rfl
 i51:=by kernel_rfl
 i53:=by kernel_rfl
 i171:=by kernel_rfl
 i173:=by kernel_rfl
 i212:=by kernel_rfl
 i232:=by kernel_rfl
 i233:=by kernel_rfl
 m17:=by kernel_rfl
 m18:=by kernel_rfl
 m19:=by kernel_rfl }
open Go.RowKit Go.Sort Go.Lib in
theorem Tryd.strconv_FormatInt_10 (n:Int) (h0: -9223372036854775808≤n) (h1:n≤9223372036854775807) (w:World) (htab:Lib.TabIs Tryd.prog w "internal/strconv.uint64pow10" .u64 Lib.pow10Tab):
 Calls Tryd.prog 37 #[.int .i64 n, .int .i64 10] w fun e w'=>e= .returned (.string ⟨(Lib.itoa n).toArray⟩)∧ ∃ k os,w'=grow (w.drewN k) os:=Any.strconv_FormatInt_10 Tryd.KF n h0 h1 w htab
def Tryd.zj:Go.Shelf.Ren:=⟨fun | 169=>20 | n=>n,fun | 70=>62 | 9=>9 | 0=>0 | 72=>64 | 37=>25 | 127=>88 | 3=>3 | 5=>5 | n=>n,fun | n=>n⟩
theorem Tryd.KC:Go.Proofs.Lays.n169 Tryd.prog Tryd.zj:= {
 mixed:=by kernel_rfl
 f169:=Tryd.func20.trans (congrArg some (by kernel_rfl))
 t0:=Tryd.underlying0
 a0:=Tryd.isAgg0
 z0:=Tryd.sizeOf0
 v0:=Tryd.zeroValue0
 t3:=Tryd.underlying3
 a3:=Tryd.isAgg3
 z3:=Tryd.sizeOf3
 v3:=Tryd.zeroValue3
 t9:=Tryd.underlying9
 a9:=Tryd.isAgg9
 z9:=Tryd.sizeOf9
 v9:=Tryd.zeroValue9
 t37:=Tryd.underlying25
 a37:=Tryd.isAgg25
 z37:=Tryd.sizeOf25
 v37:=Tryd.zeroValue25
 t70:=Tryd.underlying62
 a70:=Tryd.isAgg62
 z70:=Tryd.sizeOf62
 v70:=Tryd.zeroValue62
 t72:=Tryd.underlying64
 a72:=Tryd.isAgg64
 z72:=Tryd.sizeOf64
 v72:=Tryd.zeroValue64
 t127:=Tryd.underlying88
 a127:=Tryd.isAgg88
 z127:=Tryd.sizeOf88
 v127:=Tryd.zeroValue88 }
theorem Tryd.GC:Builder.Extra Tryd.prog Tryd.zj:= {
 sizeBuilder:=by kernel_rfl
 liesBuilder:=by kernel_rfl
 t5:=Tryd.underlying5
 a5:=Tryd.isAgg5
 z5:=Tryd.sizeOf5
 v5:=Tryd.zeroValue5
 infoByte:=by kernel_rfl
 cellsByte:=by kernel_rfl
 sizeByte:=by kernel_rfl
 neB5:=by decide }
open Go.RowKit in
def Tryd.DU:Go.Shelf.Ren:=⟨fun | 156=>22 | 165=>36 | 166=>18 | 169=>20 | 240=>34 | 241=>50 | 276=>48 | 277=>66 | n=>n,fun | 31=>27 | 9=>9 | 3=>3 | 4=>4 | 0=>0 | 20=>20 | 72=>64 | 76=>67 | 70=>62 | 37=>25 | 75=>66 | 127=>88 | 164=>105 | 5=>5 | 80=>70 | n=>n,fun | n=>n⟩
theorem Tryd.DT:Go.Proofs.Lays.n156 Tryd.prog Tryd.DU:= {
 mixed:=by kernel_rfl
 f156:=Tryd.func22.trans (congrArg some (by kernel_rfl))
 f165:=Tryd.func36.trans (congrArg some (by kernel_rfl))
 f166:=Tryd.func18.trans (congrArg some (by kernel_rfl))
 f169:=Tryd.func20.trans (congrArg some (by kernel_rfl))
 f240:=Tryd.func34.trans (congrArg some (by kernel_rfl))
 f241:=Tryd.func50.trans (congrArg some (by kernel_rfl))
 f276:=Tryd.func48.trans (congrArg some (by kernel_rfl))
 f277:=Tryd.func66.trans (congrArg some (by kernel_rfl))
 t0:=Tryd.underlying0
 a0:=Tryd.isAgg0
 z0:=Tryd.sizeOf0
 v0:=Tryd.zeroValue0
 t3:=Tryd.underlying3
 a3:=Tryd.isAgg3
 z3:=Tryd.sizeOf3
 v3:=Tryd.zeroValue3
 t4:=Tryd.underlying4
 a4:=Tryd.isAgg4
 z4:=Tryd.sizeOf4
 v4:=Tryd.zeroValue4
 t9:=Tryd.underlying9
 a9:=Tryd.isAgg9
 z9:=Tryd.sizeOf9
 v9:=Tryd.zeroValue9
 t20:=Tryd.underlying20
 a20:=Tryd.isAgg20
 z20:=Tryd.sizeOf20
 v20:=Tryd.zeroValue20
 t31:=Tryd.underlying27
 a31:=Tryd.isAgg27
 z31:=Tryd.sizeOf27
 v31:=Tryd.zeroValue27
 t37:=Tryd.underlying25
 a37:=Tryd.isAgg25
 z37:=Tryd.sizeOf25
 v37:=Tryd.zeroValue25
 t70:=Tryd.underlying62
 a70:=Tryd.isAgg62
 z70:=Tryd.sizeOf62
 v70:=Tryd.zeroValue62
 t72:=Tryd.underlying64
 a72:=Tryd.isAgg64
 z72:=Tryd.sizeOf64
 v72:=Tryd.zeroValue64
 t75:=Tryd.underlying66
 a75:=Tryd.isAgg66
 z75:=Tryd.sizeOf66
 v75:=Tryd.zeroValue66
 t76:=Tryd.underlying67
 a76:=Tryd.isAgg67
 z76:=Tryd.sizeOf67
 v76:=Tryd.zeroValue67
 t127:=Tryd.underlying88
 a127:=Tryd.isAgg88
 z127:=Tryd.sizeOf88
 v127:=Tryd.zeroValue88
 t164:=Tryd.underlying105
 a164:=Tryd.isAgg105
 z164:=Tryd.sizeOf105
 v164:=Tryd.zeroValue105 }
theorem Tryd.Bj:Builder.Extra Tryd.prog Tryd.DU:= {
 sizeBuilder:=by kernel_rfl
 liesBuilder:=by kernel_rfl
 t5:=Tryd.underlying5
 a5:=Tryd.isAgg5
 z5:=Tryd.sizeOf5
 v5:=Tryd.zeroValue5
 infoByte:=by kernel_rfl
 cellsByte:=by kernel_rfl
 sizeByte:=by kernel_rfl
 neB5:=by decide }
open Go.RowKit in
theorem Tryd.strings_Join (bk o c:Nat) (xs:List ByteArray) (sep:ByteArray) (w:World) (hcells: ∀ (j:Nat) x,xs[j]? =some x→w.cell? ⟨bk,o+j,none⟩=some (.string x)) (hbk:bk<w.heap.size) (hN:xs.length≤140737488355328) (hcap:xs.length≤c) (hlen:(Lib.join (xs.map (·.data.toList)) sep.data.toList).length≤140737488355328):
 Calls Tryd.prog 22 #[.slice (some ⟨bk,o,none⟩) xs.length c, .string sep] w fun e w'=>e= .returned (.string ⟨(Lib.join (xs.map (·.data.toList)) sep.data.toList).toArray⟩)∧Below w.heap.size w w':=Any.strings_Join Tryd.DT Tryd.Bj bk o c xs sep w hcells hbk hN hcap hlen
open Go.RowKit in
theorem Tryd.strings_Join_none (a:Option Addr) (c:Nat) (sep:ByteArray) (w:World):
 Calls Tryd.prog 22 #[.slice a 0 c, .string sep] w fun e w'=>e= .returned (.string ⟨#[]⟩)∧w'=w:=Any.strings_Join_none Tryd.DT Tryd.Bj a c sep w
def Tryd.DS:Go.Shelf.Ren:=⟨fun | 105=>51 | 212=>67 | 99=>68 | 165=>36 | 166=>18 | 170=>69 | 169=>20 | 263=>85 | 264=>86 | 206=>87 | 240=>34 | 241=>50 | 276=>48 | 277=>66 | n=>n,fun | 9=>9 | 3=>3 | 4=>4 | 20=>20 | 0=>0 | 46=>131 | 109=>132 | 5=>5 | 72=>64 | 76=>67 | 51=>144 | 146=>148 | 53=>125 | 148=>150 | 70=>62 | 37=>25 | 75=>66 | 127=>88 | 164=>105 | 80=>70 | n=>n,fun | n=>n⟩
theorem Tryd.KA:Go.Proofs.Lays.n105 Tryd.prog Tryd.DS:= {
 mixed:=by kernel_rfl
 f99:=Tryd.func68.trans (congrArg some (by kernel_rfl))
 f105:=Tryd.func51.trans (congrArg some (by kernel_rfl))
 f165:=Tryd.func36.trans (congrArg some (by kernel_rfl))
 f166:=Tryd.func18.trans (congrArg some (by kernel_rfl))
 f169:=Tryd.func20.trans (congrArg some (by kernel_rfl))
 f170:=Tryd.func69.trans (congrArg some (by kernel_rfl))
 f206:=Tryd.func87.trans (congrArg some (by kernel_rfl))
 f212:=Tryd.func67.trans (congrArg some (by kernel_rfl))
 f240:=Tryd.func34.trans (congrArg some (by kernel_rfl))
 f241:=Tryd.func50.trans (congrArg some (by kernel_rfl))
 f263:=Tryd.func85.trans (congrArg some (by kernel_rfl))
 f264:=Tryd.func86.trans (congrArg some (by kernel_rfl))
 f276:=Tryd.func48.trans (congrArg some (by kernel_rfl))
 f277:=Tryd.func66.trans (congrArg some (by kernel_rfl))
 t0:=Tryd.underlying0
 a0:=Tryd.isAgg0
 z0:=Tryd.sizeOf0
 v0:=Tryd.zeroValue0
 t3:=Tryd.underlying3
 a3:=Tryd.isAgg3
 z3:=Tryd.sizeOf3
 v3:=Tryd.zeroValue3
 t4:=Tryd.underlying4
 a4:=Tryd.isAgg4
 z4:=Tryd.sizeOf4
 v4:=Tryd.zeroValue4
 t5:=Tryd.underlying5
 a5:=Tryd.isAgg5
 z5:=Tryd.sizeOf5
 v5:=Tryd.zeroValue5
 t9:=Tryd.underlying9
 a9:=Tryd.isAgg9
 z9:=Tryd.sizeOf9
 v9:=Tryd.zeroValue9
 t20:=Tryd.underlying20
 a20:=Tryd.isAgg20
 z20:=Tryd.sizeOf20
 v20:=Tryd.zeroValue20
 t37:=Tryd.underlying25
 a37:=Tryd.isAgg25
 z37:=Tryd.sizeOf25
 v37:=Tryd.zeroValue25
 t46:=Tryd.underlying131
 a46:=Tryd.isAgg131
 z46:=Tryd.sizeOf131
 v46:=Tryd.zeroValue131
 t51:=Tryd.underlying144
 a51:=Tryd.isAgg144
 z51:=Tryd.sizeOf144
 v51:=Tryd.zeroValue144
 t53:=Tryd.underlying125
 a53:=Tryd.isAgg125
 z53:=Tryd.sizeOf125
 v53:=Tryd.zeroValue125
 t70:=Tryd.underlying62
 a70:=Tryd.isAgg62
 z70:=Tryd.sizeOf62
 v70:=Tryd.zeroValue62
 t72:=Tryd.underlying64
 a72:=Tryd.isAgg64
 z72:=Tryd.sizeOf64
 v72:=Tryd.zeroValue64
 t75:=Tryd.underlying66
 a75:=Tryd.isAgg66
 z75:=Tryd.sizeOf66
 v75:=Tryd.zeroValue66
 t76:=Tryd.underlying67
 a76:=Tryd.isAgg67
 z76:=Tryd.sizeOf67
 v76:=Tryd.zeroValue67
 t109:=Tryd.underlying132
 a109:=Tryd.isAgg132
 z109:=Tryd.sizeOf132
 v109:=Tryd.zeroValue132
 t127:=Tryd.underlying88
 a127:=Tryd.isAgg88
 z127:=Tryd.sizeOf88
 v127:=Tryd.zeroValue88
 t146:=Tryd.underlying148
 a146:=Tryd.isAgg148
 z146:=Tryd.sizeOf148
 v146:=Tryd.zeroValue148
 t148:=Tryd.underlying150
 a148:=Tryd.isAgg150
 z148:=Tryd.sizeOf150
 v148:=Tryd.zeroValue150
 t164:=Tryd.underlying105
 a164:=Tryd.isAgg105
 z164:=Tryd.sizeOf105
 v164:=Tryd.zeroValue105 }
theorem Tryd.GA:Builder.Extra Tryd.prog Tryd.DS:= {
 sizeBuilder:=by kernel_rfl
 liesBuilder:=by kernel_rfl
 t5:=Tryd.underlying5
 a5:=Tryd.isAgg5
 z5:=Tryd.sizeOf5
 v5:=Tryd.zeroValue5
 infoByte:=by kernel_rfl
 cellsByte:=by kernel_rfl
 sizeByte:=by kernel_rfl
 neB5:=by decide }
open Go.RowKit Go.Lib in
theorem Tryd.strings_Repeat (s:ByteArray) (c:Nat) (w:World) (hc:c≤9223372036854775807) (hlen:s.size*c≤140737488355328):
 Calls Tryd.prog 51 #[.string s, .int .i64 c] w fun e w'=>e= .returned (.string ⟨(Lib.repeatL s.data.toList c).toArray⟩)∧Below w.heap.size w w':=Any.strings_Repeat Tryd.KA Tryd.GA s c w hc hlen
def Tryd.KE:Go.Shelf.Ren:=⟨fun | 171=>19 | 243=>35 | 246=>49 | 283=>62 | 284=>63 | 285=>64 | 286=>65 | 129=>81 | 317=>80 | 318=>82 | 319=>83 | 320=>84 | 337=>91 | 338=>92 | n=>n,fun | 3=>3 | 9=>9 | 2=>2 | 4=>4 | 171=>124 | 0=>0 | 53=>125 | 37=>25 | 5=>5 | 173=>128 | 212=>143 | 51=>144 | 20=>20 | 213=>145 | 46=>131 | 232=>162 | 233=>163 | n=>n,fun | 17=>0 | 18=>2 | 19=>3 | n=>n⟩
theorem Tryd.KD:Go.Proofs.LaysM.n171 Tryd.prog Tryd.KE:= {
 mixed:=by kernel_rfl
 f129:=Tryd.func81.trans (congrArg some (by kernel_rfl))
 f171:=Tryd.func19.trans (congrArg some (by kernel_rfl))
 f243:=Tryd.func35.trans (congrArg some (by kernel_rfl))
 f246:=Tryd.func49.trans (congrArg some (by kernel_rfl))
 f283:=Tryd.func62.trans (congrArg some (by kernel_rfl))
 f284:=Tryd.func63.trans (congrArg some (by kernel_rfl))
 f285:=Tryd.func64.trans (congrArg some (by kernel_rfl))
 f286:=Tryd.func65.trans (congrArg some (by kernel_rfl))
 f317:=Tryd.func80.trans (congrArg some (by kernel_rfl))
 f318:=Tryd.func82.trans (congrArg some (by kernel_rfl))
 f319:=Tryd.func83.trans (congrArg some (by kernel_rfl))
 f320:=Tryd.func84.trans (congrArg some (by kernel_rfl))
 f337:=Tryd.func91.trans (congrArg some (by kernel_rfl))
 f338:=Tryd.func92.trans (congrArg some (by kernel_rfl))
 t0:=Tryd.underlying0
 a0:=Tryd.isAgg0
 z0:=Tryd.sizeOf0
 v0:=Tryd.zeroValue0
 t2:=Tryd.underlying2
 a2:=Tryd.isAgg2
 z2:=Tryd.sizeOf2
 v2:=Tryd.zeroValue2
 t3:=Tryd.underlying3
 a3:=Tryd.isAgg3
 z3:=Tryd.sizeOf3
 v3:=Tryd.zeroValue3
 t4:=Tryd.underlying4
 a4:=Tryd.isAgg4
 z4:=Tryd.sizeOf4
 v4:=Tryd.zeroValue4
 t5:=Tryd.underlying5
 a5:=Tryd.isAgg5
 z5:=Tryd.sizeOf5
 v5:=Tryd.zeroValue5
 t9:=Tryd.underlying9
 a9:=Tryd.isAgg9
 z9:=Tryd.sizeOf9
 v9:=Tryd.zeroValue9
 t20:=Tryd.underlying20
 a20:=Tryd.isAgg20
 z20:=Tryd.sizeOf20
 v20:=Tryd.zeroValue20
 t37:=Tryd.underlying25
 a37:=Tryd.isAgg25
 z37:=Tryd.sizeOf25
 v37:=Tryd.zeroValue25
 t46:=Tryd.underlying131
 a46:=Tryd.isAgg131
 z46:=Tryd.sizeOf131
 v46:=Tryd.zeroValue131
 t51:=Tryd.underlying144
 a51:=Tryd.isAgg144
 z51:=Tryd.sizeOf144
 v51:=Tryd.zeroValue144
 t53:=Tryd.underlying125
 a53:=Tryd.isAgg125
 z53:=Tryd.sizeOf125
 v53:=Tryd.zeroValue125
 t171:=Tryd.underlying124
 a171:=Tryd.isAgg124
 z171:=Tryd.sizeOf124
 v171:=Tryd.zeroValue124
 t173:=Tryd.underlying128
 a173:=Tryd.isAgg128
 z173:=Tryd.sizeOf128
 v173:=Tryd.zeroValue128
 t212:=Tryd.underlying143
 a212:=Tryd.isAgg143
 z212:=Tryd.sizeOf143
 v212:=Tryd.zeroValue143
 t213:=Tryd.underlying145
 a213:=Tryd.isAgg145
 z213:=Tryd.sizeOf145
 t232:=Tryd.underlying162
 a232:=Tryd.isAgg162
 z232:=Tryd.sizeOf162
 v232:=Tryd.zeroValue162
 t233:=Tryd.underlying163
 a233:=Tryd.isAgg163
 z233:=Tryd.sizeOf163
 v233:=Tryd.zeroValue163
 g17:=by kernel_rfl
 g18:=by kernel_rfl
 g19:=by kernel_rfl
 i0:=by kernel_rfl
 i2:=by kernel_rfl
 i3:=by kernel_rfl
 i4:=by kernel_rfl
 i5:=by kernel_rfl
 i9:=by kernel_rfl
 i20:=by kernel_rfl
 i37:=by kernel_rfl
 i46:=by kernel_rfl
 i51:=by kernel_rfl
 i53:=by kernel_rfl
 i171:=by kernel_rfl
 i173:=by kernel_rfl
 i212:=by kernel_rfl
 i232:=by kernel_rfl
 i233:=by kernel_rfl
 m17:=by kernel_rfl
 m18:=by kernel_rfl
 m19:=by kernel_rfl }
open Go.RowKit Go.Sort Go.Lib in
theorem Tryd.strconv_Itoa (n:Int) (h0: -9223372036854775808≤n) (h1:n≤9223372036854775807) (w:World) (htab:Lib.TabIs Tryd.prog w "internal/strconv.uint64pow10" .u64 Lib.pow10Tab):
 Calls Tryd.prog 19 #[.int .i64 n] w fun e w'=>e= .returned (.string ⟨(Lib.itoa n).toArray⟩)∧ ∃ k os,w'=grow (w.drewN k) os:=Any.strconv_Itoa Tryd.KD n h0 h1 w htab
end Go.Proofs
namespace Go.Proofs
open Go.Shelf
def Tryd.zi:Go.Shelf.Ren:=⟨fun | 166=>18 | 240=>34 | 276=>48 | n=>n,fun | 0=>0 | 3=>3 | 4=>4 | 5=>5 | 9=>9 | 20=>20 | 31=>27 | 37=>25 | 70=>62 | 72=>64 | 75=>66 | 76=>67 | 80=>70 | 127=>88 | 164=>105 | n=>n,fun | n=>n⟩
theorem Tryd.KB:Go.Proofs.Lays.n166 Tryd.prog Tryd.zi:= {
 mixed:=by kernel_rfl
 f166:=Tryd.func18.trans (congrArg some (by kernel_rfl))
 f240:=Tryd.func34.trans (congrArg some (by kernel_rfl))
 f276:=Tryd.func48.trans (congrArg some (by kernel_rfl))
 t0:=Tryd.underlying0
 a0:=Tryd.isAgg0
 z0:=Tryd.sizeOf0
 v0:=Tryd.zeroValue0
 t3:=Tryd.underlying3
 a3:=Tryd.isAgg3
 z3:=Tryd.sizeOf3
 v3:=Tryd.zeroValue3
 t4:=Tryd.underlying4
 a4:=Tryd.isAgg4
 z4:=Tryd.sizeOf4
 v4:=Tryd.zeroValue4
 t9:=Tryd.underlying9
 a9:=Tryd.isAgg9
 z9:=Tryd.sizeOf9
 v9:=Tryd.zeroValue9
 t20:=Tryd.underlying20
 a20:=Tryd.isAgg20
 z20:=Tryd.sizeOf20
 v20:=Tryd.zeroValue20
 t37:=Tryd.underlying25
 a37:=Tryd.isAgg25
 z37:=Tryd.sizeOf25
 v37:=Tryd.zeroValue25
 t70:=Tryd.underlying62
 a70:=Tryd.isAgg62
 z70:=Tryd.sizeOf62
 v70:=Tryd.zeroValue62
 t72:=Tryd.underlying64
 a72:=Tryd.isAgg64
 z72:=Tryd.sizeOf64
 v72:=Tryd.zeroValue64
 t75:=Tryd.underlying66
 a75:=Tryd.isAgg66
 z75:=Tryd.sizeOf66
 v75:=Tryd.zeroValue66
 t164:=Tryd.underlying105
 a164:=Tryd.isAgg105
 z164:=Tryd.sizeOf105
 v164:=Tryd.zeroValue105 }
theorem Tryd.GB:Builder.Extra Tryd.prog Tryd.zi:= {
 sizeBuilder:=by kernel_rfl
 liesBuilder:=by kernel_rfl
 t5:=Tryd.underlying5
 a5:=Tryd.isAgg5
 z5:=Tryd.sizeOf5
 v5:=Tryd.zeroValue5
 infoByte:=by kernel_rfl
 cellsByte:=by kernel_rfl
 sizeByte:=by kernel_rfl
 neB5:=by decide }
def Tryd.vz:Go.Shelf.Ren:=⟨fun | 167=>89 | 240=>34 | 276=>48 | n=>n,fun | 0=>0 | 3=>3 | 4=>4 | 5=>5 | 9=>9 | 20=>20 | 31=>27 | 37=>25 | 70=>62 | 72=>64 | 75=>66 | 76=>67 | 80=>70 | 127=>88 | 164=>105 | n=>n,fun | n=>n⟩
theorem Tryd.DV:Go.Proofs.Lays.n167 Tryd.prog Tryd.vz:= {
 mixed:=by kernel_rfl
 f167:=Tryd.func89.trans (congrArg some (by kernel_rfl))
 f240:=Tryd.func34.trans (congrArg some (by kernel_rfl))
 f276:=Tryd.func48.trans (congrArg some (by kernel_rfl))
 t0:=Tryd.underlying0
 a0:=Tryd.isAgg0
 z0:=Tryd.sizeOf0
 v0:=Tryd.zeroValue0
 t4:=Tryd.underlying4
 a4:=Tryd.isAgg4
 z4:=Tryd.sizeOf4
 v4:=Tryd.zeroValue4
 t5:=Tryd.underlying5
 a5:=Tryd.isAgg5
 z5:=Tryd.sizeOf5
 v5:=Tryd.zeroValue5
 t9:=Tryd.underlying9
 a9:=Tryd.isAgg9
 z9:=Tryd.sizeOf9
 v9:=Tryd.zeroValue9
 t20:=Tryd.underlying20
 a20:=Tryd.isAgg20
 z20:=Tryd.sizeOf20
 v20:=Tryd.zeroValue20
 t37:=Tryd.underlying25
 a37:=Tryd.isAgg25
 z37:=Tryd.sizeOf25
 v37:=Tryd.zeroValue25
 t70:=Tryd.underlying62
 a70:=Tryd.isAgg62
 z70:=Tryd.sizeOf62
 v70:=Tryd.zeroValue62
 t72:=Tryd.underlying64
 a72:=Tryd.isAgg64
 z72:=Tryd.sizeOf64
 v72:=Tryd.zeroValue64
 t75:=Tryd.underlying66
 a75:=Tryd.isAgg66
 z75:=Tryd.sizeOf66
 v75:=Tryd.zeroValue66
 t164:=Tryd.underlying105
 a164:=Tryd.isAgg105
 z164:=Tryd.sizeOf105
 v164:=Tryd.zeroValue105 }
theorem Tryd.Bk:Builder.Extra Tryd.prog Tryd.vz:= {
 sizeBuilder:=by kernel_rfl
 liesBuilder:=by kernel_rfl
 t5:=Tryd.underlying5
 a5:=Tryd.isAgg5
 z5:=Tryd.sizeOf5
 v5:=Tryd.zeroValue5
 infoByte:=by kernel_rfl
 cellsByte:=by kernel_rfl
 sizeByte:=by kernel_rfl
 neB5:=by decide }
end Go.Proofs
set_option maxRecDepth 100000
namespace Go.Sy.Ex
open Go.Sy Go.Proofs
noncomputable section
structure bN where
 lK:Int
 Sets:List (List (List UInt8))
 dI:List (List (List UInt8))
 At:Int
 deriving DecidableEq
def bN.z:bN:=⟨0,[],[],0⟩
structure an where
 Name:List UInt8
 cW:List UInt8
 dR:List UInt8
 eZ:List UInt8
 Insts:List (List UInt8)
 fZ:List (List UInt8)
 Cells:List bN
 At:Int
 deriving DecidableEq
def an.z:an:=⟨[],[],[],[],[],[],[],0⟩
structure aN where
 Name:List UInt8
 eo:List UInt8
 mG:Int
 Ext:Int
 Prio:Int
 At:Int
 deriving DecidableEq
def aN.z:aN:=⟨[],[],0,0,0,0⟩
structure aC where
 Name:List UInt8
 aS:List UInt8
 Port:List UInt8
 To:List UInt8
 Cap:Int
 Prio:Int
 At:Int
 deriving DecidableEq
def aC.z:aC:=⟨[],[],[],[],0,0,0⟩
structure br where
 Name:List UInt8
 N:Int
 At:Int
 deriving DecidableEq
def br.z:br:=⟨[],0,0⟩
structure bh where
 Kind:Int
 N:Int
 Name:List UInt8
 Kids:List bh
 At:Int
def bh.z:bh:=⟨0,0,[],[],0⟩
structure bF where
 Kind:Int
 Name:List UInt8
 Event:List UInt8
 X:List bh
 N:Int
 rq:List bF
 q_:List bF
 At:Int
def bF.z:bF:=⟨0,[],[],[],0,[],[],0⟩
structure fS where
 Event:List UInt8
 Guard:List bh
 Target:List UInt8
 fP:List bF
 At:Int
def fS.z:fS:=⟨[],[],[],[],0⟩
structure bL where
 Kind:Int
 Name:List UInt8
 Entry:List bF
 Exit:List bF
 Trans:List fS
 Kids:List bL
 At:Int
def bL.z:bL:=⟨0,[],[],[],[],[],0⟩
structure fF where
 Name:List UInt8
 Steps:Int
 Fuel:Int
 Vars:List br
 wH:List br
 wQ:List br
 wO:List bL
 At:Int
def fF.z:fF:=⟨[],0,0,[],[],[],[],0⟩
structure fG where
 qV:Int
 qX:List fF
 Insts:List aN
 fZ:List aC
 wF:List an
def fG.z:fG:=⟨0,[],[],[],[]⟩
def C:Nat→Type
 | 0=>Int×Int×Int
 | 1=>bN
 | 2=>an
 | 3=>Unit
 | 4=>List UInt8×List UInt8×List UInt8×List UInt8×List UInt8×List UInt8
 | 5=>aN
 | 6=>aC
 | 7=>fG
 | 8=>fF
 | 9=>br
 | 10=>bL
 | 11=>bF
 | 12=>bh
 | 13=>fS
 | 14=>List UInt8×List UInt8×List UInt8×List UInt8×List UInt8×List UInt8×List UInt8×List UInt8×List UInt8×List UInt8×List UInt8×List UInt8×List UInt8
 | 15=>List UInt8×List UInt8×List UInt8×List UInt8×List UInt8×List UInt8×List UInt8×List UInt8×List UInt8×List UInt8×List UInt8×List UInt8×List UInt8×List UInt8×List UInt8×List UInt8×List UInt8×List UInt8×List UInt8×List UInt8
 | _+16=>Unit
def F:Nat→List Ty
 | 0=> [.int .u16, .int .u16, .int .u16]
 | 1=> [.int .i64, .sl (.sl .str), .sl (.sl .str), .int .i64]
 | 2=> [.str, .str, .str, .str, .sl .str, .sl .str, .sl (.st 1), .int .i64]
 | 3=> []
 | 4=> [.str, .str, .str, .str, .str, .str]
 | 5=> [.str, .str, .int .i64, .int .i64, .int .i64, .int .i64]
 | 6=> [.str, .str, .str, .str, .int .i64, .int .i64, .int .i64]
 | 7=> [.int .i64, .sl (.st 8), .sl (.st 5), .sl (.st 6), .sl (.st 2)]
 | 8=> [.str, .int .i64, .int .i64, .sl (.st 9), .sl (.st 9), .sl (.st 9), .sl (.st 10), .int .i64]
 | 9=> [.str, .int .i64, .int .i64]
 | 10=> [.int .i64, .str, .sl (.st 11), .sl (.st 11), .sl (.st 13), .sl (.st 10), .int .i64]
 | 11=> [.int .i64, .str, .str, .sl (.st 12), .int .i64, .sl (.st 11), .sl (.st 11), .int .i64]
 | 12=> [.int .i64, .int .i64, .str, .sl (.st 12), .int .i64]
 | 13=> [.str, .sl (.st 12), .str, .sl (.st 11), .int .i64]
 | 14=> [.str, .str, .str, .str, .str, .str, .str, .str, .str, .str, .str, .str, .str]
 | 15=> [.str, .str, .str, .str, .str, .str, .str, .str, .str, .str, .str, .str, .str, .str, .str, .str, .str, .str, .str, .str]
 | _+16=> []
def ex:(t:Nat)→C t→ag C (F t)
 | 0,(x:Int×Int×Int)=>(x.1,x.2.1,x.2.2)
 | 1,(x:bN)=>(x.lK,x.Sets,x.dI,x.At)
 | 2,(x:an)=>(x.Name,x.cW,x.dR,x.eZ,x.Insts,x.fZ,x.Cells,x.At)
 | 3,_=>()
 | 4,(x:List UInt8×List UInt8×List UInt8×List UInt8×List UInt8×List UInt8)=>(x.1,x.2.1,x.2.2.1,x.2.2.2.1,x.2.2.2.2.1,x.2.2.2.2.2)
 | 5,(x:aN)=>(x.Name,x.eo,x.mG,x.Ext,x.Prio,x.At)
 | 6,(x:aC)=>(x.Name,x.aS,x.Port,x.To,x.Cap,x.Prio,x.At)
 | 7,(x:fG)=>(x.qV,x.qX,x.Insts,x.fZ,x.wF)
 | 8,(x:fF)=>(x.Name,x.Steps,x.Fuel,x.Vars,x.wH,x.wQ,x.wO,x.At)
 | 9,(x:br)=>(x.Name,x.N,x.At)
 | 10,(x:bL)=>(x.Kind,x.Name,x.Entry,x.Exit,x.Trans,x.Kids,x.At)
 | 11,(x:bF)=>(x.Kind,x.Name,x.Event,x.X,x.N,x.rq,x.q_,x.At)
 | 12,(x:bh)=>(x.Kind,x.N,x.Name,x.Kids,x.At)
 | 13,(x:fS)=>(x.Event,x.Guard,x.Target,x.fP,x.At)
 | 14,(x:List UInt8×List UInt8×List UInt8×List UInt8×List UInt8×List UInt8×List UInt8×List UInt8×List UInt8×List UInt8×List UInt8×List UInt8×List UInt8)=>(x.1,x.2.1,x.2.2.1,x.2.2.2.1,x.2.2.2.2.1,x.2.2.2.2.2.1,x.2.2.2.2.2.2.1,x.2.2.2.2.2.2.2.1,x.2.2.2.2.2.2.2.2.1,x.2.2.2.2.2.2.2.2.2.1,x.2.2.2.2.2.2.2.2.2.2.1,x.2.2.2.2.2.2.2.2.2.2.2.1,x.2.2.2.2.2.2.2.2.2.2.2.2)
 | 15,(x:List UInt8×List UInt8×List UInt8×List UInt8×List UInt8×List UInt8×List UInt8×List UInt8×List UInt8×List UInt8×List UInt8×List UInt8×List UInt8×List UInt8×List UInt8×List UInt8×List UInt8×List UInt8×List UInt8×List UInt8)=>(x.1,x.2.1,x.2.2.1,x.2.2.2.1,x.2.2.2.2.1,x.2.2.2.2.2.1,x.2.2.2.2.2.2.1,x.2.2.2.2.2.2.2.1,x.2.2.2.2.2.2.2.2.1,x.2.2.2.2.2.2.2.2.2.1,x.2.2.2.2.2.2.2.2.2.2.1,x.2.2.2.2.2.2.2.2.2.2.2.1,x.2.2.2.2.2.2.2.2.2.2.2.2.1,x.2.2.2.2.2.2.2.2.2.2.2.2.2.1,x.2.2.2.2.2.2.2.2.2.2.2.2.2.2.1,x.2.2.2.2.2.2.2.2.2.2.2.2.2.2.2.1,x.2.2.2.2.2.2.2.2.2.2.2.2.2.2.2.2.1,x.2.2.2.2.2.2.2.2.2.2.2.2.2.2.2.2.2.1,x.2.2.2.2.2.2.2.2.2.2.2.2.2.2.2.2.2.2.1,x.2.2.2.2.2.2.2.2.2.2.2.2.2.2.2.2.2.2.2)
 | _+16,_=>()
def im:(t:Nat)→ag C (F t)→C t
 | 0,(a0,a1,a2)=>(a0,a1,a2)
 | 1,(a0,a1,a2,a3)=>bN.mk a0 a1 a2 a3
 | 2,(a0,a1,a2,a3,a4,a5,a6,a7)=>an.mk a0 a1 a2 a3 a4 a5 a6 a7
 | 3,_=>()
 | 4,(a0,a1,a2,a3,a4,a5)=>(a0,a1,a2,a3,a4,a5)
 | 5,(a0,a1,a2,a3,a4,a5)=>aN.mk a0 a1 a2 a3 a4 a5
 | 6,(a0,a1,a2,a3,a4,a5,a6)=>aC.mk a0 a1 a2 a3 a4 a5 a6
 | 7,(a0,a1,a2,a3,a4)=>fG.mk a0 a1 a2 a3 a4
 | 8,(a0,a1,a2,a3,a4,a5,a6,a7)=>fF.mk a0 a1 a2 a3 a4 a5 a6 a7
 | 9,(a0,a1,a2)=>br.mk a0 a1 a2
 | 10,(a0,a1,a2,a3,a4,a5,a6)=>bL.mk a0 a1 a2 a3 a4 a5 a6
 | 11,(a0,a1,a2,a3,a4,a5,a6,a7)=>bF.mk a0 a1 a2 a3 a4 a5 a6 a7
 | 12,(a0,a1,a2,a3,a4)=>bh.mk a0 a1 a2 a3 a4
 | 13,(a0,a1,a2,a3,a4)=>fS.mk a0 a1 a2 a3 a4
 | 14,(a0,a1,a2,a3,a4,a5,a6,a7,a8,a9,wR,wS,a12)=>(a0,a1,a2,a3,a4,a5,a6,a7,a8,a9,wR,wS,a12)
 | 15,(a0,a1,a2,a3,a4,a5,a6,a7,a8,a9,wR,wS,a12,GK,GL,GM,GN,GO,GP,GQ)=>(a0,a1,a2,a3,a4,a5,a6,a7,a8,a9,wR,wS,a12,GK,GL,GM,GN,GO,GP,GQ)
 | _+16,_=>()
def jm:Nat→List (Nat×Ty)
 | 0=>lu (.int .u16) 3 0
 | 1=> [(0, .int .i64),(1, .sl (.sl .str)),(2, .sl (.sl .str)),(3, .int .i64)]
 | 2=> [(0, .str),(1, .str),(2, .str),(3, .str),(4, .sl .str),(5, .sl .str),(6, .sl (.st 1)),(7, .int .i64)]
 | 3=> []
 | 4=>lu (.str) 6 0
 | 5=> [(0, .str),(1, .str),(2, .int .i64),(3, .int .i64),(4, .int .i64),(5, .int .i64)]
 | 6=> [(0, .str),(1, .str),(2, .str),(3, .str),(4, .int .i64),(5, .int .i64),(6, .int .i64)]
 | 7=> [(0, .int .i64),(1, .sl (.st 8)),(2, .sl (.st 5)),(3, .sl (.st 6)),(4, .sl (.st 2))]
 | 8=> [(0, .str),(1, .int .i64),(2, .int .i64),(3, .sl (.st 9)),(4, .sl (.st 9)),(5, .sl (.st 9)),(6, .sl (.st 10)),(7, .int .i64)]
 | 9=> [(0, .str),(1, .int .i64),(2, .int .i64)]
 | 10=> [(0, .int .i64),(1, .str),(2, .sl (.st 11)),(3, .sl (.st 11)),(4, .sl (.st 13)),(5, .sl (.st 10)),(6, .int .i64)]
 | 11=> [(0, .int .i64),(1, .str),(2, .str),(3, .sl (.st 12)),(4, .int .i64),(5, .sl (.st 11)),(6, .sl (.st 11)),(7, .int .i64)]
 | 12=> [(0, .int .i64),(1, .int .i64),(2, .str),(3, .sl (.st 12)),(4, .int .i64)]
 | 13=> [(0, .str),(1, .sl (.st 12)),(2, .str),(3, .sl (.st 11)),(4, .int .i64)]
 | 14=>lu (.str) 13 0
 | 15=>lu (.str) 20 0
 | _+16=> []
def z:(t:Nat)→C t
 | 0=>(0,0,0)
 | 1=>bN.z
 | 2=>an.z
 | 3=>()
 | 4=>([],[],[],[],[],[])
 | 5=>aN.z
 | 6=>aC.z
 | 7=>fG.z
 | 8=>fF.z
 | 9=>br.z
 | 10=>bL.z
 | 11=>bF.z
 | 12=>bh.z
 | 13=>fS.z
 | 14=>([],[],[],[],[],[],[],[],[],[],[],[],[])
 | 15=>([],[],[],[],[],[],[],[],[],[],[],[],[],[],[],[],[],[],[],[])
 | _+16=>()
def A_:List (Nat×Ty):= [(2, .int .i64),(3, .int .i64),(5, .int .u8),(9, .str),(22, .sl (.int .i64)),(23, .int .u16),(24, .st 0),(25, .sl (.int .u8)),(27, .sl .str),(30, .st 5),(32, .st 6),(33, .sl (.st 1)),(35, .st 2),(36, .sl (.sl .str)),(38, .st 1),(39, .sl (.st 5)),(40, .sl (.st 6)),(41, .sl (.st 2)),(42, .sl (.st 8)),(44, .st 7),(55, .sl (.st 9)),(56, .sl (.st 10)),(58, .st 8),(60, .st 4),(82, .st 9),(84, .sl (.st 11)),(85, .sl (.st 13)),(87, .st 10),(97, .sl (.st 12)),(99, .st 13),(102, .st 11),(121, .st 12),(157, .st 15),(164, .st 14)]
def G5:List (Nat×(Nat×Ty)):= [(24,3, .int .u16),(60,6, .str),(157,20, .str),(164,13, .str)]
def xN:List (Nat×Unit):= []
def y8:List (Nat×Unit):= []
def zP:List (Nat×Unit):= []
def Ng:List (Nat×Unit):= []
abbrev S:aK:=⟨C,F,ex,im,fun u f=>(jm u)[f]?,z,look A_,fun t=>(look zP t).isSome,look G5,fun t=>(look xN t).isSome,fun t=>(look y8 t).isSome,[((1,0),fun v=> ∃ m,v= .int .i64 m)],[(0,fun ob=> ∃ t f,ob= .cells (Go.Lib.pow10Tab.map fun z=>Value.int .u64 z).toArray t f)],some (64,5),fun t=>(look Ng t).isSome,fun _=> []⟩
def HC:List (Nat×Nat):= [(22,8),(25,1),(27,16),(33,64),(36,24),(39,64),(40,88),(41,144),(42,136),(55,32),(56,128),(84,128),(85,88),(97,64)]
def af (t:Nat):Nat:=(look HC t).getD 1
theorem AS:bY S:=⟨fun | 0=>rfl | 1=>rfl | 2=>rfl | 3=>rfl | 4=>rfl | 5=>rfl | 6=>rfl | 7=>rfl | 8=>rfl | 9=>rfl | 10=>rfl | 11=>rfl | 12=>rfl | 13=>rfl | 14=>rfl | 15=>rfl | _+16=>rfl,fun | 0,_=>rfl | 1,_=>rfl | 2,_=>rfl | 3,_=>rfl | 4,_=>rfl | 5,_=>rfl | 6,_=>rfl | 7,_=>rfl | 8,_=>rfl | 9,_=>rfl | 10,_=>rfl | 11,_=>rfl | 12,_=>rfl | 13,_=>rfl | 14,_=>rfl | 15,_=>rfl | _+16,_=>rfl⟩
theorem NH:bR Tryd.prog S af 2 (.int .i64):=o6 rfl (by kernel_rfl) (by kernel_rfl) (by kernel_rfl)
theorem NO:bR Tryd.prog S af 3 (.int .i64):=o6 rfl (by kernel_rfl) (by kernel_rfl) (by kernel_rfl)
theorem N0:bR Tryd.prog S af 5 (.int .u8):=o6 rfl (by kernel_rfl) (by kernel_rfl) (by kernel_rfl)
theorem Oa:bR Tryd.prog S af 9 (.str):=Oj rfl (by kernel_rfl) (by kernel_rfl) (by kernel_rfl)
theorem NI:bR Tryd.prog S af 22 (.sl (.int .i64)):=g_ rfl (by kernel_rfl) (by kernel_rfl) Tryd.underlying22 rfl rfl (by kernel_rfl) (by kernel_rfl)
theorem NJ:bR Tryd.prog S af 23 (.int .u16):=o6 rfl (by kernel_rfl) (by kernel_rfl) (by kernel_rfl)
theorem NK:bR Tryd.prog S af 24 (.st 0):=tW rfl (by kernel_rfl) rfl (by kernel_rfl) (by kernel_rfl) rfl (by kernel_rfl) Tryd.underlying24 rfl rfl rfl (by kernel_rfl) (fun _=>rfl) rfl
theorem NM:bR Tryd.prog S af 25 (.sl (.int .u8)):=g_ rfl (by kernel_rfl) (by kernel_rfl) Tryd.underlying25 rfl rfl (by kernel_rfl) (by kernel_rfl)
theorem NN:bR Tryd.prog S af 27 (.sl .str):=g_ rfl (by kernel_rfl) (by kernel_rfl) Tryd.underlying27 rfl rfl (by kernel_rfl) (by kernel_rfl)
theorem NP:bR Tryd.prog S af 30 (.st 5):=kg (l:=jm 5) rfl (by kernel_rfl) rfl (by kernel_rfl) (by kernel_rfl) rfl (by kernel_rfl) Tryd.underlying30 (by kernel_rfl) (fun _=>rfl) rfl
theorem NQ:bR Tryd.prog S af 32 (.st 6):=kg (l:=jm 6) rfl (by kernel_rfl) rfl (by kernel_rfl) (by kernel_rfl) rfl (by kernel_rfl) Tryd.underlying32 (by kernel_rfl) (fun _=>rfl) rfl
theorem NR:bR Tryd.prog S af 33 (.sl (.st 1)):=g_ rfl (by kernel_rfl) (by kernel_rfl) Tryd.underlying33 rfl rfl (by kernel_rfl) (by kernel_rfl)
theorem NS:bR Tryd.prog S af 35 (.st 2):=kg (l:=jm 2) rfl (by kernel_rfl) rfl (by kernel_rfl) (by kernel_rfl) rfl (by kernel_rfl) Tryd.underlying35 (by kernel_rfl) (fun _=>rfl) rfl
theorem NT:bR Tryd.prog S af 36 (.sl (.sl .str)):=g_ rfl (by kernel_rfl) (by kernel_rfl) Tryd.underlying36 rfl rfl (by kernel_rfl) (by kernel_rfl)
theorem NU:bR Tryd.prog S af 38 (.st 1):=kg (l:=jm 1) rfl (by kernel_rfl) rfl (by kernel_rfl) (by kernel_rfl) rfl (by kernel_rfl) Tryd.underlying38 (by kernel_rfl) (fun _=>rfl) rfl
theorem NV:bR Tryd.prog S af 39 (.sl (.st 5)):=g_ rfl (by kernel_rfl) (by kernel_rfl) Tryd.underlying39 rfl rfl (by kernel_rfl) (by kernel_rfl)
theorem NW:bR Tryd.prog S af 40 (.sl (.st 6)):=g_ rfl (by kernel_rfl) (by kernel_rfl) Tryd.underlying40 rfl rfl (by kernel_rfl) (by kernel_rfl)
theorem NX:bR Tryd.prog S af 41 (.sl (.st 2)):=g_ rfl (by kernel_rfl) (by kernel_rfl) Tryd.underlying41 rfl rfl (by kernel_rfl) (by kernel_rfl)
theorem NY:bR Tryd.prog S af 42 (.sl (.st 8)):=g_ rfl (by kernel_rfl) (by kernel_rfl) Tryd.underlying42 rfl rfl (by kernel_rfl) (by kernel_rfl)
theorem NZ:bR Tryd.prog S af 44 (.st 7):=kg (l:=jm 7) rfl (by kernel_rfl) rfl (by kernel_rfl) (by kernel_rfl) rfl (by kernel_rfl) Tryd.underlying44 (by kernel_rfl) (fun _=>rfl) rfl
theorem N3:bR Tryd.prog S af 55 (.sl (.st 9)):=g_ rfl (by kernel_rfl) (by kernel_rfl) Tryd.underlying55 rfl rfl (by kernel_rfl) (by kernel_rfl)
theorem N4:bR Tryd.prog S af 56 (.sl (.st 10)):=g_ rfl (by kernel_rfl) (by kernel_rfl) Tryd.underlying56 rfl rfl (by kernel_rfl) (by kernel_rfl)
theorem N5:bR Tryd.prog S af 58 (.st 8):=kg (l:=jm 8) rfl (by kernel_rfl) rfl (by kernel_rfl) (by kernel_rfl) rfl (by kernel_rfl) Tryd.underlying58 (by kernel_rfl) (fun _=>rfl) rfl
theorem N6:bR Tryd.prog S af 60 (.st 4):=tW rfl (by kernel_rfl) rfl (by kernel_rfl) (by kernel_rfl) rfl (by kernel_rfl) Tryd.underlying60 rfl rfl rfl (by kernel_rfl) (fun _=>rfl) rfl
theorem N7:bR Tryd.prog S af 82 (.st 9):=kg (l:=jm 9) rfl (by kernel_rfl) rfl (by kernel_rfl) (by kernel_rfl) rfl (by kernel_rfl) Tryd.underlying82 (by kernel_rfl) (fun _=>rfl) rfl
theorem N8:bR Tryd.prog S af 84 (.sl (.st 11)):=g_ rfl (by kernel_rfl) (by kernel_rfl) Tryd.underlying84 rfl rfl (by kernel_rfl) (by kernel_rfl)
theorem N9:bR Tryd.prog S af 85 (.sl (.st 13)):=g_ rfl (by kernel_rfl) (by kernel_rfl) Tryd.underlying85 rfl rfl (by kernel_rfl) (by kernel_rfl)
theorem N_:bR Tryd.prog S af 87 (.st 10):=kg (l:=jm 10) rfl (by kernel_rfl) rfl (by kernel_rfl) (by kernel_rfl) rfl (by kernel_rfl) Tryd.underlying87 (by kernel_rfl) (fun _=>rfl) rfl
theorem Ob:bR Tryd.prog S af 97 (.sl (.st 12)):=g_ rfl (by kernel_rfl) (by kernel_rfl) Tryd.underlying97 rfl rfl (by kernel_rfl) (by kernel_rfl)
theorem Oc:bR Tryd.prog S af 99 (.st 13):=kg (l:=jm 13) rfl (by kernel_rfl) rfl (by kernel_rfl) (by kernel_rfl) rfl (by kernel_rfl) Tryd.underlying99 (by kernel_rfl) (fun _=>rfl) rfl
theorem NC:bR Tryd.prog S af 102 (.st 11):=kg (l:=jm 11) rfl (by kernel_rfl) rfl (by kernel_rfl) (by kernel_rfl) rfl (by kernel_rfl) Tryd.underlying102 (by kernel_rfl) (fun _=>rfl) rfl
theorem ND:bR Tryd.prog S af 121 (.st 12):=kg (l:=jm 12) rfl (by kernel_rfl) rfl (by kernel_rfl) (by kernel_rfl) rfl (by kernel_rfl) Tryd.underlying121 (by kernel_rfl) (fun _=>rfl) rfl
theorem NF:bR Tryd.prog S af 157 (.st 15):=tW rfl (by kernel_rfl) rfl (by kernel_rfl) (by kernel_rfl) rfl (by kernel_rfl) Tryd.underlying157 rfl rfl rfl (by kernel_rfl) (fun _=>rfl) rfl
theorem NG:bR Tryd.prog S af 164 (.st 14):=tW rfl (by kernel_rfl) rfl (by kernel_rfl) (by kernel_rfl) rfl (by kernel_rfl) Tryd.underlying164 rfl rfl rfl (by kernel_rfl) (fun _=>rfl) rfl
theorem zO:aL Tryd.prog S af:=⟨AS,fun t T h0=>by
 have h:=kW (show look A_ t=some T from h0)
 simp only [A_,List.mem_cons,Prod.mk.injEq,List.not_mem_nil,or_false] at h
 rcases h with ⟨rfl,rfl⟩ | ⟨rfl,rfl⟩ | ⟨rfl,rfl⟩ | ⟨rfl,rfl⟩ | ⟨rfl,rfl⟩ | ⟨rfl,rfl⟩ | ⟨rfl,rfl⟩ | ⟨rfl,rfl⟩ | ⟨rfl,rfl⟩ | ⟨rfl,rfl⟩ | ⟨rfl,rfl⟩ | ⟨rfl,rfl⟩ | ⟨rfl,rfl⟩ | ⟨rfl,rfl⟩ | ⟨rfl,rfl⟩ | ⟨rfl,rfl⟩ | ⟨rfl,rfl⟩ | ⟨rfl,rfl⟩ | ⟨rfl,rfl⟩ | ⟨rfl,rfl⟩ | ⟨rfl,rfl⟩ | ⟨rfl,rfl⟩ | ⟨rfl,rfl⟩ | ⟨rfl,rfl⟩ | ⟨rfl,rfl⟩ | ⟨rfl,rfl⟩ | ⟨rfl,rfl⟩ | ⟨rfl,rfl⟩ | ⟨rfl,rfl⟩ | ⟨rfl,rfl⟩ | ⟨rfl,rfl⟩ | ⟨rfl,rfl⟩ | ⟨rfl,rfl⟩ | ⟨rfl,rfl⟩
 · exact NH
 · exact NO
 · exact N0
 · exact Oa
 · exact NI
 · exact NJ
 · exact NK
 · exact NM
 · exact NN
 · exact NP
 · exact NQ
 · exact NR
 · exact NS
 · exact NT
 · exact NU
 · exact NV
 · exact NW
 · exact NX
 · exact NY
 · exact NZ
 · exact N3
 · exact N4
 · exact N5
 · exact N6
 · exact N7
 · exact N8
 · exact N9
 · exact N_
 · exact Ob
 · exact Oc
 · exact NC
 · exact ND
 · exact NF
 · exact NG,fun t h=>by
 have h2: ∃ u,look zP t=some u:=Option.isSome_iff_exists.1 h
 obtain ⟨u,h2⟩:=h2
 have h:=kW h2
 simp [zP] at h,fun t h=>by
 have h2: ∃ u,look xN t=some u:=Option.isSome_iff_exists.1 h
 obtain ⟨u,h2⟩:=h2
 have h:=kW h2
 simp [xN] at h,fun t h=>by
 have h2: ∃ u,look y8 t=some u:=Option.isSome_iff_exists.1 h
 obtain ⟨u,h2⟩:=h2
 have h:=kW h2
 simp [y8] at h,Hz (by kernel_rfl) (by decide)⟩
theorem pk:aL Tryd.prog S af∧Tryd.prog.follows .mixedOrders=true:=⟨zO,by kernel_rfl⟩
abbrev q0:Sy.K:= .val (.data (.st 1))
abbrev q1:Sy.K:= .val (.data .str)
abbrev q2:Sy.K:= .obj [.data (.int .i64), .data (.sl (.sl .str)), .data (.sl (.sl .str)), .data (.int .i64)]
abbrev q3:Sy.K:= .val (.aP .str)
abbrev q4:Sy.K:= .val (.data (.sl (.sl .str)))
abbrev q5:Sy.K:= .val (.data (.int .i64))
abbrev q6:Sy.K:= .val (.data (.sl (.st 2)))
abbrev q7:Sy.K:= .aQ
abbrev q8:Sy.K:= .val (.data (.sl (.st 1)))
abbrev q9:Sy.K:= .val (.data .bool)
abbrev qh:Sy.K:= .val (.data (.sl (.int .i64)))
abbrev tg:Sy.K:= .val (.data (.sl .str))
abbrev Lm:Sy.K:= .ro (.st 4)
abbrev vG:Sy.K:= .val (.data (.sl (.st 5)))
abbrev vH:Sy.K:= .val (.data (.sl (.st 6)))
abbrev Ln:Sy.K:= .obj [.data .str, .data .str, .data .str, .data .str, .data (.sl .str), .data (.sl .str), .data (.sl (.st 1)), .data (.int .i64)]
abbrev Lo:Sy.K:= .val (.data (.st 14))
abbrev vI:Sy.K:= .val (.data (.st 12))
abbrev Eg:Sy.K:= .obj [.data (.int .i64), .data (.int .i64), .data .str, .data (.sl (.st 12)), .data (.int .i64)]
abbrev Eh:Sy.K:= .val (.data (.st 11))
abbrev Lp:Sy.K:= .obj [.data (.int .i64), .data .str, .data .str, .data (.sl (.st 12)), .data (.int .i64), .data (.sl (.st 11)), .data (.sl (.st 11)), .data (.int .i64)]
abbrev zQ:Sy.K:= .val (.data (.sl (.st 12)))
abbrev tj:Sy.K:= .val (.data (.sl (.st 11)))
abbrev Ei:Sy.K:= .val (.data (.st 13))
abbrev Lq:Sy.K:= .obj [.data .str, .data (.sl (.st 12)), .data .str, .data (.sl (.st 11)), .data (.int .i64)]
abbrev Ej:Sy.K:= .val (.data (.st 10))
abbrev zR:Sy.K:= .obj [.data (.int .i64), .data .str, .data (.sl (.st 11)), .data (.sl (.st 11)), .data (.sl (.st 13)), .data (.sl (.st 10)), .data (.int .i64)]
abbrev Lr:Sy.K:= .val (.data (.sl (.st 13)))
abbrev Ek:Sy.K:= .val (.data (.sl (.st 10)))
abbrev El:Sy.K:= .val (.data (.st 8))
abbrev oD:Sy.K:= .obj [.data .str, .data (.int .i64), .data (.int .i64), .data (.sl (.st 9)), .data (.sl (.st 9)), .data (.sl (.st 9)), .data (.sl (.st 10)), .data (.int .i64)]
abbrev zS:Sy.K:= .val (.data (.sl (.st 9)))
abbrev Em:Sy.K:= .val (.data (.st 7))
abbrev En:Sy.K:= .obj [.data (.int .i64), .data (.sl (.st 8)), .data (.sl (.st 5)), .data (.sl (.st 6)), .data (.sl (.st 2))]
abbrev Ls:Sy.K:= .val (.data (.sl (.st 8)))
abbrev Lt:Sy.K:= .val (.data (.st 0))
abbrev Eo:Sy.K:= .val (.data (.sl (.int .u8)))
abbrev Lu:Sy.K:= .ro (.st 0)
abbrev Lv:Sy.K:= .obj [.data .str, .data .str, .data (.int .i64), .data (.int .i64), .data (.int .i64), .data (.int .i64)]
abbrev Lw:Sy.K:= .obj [.data .str, .data .str, .data .str, .data .str, .data (.int .i64), .data (.int .i64), .data (.int .i64)]
abbrev Lx:Sy.K:= .obj [.data .str, .data .str, .data .str, .data .str, .data (.sl .str), .data (.sl .str), .az (.st 1), .data (.int .i64)]
abbrev Ep:Sy.K:= .err
abbrev Ly:Sy.K:= .val (.data (.int .u8))
def bz (e:Ty):Nat:=if e= .int .i64 then 8 else if e= .int .u8 then 1 else 1
def jO:List (Nat×Ty):= [(3, .int .i64),(5, .int .u8),(22, .sl (.int .i64)),(23, .int .u16),(24, .st 0),(25, .sl (.int .u8))]
def BA:List (Nat×(Nat×Ty)):= [(24,3, .int .u16)]
abbrev SA:aK:=S.tZ (look jO) (fun _=>false) (look BA) (fun _=>false)
theorem Oh:bR Tryd.prog SA af 3 (.int .i64):=o6 rfl (by kernel_rfl) (by kernel_rfl) (by kernel_rfl)
theorem Oi:bR Tryd.prog SA af 5 (.int .u8):=o6 rfl (by kernel_rfl) (by kernel_rfl) (by kernel_rfl)
theorem Od:bR Tryd.prog SA af 22 (.sl (.int .i64)):=g_ rfl (by kernel_rfl) (by kernel_rfl) Tryd.underlying22 rfl rfl (by kernel_rfl) (by kernel_rfl)
theorem Oe:bR Tryd.prog SA af 23 (.int .u16):=o6 rfl (by kernel_rfl) (by kernel_rfl) (by kernel_rfl)
theorem Of:bR Tryd.prog SA af 24 (.st 0):=tW rfl (by kernel_rfl) rfl (by kernel_rfl) (by kernel_rfl) rfl (by kernel_rfl) Tryd.underlying24 rfl rfl rfl (by kernel_rfl) (fun _=>rfl) rfl
theorem Og:bR Tryd.prog SA af 25 (.sl (.int .u8)):=g_ rfl (by kernel_rfl) (by kernel_rfl) Tryd.underlying25 rfl rfl (by kernel_rfl) (by kernel_rfl)
theorem MY:bY SA:=⟨AS.flat,AS.kL⟩
theorem Lh:aL Tryd.prog SA af:=⟨MY,fun t e h0=>by
 have h:=kW (show look jO t=some (e) from h0)
 simp only [jO,List.mem_cons,Prod.mk.injEq,List.not_mem_nil,or_false] at h
 rcases h with ⟨rfl,h⟩ | ⟨rfl,h⟩ | ⟨rfl,h⟩ | ⟨rfl,h⟩ | ⟨rfl,h⟩ | ⟨rfl,h⟩
 · subst h; exact Oh
 · subst h; exact Oi
 · subst h; exact Od
 · subst h; exact Oe
 · subst h; exact Of
 · subst h; exact Og,fun t h=>(nomatch h),fun t h=>(nomatch h),zO.ou,zO.bt⟩
theorem hbz: ∀ t e,SA.ty t=some (.sl e)→af t=bz e:=fun t e h0=>by
 have h:=kW (show look jO t=some (.sl e) from h0)
 simp only [jO,List.mem_cons,Prod.mk.injEq,List.not_mem_nil,or_false] at h
 rcases h with ⟨rfl,h⟩ | ⟨rfl,h⟩ | ⟨rfl,h⟩ | ⟨rfl,h⟩ | ⟨rfl,h⟩ | ⟨rfl,h⟩
 · exact (nomatch h)
 · exact (nomatch h)
 · cases h; decide
 · exact (nomatch h)
 · exact (nomatch h)
 · cases h; decide
theorem Nc:wM SA:=⟨fun t e h0=>by
 have h:=kW (show look jO t=some (.sl e) from h0)
 simp only [jO,List.mem_cons,Prod.mk.injEq,List.not_mem_nil,or_false] at h
 rcases h with ⟨rfl,h⟩ | ⟨rfl,h⟩ | ⟨rfl,h⟩ | ⟨rfl,h⟩ | ⟨rfl,h⟩ | ⟨rfl,h⟩
 · exact (nomatch h)
 · exact (nomatch h)
 · cases h; decide
 · exact (nomatch h)
 · exact (nomatch h)
 · cases h; decide,fun t h0=>by
 have h:=kW (show look jO t=some (.pt) from h0)
 simp only [jO,List.mem_cons,Prod.mk.injEq,List.not_mem_nil,or_false] at h
 rcases h with ⟨rfl,h⟩ | ⟨rfl,h⟩ | ⟨rfl,h⟩ | ⟨rfl,h⟩ | ⟨rfl,h⟩ | ⟨rfl,h⟩
 · exact (nomatch h)
 · exact (nomatch h)
 · exact (nomatch h)
 · exact (nomatch h)
 · exact (nomatch h)
 · exact (nomatch h)⟩
theorem Nj:wN Tryd.prog SA:=fun t e h0=>by
 have h:=kW (show look jO t=some (.st e) from h0)
 simp only [jO,List.mem_cons,Prod.mk.injEq,List.not_mem_nil,or_false] at h
 rcases h with ⟨rfl,h⟩ | ⟨rfl,h⟩ | ⟨rfl,h⟩ | ⟨rfl,h⟩ | ⟨rfl,h⟩ | ⟨rfl,h⟩
 · exact (nomatch h)
 · exact (nomatch h)
 · exact (nomatch h)
 · exact (nomatch h)
 · cases h; exact Nk Tryd.underlying24 (by kernel_rfl)
 · exact (nomatch h)
abbrev oO:List UInt8:= [97]
abbrev vY:List UInt8:= [98]
abbrev AB:List UInt8:= [107]
abbrev AF:List UInt8:= [109]
abbrev tK:List UInt8:= [120]
abbrev v_:List UInt8:= [121]
abbrev v7:List UInt8:= [101]
abbrev AG:List UInt8:= [110]
abbrev AK:List UInt8:= [113]
abbrev AL:List UInt8:= [114]
abbrev cS:List UInt8:= [99,101,114,116,32]
abbrev aU:List UInt8:= [32,58,32]
abbrev bP:List UInt8:= [46]
abbrev aX:List UInt8:= [32,45,62,32]
abbrev gX:List UInt8:= [32,123,10,32,32,105,110,115,116,115,32]
abbrev dG:List UInt8:= [44,32]
abbrev bQ:List UInt8:= [59,10]
abbrev lz:List UInt8:= [32,32,99,104,97,110,115,32]
abbrev nj:List UInt8:= [111,102,102]
abbrev mh:List UInt8:= [43]
abbrev ng:List UInt8:= [99,101,108,108,32]
abbrev lB:List UInt8:= [32,123,32]
abbrev bq:List UInt8:= [59]
abbrev aG:List UInt8:= [32]
abbrev bW:List UInt8:= [32,91]
abbrev cx:List UInt8:= [93]
abbrev qH:List UInt8:= [32,125]
abbrev cU:List UInt8:= [32,32]
abbrev eW:List UInt8:= [10]
abbrev jF:List UInt8:= [125,10]
abbrev Fs:List UInt8:= [99,101,114,116,32,110,32,58,32,97,46,113,32,45,62,32,114,32,123,10,32,32,105,110,115,116,115,32,97,44,32,98,59,10,32,32,99,104,97,110,115,32,107,44,32,109,59,10,32,32,99,101,108,108,32,50,32,123,32,120,43,121,44,32,111,102,102,59,32,91,101,93,32,91,93,32,125,10,125,10]
abbrev MT:List UInt8:= [95,99]
abbrev MU:List UInt8:= [100,49]
abbrev MR:List UInt8:= [76,111,110,103,95,110,97,109,101]
abbrev dO:List UInt8:= [105,110,115,116,32]
abbrev fK:List UInt8:= [32,113,117,97,110,116,117,109,32]
abbrev gW:List UInt8:= [32,101,120,116,32]
abbrev eX:List UInt8:= [32,112,114,105,111,32]
abbrev jb:List UInt8:= [48,49,50,51,52,53,54,55,56,57]
abbrev qG:List UInt8:= [45]
abbrev cT:List UInt8:= [99,104,97,110,32]
abbrev gU:List UInt8:= [32,99,97,112,32]
abbrev oP:List UInt8:= [32,32,99,101,108,108,32]
abbrev tH:List UInt8:= [32,125,10]
abbrev nq:List UInt8:= [115,121,115,116,101,109,32,97,103,101,32]
abbrev iO:List UInt8:= [99,104,97,114,116,32]
abbrev jH:List UInt8:= [32,115,116,101,112,115,32]
abbrev ni:List UInt8:= [32,102,117,101,108,32]
abbrev AN:List UInt8:= [32,123,10]
abbrev tJ:List UInt8:= [32,32,118,97,114,32]
abbrev fM:List UInt8:= [32,61,32]
abbrev AI:List UInt8:= [32,32,112,111,114,116,32]
abbrev AQ:List UInt8:= [32,32,116,105,109,101,114,32]
abbrev oR:List UInt8:= [115,116,97,116,101,32]
abbrev oQ:List UInt8:= [112,97,114,97,108,108,101,108,32]
abbrev v8:List UInt8:= [104,105,115,116,111,114,121,32]
abbrev vZ:List UInt8:= [100,101,101,112,32]
abbrev MW:List UInt8:= [32,123,125,10]
abbrev nh:List UInt8:= [101,110,116,114,121,32]
abbrev Fu:List UInt8:= [123,125]
abbrev Ft:List UInt8:= [123,10]
abbrev Ax:List UInt8:= [124,124]
abbrev Av:List UInt8:= [38,38]
abbrev AD:List UInt8:= [60]
abbrev AE:List UInt8:= [60,61]
abbrev Az:List UInt8:= [62]
abbrev AA:List UInt8:= [62,61]
abbrev Ay:List UInt8:= [61,61]
abbrev Aw:List UInt8:= [33,61]
abbrev AO:List UInt8:= [42]
abbrev AM:List UInt8:= [47]
abbrev AH:List UInt8:= [37]
abbrev mg:List UInt8:= [105,110,40]
abbrev eY:List UInt8:= [41]
abbrev fJ:List UInt8:= [40]
abbrev jE:List UInt8:= [114,97,105,115,101,32]
abbrev gp:List UInt8:= [115,101,110,100,32]
abbrev jD:List UInt8:= [97,114,109,32]
abbrev me:List UInt8:= [99,97,110,99,101,108,32]
abbrev jc:List UInt8:= [105,102,32]
abbrev tG:List UInt8:= [32,101,108,115,101,32]
abbrev lA:List UInt8:= [108,111,111,112,32]
abbrev nk:List UInt8:= [125]
abbrev gV:List UInt8:= [101,120,105,116,32]
abbrev dF:List UInt8:= [97,117,116,111]
abbrev c_:List UInt8:= [111,110,32]
abbrev jG:List UInt8:= [32,123]
abbrev tI:List UInt8:= [118,97,114,32]
abbrev AJ:List UInt8:= [112,111,114,116,32]
abbrev AP:List UInt8:= [116,105,109,101,114,32]
abbrev MV:List UInt8:= [36]
abbrev MS:List UInt8:= [33]
abbrev b_:List UInt8×List UInt8×List UInt8×List UInt8×List UInt8×List UInt8:=(oO,vY,MT,MU,MR,tK)
abbrev He:List UInt8×List UInt8×List UInt8×List UInt8×List UInt8×List UInt8×List UInt8×List UInt8×List UInt8×List UInt8×List UInt8×List UInt8×List UInt8:=(Ax,Av,AD,AE,Az,AA,Ay,Aw,mh,qG,AO,AM,AH)
abbrev Fb:List (List UInt8):= [[],[],[],[],[],qG,MS,AO,AM,AH,mh,qG,AD,AE,Az,AA,Ay,Aw,Av,Ax]
end
end Go.Sy.Ex
namespace Go.Sy.Ex
open Go.Sy Go.Proofs
theorem CR {w:World} {M:St} (h:jf S w M):Lib.TabIs Tryd.prog w "internal/strconv.uint64pow10" .u64 Lib.pow10Tab:=by
 obtain ⟨_,_,ob,c3,t,f,rfl⟩:=h.2 ((0,fun ob=> ∃ t f,ob= .cells (Go.Lib.pow10Tab.map fun z=>Value.int .u64 z).toArray t f)) (by simp)
 unfold Lib.TabIs World.var?
 rw [show Tryd.prog.globalNamed "internal/strconv.uint64pow10" =some 0 from by kernel_rfl]
 show (match w.heap[0]? with | some (.cells cs _ _)=>some cs | _=>none)=_
 rw [c3]
theorem uF {w w':World} {M:St} (h:RowKit.Below w.heap.size w w'):aO w w' M:=by
 obtain ⟨a,b,c,d,e⟩:=h
 exact ⟨a,b,c,d,fun k hk _=>e k hk,fun k o hk _=>cell_of_heap (e k hk),fun k o hk hs=>by rw [cell_of_heap (e k hk)]; exact hs,fun k o hk _=>uQ (e k hk)⟩
theorem BH (w:World) (k:Nat) (os:Array Obj):RowKit.Below w.heap.size w (Go.Sort.grow (w.drewN k) os):=
 ⟨rfl,rfl,rfl,by simp [Go.Sort.grow,World.drewN],fun j hj=>by simp [Go.Sort.grow,World.drewN,Array.getElem?_append,hj]⟩
theorem wu {w:World} {s M:St} (hM:b6 M) (r:List UInt8):bU Tryd.prog S w s M [.val (.data .str)] r [.string ⟨r.toArray⟩]:=
 ⟨_,_,_,_,tM M,rfl,⟨⟨hM,1,rfl⟩,rfl⟩,fun _ _ h=>h,rfl⟩
noncomputable def oB (n b:Int):Option (List UInt8):=if b=10∧ -9223372036854775808≤n∧n≤9223372036854775807 then some (Lib.itoa n) else none
theorem Ea:aM Tryd.prog S ⟨37,[.val (.data (.int .i64)), .val (.data (.int .i64))],[.val (.data .str)],fun x=>oB x.1 x.2⟩:=by
 refine ⟨⟨Tryd.f37,Tryd.func37,by kernel_rfl,by kernel_rfl⟩,fun w s M (x:Int×Int) args r hx hs hG hr=> ?_⟩
 obtain ⟨x,y⟩:=x
 obtain ⟨M1,M2,v,rr,_,rfl,⟨⟨_,n,h1⟩,h2⟩,M3,M4,v',tA,_,rfl,⟨⟨_,n',h3⟩,h4⟩,_,rfl⟩:=hx
 have hv:=mH (w:=w) (s:=s) ⟨h2,n,h1⟩
 have ec:=mH (w:=w) (s:=s) ⟨h4,n',h3⟩
 subst hv ec
 have ht:=CR hG
 replace hr:oB x y=some r:=hr
 unfold oB at hr
 split at hr
 · rename_i hl
   obtain ⟨rfl,hl⟩:=hl
   cases hr
   refine (Tryd.strconv_FormatInt_10 x hl.1 hl.2 w ht).mono ?_
   rintro e w' ⟨rfl,k,os,rfl⟩
   exact ⟨[.string _],fun _ _=>False,fun _ _=>False,rfl,uF (BH w k os),wu (fun _ _ h=>h) _,fun _ _ h=>h.elim,fun _ _ h=>h.elim⟩
 · cases hr
noncomputable def gT (n:Int):Option (List UInt8):=if -9223372036854775808≤n∧n≤9223372036854775807 then some (Lib.itoa n) else none
theorem qe:aM Tryd.prog S ⟨19,[.val (.data (.int .i64))],[.val (.data .str)],fun x=>gT x⟩:=by
 refine ⟨⟨Tryd.f19,Tryd.func19,by kernel_rfl,by kernel_rfl⟩,fun w s M (x:Int) args r hx hs hG hr=> ?_⟩
 obtain ⟨M1,M2,v,rr,_,rfl,⟨⟨_,n,h1⟩,h2⟩,_,rfl⟩:=hx
 have hv:=mH (w:=w) (s:=s) ⟨h2,n,h1⟩
 subst hv
 have ht:=CR hG
 replace hr:gT x=some r:=hr
 unfold gT at hr
 split at hr
 · rename_i hl
   cases hr
   refine (Tryd.strconv_Itoa x hl.1 hl.2 w ht).mono ?_
   rintro e w' ⟨rfl,k,os,rfl⟩
   exact ⟨[.string _],fun _ _=>False,fun _ _=>False,rfl,uF (BH w k os),wu (fun _ _ h=>h) _,fun _ _ h=>h.elim,fun _ _ h=>h.elim⟩
 · cases hr
noncomputable def mU (s:List UInt8) (c:Int):Option (List UInt8):=if 0≤c∧c≤9223372036854775807∧s.length*c.toNat≤140737488355328 then some (Lib.repeatL s c.toNat) else none
theorem zI:aM Tryd.prog S ⟨51,[.val (.data .str), .val (.data (.int .i64))],[.val (.data .str)],fun x=>mU x.1 x.2⟩:=by
 refine ⟨⟨Tryd.f51,Tryd.func51,by kernel_rfl,by kernel_rfl⟩,fun w s M (x:List UInt8×Int) args r hx hs hG hr=> ?_⟩
 obtain ⟨x,y⟩:=x
 obtain ⟨M1,M2,v,rr,_,rfl,⟨⟨_,n,h1⟩,h2⟩,M3,M4,v',tA,_,rfl,⟨⟨_,n',h3⟩,h4⟩,_,rfl⟩:=hx
 have hv:=nL (w:=w) (s:=s) ⟨h2,n,h1⟩
 have ec:=mH (w:=w) (s:=s) ⟨h4,n',h3⟩
 subst hv ec
 replace hr:mU x y=some r:=hr
 unfold mU at hr
 split at hr
 · rename_i hl
   obtain ⟨h0,nY,kR⟩:=hl
   cases hr
   have hc:=Tryd.strings_Repeat ⟨x.toArray⟩ y.toNat w (by omega) kR
   rw [Int.toNat_of_nonneg h0] at hc
   refine hc.mono ?_
   rintro e w' ⟨rfl,hb⟩
   exact ⟨[.string _],fun _ _=>False,fun _ _=>False,rfl,uF hb,wu (fun _ _ h=>h) _,fun _ _ h=>h.elim,fun _ _ h=>h.elim⟩
 · cases hr
noncomputable def k8 (l:List (List UInt8)) (sep:List UInt8):Option (List UInt8):=if l.length≤140737488355328∧(Lib.join l sep).length≤140737488355328 then some (Lib.join l sep) else none
theorem Eb:aM Tryd.prog S ⟨22,[.val (.data (.sl .str)), .val (.data .str)],[.val (.data .str)],fun x=>k8 x.1 x.2⟩:=by
 refine ⟨⟨Tryd.f22,Tryd.func22,by kernel_rfl,by kernel_rfl⟩,fun w s M (x:List (List UInt8)×List UInt8) args r hx hs hG hr=> ?_⟩
 obtain ⟨x,y⟩:=x
 obtain ⟨M1,M2,v,rr,_,rfl,⟨⟨_,n,h1⟩,h2⟩,M3,M4,v',tA,_,rfl,⟨⟨_,n',h3⟩,h4⟩,_,rfl⟩:=hx
 have ec:=nL (w:=w) (s:=s) ⟨h4,n',h3⟩
 subst ec
 obtain ⟨ad,cap,rfl,hc,hel⟩:=ji (w:=w) (s:=s) ⟨h2,n,h1⟩
 replace hr:k8 x y=some r:=hr
 unfold k8 at hr
 split at hr
 · rename_i hl
   cases hr
   have fin: ∀ w',RowKit.Below w.heap.size w w'→ ∃ us s' M',Ending.returned (Value.string ⟨(Lib.join x y).toArray⟩)= .returned (ja us)∧aO w w' M∧bU Tryd.prog S w' s' M' [.val (.data .str)] (Lib.join x y) (us++ [])∧
    (∀ b o,s' b o→b<w'.heap.size∧ ¬ M' b o∧(s b o∨M b o∨w.heap.size≤b))∧ ∀ b o,M' b o→M b o∨w.heap.size≤b:=fun w' hb=>
    ⟨[.string _],fun _ _=>False,fun _ _=>False,rfl,uF hb,wu (fun _ _ h=>h) _,fun _ _ h=>h.elim,fun _ _ h=>h.elim⟩
   have key:x≠ []→ ∃ b o,ad=some ⟨b,o,none⟩∧b<w.heap.size∧ ∀ (j:Nat) z,x[j]? =some z→w.cell? ⟨b,o+j,none⟩=some (.string ⟨z.toArray⟩):=by
    intro hne
    rcases hel with hel | ⟨b,o,m,rfl,hel⟩
    · exact absurd (List.length_eq_zero_iff.1 hel) hne
    · have cu: ∀ (j:Nat) z,x[j]? =some z→w.cell? ⟨b,o+j,none⟩=some (.string ⟨z.toArray⟩)∧s b (o+j):=by
       intro j z hj
       obtain ⟨ds,d1,d2,d3⟩:=hel j z hj
       have d4:ds= [.string ⟨z.toArray⟩]:=by
        cases m with
        | zero=>exact d3.elim
        | succ m=>exact d3
       subst d4
       have :=d2 0 _ rfl
       simpa [Ty.sz] using this
      refine ⟨b,o,rfl, ?_,fun j z hj=>(cu j z hj).1⟩
      obtain ⟨z,hz⟩: ∃ z,x[0]? =some z:=by
       cases x with
       | nil=>exact absurd rfl hne
       | cons z _=>exact ⟨z,rfl⟩
      exact (hs b (o+0) (cu 0 z hz).2).1
   by_cases hne:x= []
   · subst hne
     refine (Tryd.strings_Join_none ad cap ⟨y.toArray⟩ w).mono ?_
     rintro e w' ⟨rfl,rfl⟩
     exact fin _ (RowKit.Below.refl _ _)
   · obtain ⟨b,o,rfl,hb,cu⟩:=key hne
     have hmap:(x.map fun z=>(⟨z.toArray⟩:ByteArray)).map (·.data.toList)=x:=by
      rw [List.map_map]
      conv=>rhs; rw [← List.map_id x]
      congr 1
     have hc:=Tryd.strings_Join b o cap (x.map fun z=>(⟨z.toArray⟩:ByteArray)) ⟨y.toArray⟩ w (fun j z hj=>by
      rw [List.getElem?_map,Option.map_eq_some_iff] at hj
      obtain ⟨q,hq,rfl⟩:=hj
      exact cu j q hq) hb (by simpa using hl.1) (by rw [List.length_map]; exact hc) (by rw [hmap]; exact hl.2)
     rw [hmap,List.length_map] at hc
     refine hc.mono ?_
     rintro e w' ⟨rfl,hb'⟩
     exact fin _ hb'
 · cases hr
theorem k9:aM Tryd.prog S ⟨18,[.aQ, .val (.data .str)],[.val (.data (.int .i64)), .err],fun x=>bf x.1 x.2⟩:=
 Hq (ρ:=Tryd.zi) Tryd.KB Tryd.GB rfl ⟨Tryd.f18,Tryd.func18,by kernel_rfl,by kernel_rfl⟩
theorem Ec:aM Tryd.prog S ⟨89,[.aQ, .val (.data (.int .u8))],[.err],fun x=>fT x.1 x.2⟩:=
 Hl (ρ:=Tryd.vz) Tryd.DV Tryd.Bk rfl ⟨Tryd.f89,Tryd.func89,by kernel_rfl,by kernel_rfl⟩
theorem Ld:rm Tryd.prog S ⟨89,[.aQ, .val (.data (.int .u8))],[.err],fun x=>fT x.1 x.2⟩:=
 Ho (ρ:=Tryd.vz) Tryd.DV Tryd.Bk rfl ⟨Tryd.f89,Tryd.func89,by kernel_rfl,by kernel_rfl⟩
noncomputable def kG (x:List UInt8):Option (List UInt8×List UInt8):=some (x,x)
theorem oC:aM Tryd.prog S ⟨20,[.aQ],[.val (.data .str)],fun x=>kG x⟩:=
 Hp (ρ:=Tryd.zj) Tryd.KC Tryd.GC rfl ⟨Tryd.f20,Tryd.func20,by kernel_rfl,by kernel_rfl⟩
end Go.Sy.Ex
set_option maxRecDepth 100000
namespace Go.Sy.Ex
open Go.Sy Go.Proofs
noncomputable section
abbrev Cd:Entry S:=⟨22,[tg,q1],[q1],fun x=>k8 x.1 x.2⟩
abbrev pQ:Entry S:=⟨19,[q5],[q1],fun x=>gT x⟩
abbrev kJ:Entry S:=⟨18,[q7,q1],[q5,Ep],fun x=>bf x.1 x.2⟩
abbrev nS:Entry S:=⟨20,[q7],[q1],fun x=>kG x⟩
abbrev xL:Entry S:=⟨89,[q7,Ly],[Ep],fun x=>fT x.1 x.2⟩
abbrev Ce:Entry S:=⟨37,[q5,q5],[q1],fun x=>oB x.1 x.2⟩
abbrev xK:Entry S:=⟨51,[q1,q5],[q1],fun x=>mU x.1 x.2⟩
abbrev Nb:=bN→Option (List UInt8)
abbrev FI (f:Nb):Entry S:=⟨23,[q0],[q1],fun x=>f x⟩
def qO:Nat→(List UInt8)→(List (List (List UInt8)))→Int→Int→Option (List UInt8)
 | 0,_,_,_,_=>none
 | k+1,t,Bg,Gv,t_=>if t_<Gv then
  if 0≤t_ then
  if t_<(Bg.length:Int) then
  (k8 (Bg.getD t_.toNat []) aG).bind fun r4=>
  if bW.length+r4.length≤9223372036854775807 then
  if (bW++r4).length+cx.length≤9223372036854775807 then
  if t.length+((bW++r4)++cx).length≤9223372036854775807 then
  qO k (t++((bW++r4)++cx)) Bg Gv (aj (t_+1)) else none else none else none else none else none else
  if t.length+qH.length≤9223372036854775807 then
  some (t++qH) else none
def oU:Nat→Int→(List (List (List UInt8)))→(List (List (List UInt8)))→Int→(List (List UInt8))→(List (List (List UInt8)))→Int→Int→Option (List UInt8)
 | 0,_,_,_,_,_,_,_,_=>none
 | k+1,xe,BN,uC,dK,sets,bD,kn,lE=>if lE<kn then
  if 0≤lE then
  if lE<(bD.length:Int) then
  if ((bD.getD lE.toNat []).length:Int)=0 then
  if (sets.length+ [nj].length)*16≤140737488355328 then
  oU k xe BN uC dK (sets++ [nj]) bD kn (aj (lE+1)) else none else
  (k8 (bD.getD lE.toNat []) mh).bind fun r1=>
  if (sets.length+ [r1].length)*16≤140737488355328 then
  oU k xe BN uC dK (sets++ [r1]) bD kn (aj (lE+1)) else none else none else none else
  (gT xe).bind fun r2=>
  if ng.length+r2.length≤9223372036854775807 then
  if (ng++r2).length+lB.length≤9223372036854775807 then
  (k8 sets dG).bind fun r3=>
  if ((ng++r2)++lB).length+r3.length≤9223372036854775807 then
  if (((ng++r2)++lB)++r3).length+bq.length≤9223372036854775807 then
  qO k ((((ng++r2)++lB)++r3)++bq) uC (uC.length:Int) 0 else none else none else none else none
def FH (k:Nat) (c:bN):Option (List UInt8):=oU k c.lK c.Sets c.dI c.At [] c.Sets (c.Sets.length:Int) 0
def wo  (c:bN):Option (List UInt8):=cv (fun k (x:bN)=>FH k x) c
theorem Na:aM Tryd.prog S (FI (wo)):=fO (fun k x=>FH k x) (fun _=>rfl) fun k=>
 fc pk [Cd,pQ] ⟨Eb,qe,trivial⟩ Tryd.func23 [] k (fun k=> [(0,⟨[1,3,10,11,12],[q2,q3,q4,q5,q5],fun x=>oU k x.1.1 x.1.2.1 x.1.2.2.1 x.1.2.2.2 x.2.1 x.2.2.1 x.2.2.2.1 x.2.2.2.2,false⟩),(2,⟨[6,38,39,40],[q1,q4,q5,q5],fun x=>qO k x.1 x.2.1 x.2.2.1 x.2.2.2,false⟩)]) ⟨fun _=>rfl,fun _=>rfl,trivial⟩ (fun _=>by kernel_rfl) (fun _=>by kernel_rfl) (by kernel_rfl)
abbrev M6:=(List an)→Option (List UInt8)
abbrev wg (f:M6):Entry S:=⟨11,[q6],[q1],fun x=>f x⟩
mutual
def oS:Nat→(List UInt8)→(List an)→Int→Int→Option (List UInt8)
 | 0,_,_,_,_=>none
 | k+1,b,x8,x9,bD=>if bD<x9 then
  if 0≤bD then
  if bD<(x8.length:Int) then
  if cS.length+((x8.getD bD.toNat an.z).Name).length≤9223372036854775807 then
  if (cS++((x8.getD bD.toNat an.z).Name)).length+aU.length≤9223372036854775807 then
  if ((cS++((x8.getD bD.toNat an.z).Name))++aU).length+((x8.getD bD.toNat an.z).cW).length≤9223372036854775807 then
  if (((cS++((x8.getD bD.toNat an.z).Name))++aU)++((x8.getD bD.toNat an.z).cW)).length+bP.length≤9223372036854775807 then
  if ((((cS++((x8.getD bD.toNat an.z).Name))++aU)++((x8.getD bD.toNat an.z).cW))++bP).length+((x8.getD bD.toNat an.z).dR).length≤9223372036854775807 then
  if (((((cS++((x8.getD bD.toNat an.z).Name))++aU)++((x8.getD bD.toNat an.z).cW))++bP)++((x8.getD bD.toNat an.z).dR)).length+aX.length≤9223372036854775807 then
  if ((((((cS++((x8.getD bD.toNat an.z).Name))++aU)++((x8.getD bD.toNat an.z).cW))++bP)++((x8.getD bD.toNat an.z).dR))++aX).length+((x8.getD bD.toNat an.z).eZ).length≤9223372036854775807 then
  if (((((((cS++((x8.getD bD.toNat an.z).Name))++aU)++((x8.getD bD.toNat an.z).cW))++bP)++((x8.getD bD.toNat an.z).dR))++aX)++((x8.getD bD.toNat an.z).eZ)).length+gX.length≤9223372036854775807 then
  (k8 ((x8.getD bD.toNat an.z).Insts) dG).bind fun r1=>
  if ((((((((cS++((x8.getD bD.toNat an.z).Name))++aU)++((x8.getD bD.toNat an.z).cW))++bP)++((x8.getD bD.toNat an.z).dR))++aX)++((x8.getD bD.toNat an.z).eZ))++gX).length+r1.length≤9223372036854775807 then
  if (((((((((cS++((x8.getD bD.toNat an.z).Name))++aU)++((x8.getD bD.toNat an.z).cW))++bP)++((x8.getD bD.toNat an.z).dR))++aX)++((x8.getD bD.toNat an.z).eZ))++gX)++r1).length+bQ.length≤9223372036854775807 then
  (bf b ((((((((((cS++((x8.getD bD.toNat an.z).Name))++aU)++((x8.getD bD.toNat an.z).cW))++bP)++((x8.getD bD.toNat an.z).dR))++aX)++((x8.getD bD.toNat an.z).eZ))++gX)++r1)++bQ)).bind fun r2=>
  if 0<(((x8.getD bD.toNat an.z).fZ).length:Int) then
  (k8 ((x8.getD bD.toNat an.z).fZ) dG).bind fun r3=>
  if lz.length+r3.length≤9223372036854775807 then
  if (lz++r3).length+bQ.length≤9223372036854775807 then
  (bf r2.2.2 ((lz++r3)++bQ)).bind fun r4=>
  nu k r4.2.2 x8 x9 bD ((x8.getD bD.toNat an.z).Cells) (((x8.getD bD.toNat an.z).Cells).length:Int) 0 else none else none else
  nu k r2.2.2 x8 x9 bD ((x8.getD bD.toNat an.z).Cells) (((x8.getD bD.toNat an.z).Cells).length:Int) 0 else none else none else none else none else none else none else none else none else none else none else none else none else
  (kG b).bind fun r5=>
  some r5.1
def nu:Nat→(List UInt8)→(List an)→Int→Int→(List bN)→Int→Int→Option (List UInt8)
 | 0,_,_,_,_,_,_,_=>none
 | k+1,b,x8,x9,bD,qS,lG,ud=>if ud<lG then
  if 0≤ud then
  if ud<(qS.length:Int) then
  (wo (qS.getD ud.toNat bN.z)).bind fun r6=>
  if cU.length+r6.length≤9223372036854775807 then
  if (cU++r6).length+eW.length≤9223372036854775807 then
  (bf b ((cU++r6)++eW)).bind fun r7=>
  nu k r7.2.2 x8 x9 bD qS lG (aj (ud+1)) else none else none else none else none else
  (bf b jF).bind fun r8=>
  oS k r8.2.2 x8 x9 (aj (bD+1))
end
def FB (k:Nat) (l:List an):Option (List UInt8):=oS k [] l (l.length:Int) 0
def nr  (l:List an):Option (List UInt8):=cv (fun k (x:List an)=>FB k x) l
theorem AU:aM Tryd.prog S (wg (nr)):=fO (fun k x=>FB k x) (fun _=>rfl) fun k=>
 fc pk [Cd,kJ,nS,FI wo] ⟨Eb,k9,oC,Na,trivial⟩ Tryd.func11 [] k (fun k=> [(0,⟨[3,8,9,10],[q7,q6,q5,q5],fun x=>oS k x.1 x.2.1 x.2.2.1 x.2.2.2,false⟩),(2,⟨[3,8,9,10,47,48,49],[q7,q6,q5,q5,q8,q5,q5],fun x=>nu k x.1 x.2.1 x.2.2.1 x.2.2.2.1 x.2.2.2.2.1 x.2.2.2.2.2.1 x.2.2.2.2.2.2,false⟩)]) ⟨fun _=>rfl,fun _=>rfl,trivial⟩ (fun _=>by kernel_rfl) (fun _=>by kernel_rfl) (by kernel_rfl)
abbrev Kv:=Option Bool
abbrev DP (f:Kv):Entry S:=⟨5,[],[q9],fun x=>f⟩
def oz:Option Bool:=(nr [an.mk AG oO AK AL [oO,vY] [AB,AF] [bN.mk 2 [[tK,v_],[]] [[v7],[]] 0] 0]).bind fun r1=>
 some (decide (r1=Fs))
theorem Ku:aM Tryd.prog S (DP (oz)):=
 gh pk [wg nr] ⟨AU,trivial⟩ Tryd.func5 (by kernel_rfl) (fun _=>by kernel_rfl) (by kernel_rfl)
abbrev LY:=Int→Int→Option Int
abbrev ES (f:LY):Entry S:=⟨17,[q5,q5],[q5],fun x=>f x.1 x.2⟩
def oJ  (v:Int) (n:Int):Option Int:=if ¬ n=0 then
 if (v.tmod n)<0 then
 some (aj ((v.tmod n)+n)) else
 some (v.tmod n) else none
theorem LX:aM Tryd.prog S (ES (oJ)):=
 gh pk [] trivial Tryd.func17 (by kernel_rfl) (fun _=>by kernel_rfl) (by kernel_rfl)
abbrev Kx:=(List Int)→Int→Option (List (List UInt8))
abbrev DR (f:Kx):Entry S:=⟨6,[qh,q5],[tg],fun x=>f x.1 x.2⟩
def gD:Nat→(List Int)→Int→(List UInt8×List UInt8×List UInt8×List UInt8×List UInt8×List UInt8)→(List (List UInt8))→Int→Option (List (List UInt8))
 | 0,_,_,_,_,_=>none
 | k+1,v,n,all,out,i=>if i<n then
  if i<(v.length:Int) then
  if 0≤i then
  if i<(v.length:Int) then
  (oJ (v.getD i.toNat 0) 6).bind fun r1=>
  if 0≤r1 then
  if r1<([all.1,all.2.1,all.2.2.1,all.2.2.2.1,all.2.2.2.2.1,all.2.2.2.2.2].length:Int) then
  if (out.length+ [[all.1,all.2.1,all.2.2.1,all.2.2.2.1,all.2.2.2.2.1,all.2.2.2.2.2].getD r1.toNat []].length)*16≤140737488355328 then
  gD k v n all (out++ [[all.1,all.2.1,all.2.2.1,all.2.2.2.1,all.2.2.2.2.1,all.2.2.2.2.2].getD r1.toNat []]) (aj (i+1)) else none else none else none else none else none else
  (oJ i 6).bind fun r2=>
  if 0≤r2 then
  if r2<([all.1,all.2.1,all.2.2.1,all.2.2.2.1,all.2.2.2.2.1,all.2.2.2.2.2].length:Int) then
  if (out.length+ [[all.1,all.2.1,all.2.2.1,all.2.2.2.1,all.2.2.2.2.1,all.2.2.2.2.2].getD r2.toNat []].length)*16≤140737488355328 then
  gD k v n all (out++ [[all.1,all.2.1,all.2.2.1,all.2.2.2.1,all.2.2.2.2.1,all.2.2.2.2.2].getD r2.toNat []]) (aj (i+1)) else none else none else none else
  some out
def DQ (k:Nat) (v:List Int) (n:Int):Option (List (List UInt8)):=gD k v n b_ [] 0
def vv  (v:List Int) (n:Int):Option (List (List UInt8)):=cv (fun k (x:List Int×Int)=>DQ k x.1 x.2) (v,n)
theorem Kw:aM Tryd.prog S (DR (vv)):=fO (fun k x=>DQ k x.1 x.2) (fun _=>rfl) fun k=>
 fc pk [ES oJ] ⟨LX,trivial⟩ Tryd.func6 [] k (fun k=> [(0,⟨[0,1,5,6,7],[qh,q5,Lm,q3,q5],fun x=>gD k x.1 x.2.1 x.2.2.1 x.2.2.2.1 x.2.2.2.2,false⟩)]) ⟨fun _=>rfl,trivial⟩ (fun _=>by kernel_rfl) (fun _=>by kernel_rfl) (by kernel_rfl)
abbrev M8:=(List aN)→Option (List UInt8)
abbrev AW (f:M8):Entry S:=⟨7,[vG],[q1],fun x=>f x⟩
def qN:Nat→(List UInt8)→(List aN)→Int→Int→Option (List UInt8)
 | 0,_,_,_,_=>none
 | k+1,b,x6,x7,x8=>if x8<x7 then
  if 0≤x8 then
  if x8<(x6.length:Int) then
  if dO.length+((x6.getD x8.toNat aN.z).Name).length≤9223372036854775807 then
  if (dO++((x6.getD x8.toNat aN.z).Name)).length+aU.length≤9223372036854775807 then
  if ((dO++((x6.getD x8.toNat aN.z).Name))++aU).length+((x6.getD x8.toNat aN.z).eo).length≤9223372036854775807 then
  if (((dO++((x6.getD x8.toNat aN.z).Name))++aU)++((x6.getD x8.toNat aN.z).eo)).length+fK.length≤9223372036854775807 then
  (gT ((x6.getD x8.toNat aN.z).mG)).bind fun r1=>
  if ((((dO++((x6.getD x8.toNat aN.z).Name))++aU)++((x6.getD x8.toNat aN.z).eo))++fK).length+r1.length≤9223372036854775807 then
  if (((((dO++((x6.getD x8.toNat aN.z).Name))++aU)++((x6.getD x8.toNat aN.z).eo))++fK)++r1).length+gW.length≤9223372036854775807 then
  (gT ((x6.getD x8.toNat aN.z).Ext)).bind fun r2=>
  if ((((((dO++((x6.getD x8.toNat aN.z).Name))++aU)++((x6.getD x8.toNat aN.z).eo))++fK)++r1)++gW).length+r2.length≤9223372036854775807 then
  if (((((((dO++((x6.getD x8.toNat aN.z).Name))++aU)++((x6.getD x8.toNat aN.z).eo))++fK)++r1)++gW)++r2).length+eX.length≤9223372036854775807 then
  (gT ((x6.getD x8.toNat aN.z).Prio)).bind fun r3=>
  if ((((((((dO++((x6.getD x8.toNat aN.z).Name))++aU)++((x6.getD x8.toNat aN.z).eo))++fK)++r1)++gW)++r2)++eX).length+r3.length≤9223372036854775807 then
  if (((((((((dO++((x6.getD x8.toNat aN.z).Name))++aU)++((x6.getD x8.toNat aN.z).eo))++fK)++r1)++gW)++r2)++eX)++r3).length+bQ.length≤9223372036854775807 then
  (bf b ((((((((((dO++((x6.getD x8.toNat aN.z).Name))++aU)++((x6.getD x8.toNat aN.z).eo))++fK)++r1)++gW)++r2)++eX)++r3)++bQ)).bind fun r4=>
  qN k r4.2.2 x6 x7 (aj (x8+1)) else none else none else none else none else none else none else none else none else none else none else none else none else
  (kG b).bind fun r5=>
  some r5.1
def FE (k:Nat) (l:List aN):Option (List UInt8):=qN k [] l (l.length:Int) 0
def oT  (l:List aN):Option (List UInt8):=cv (fun k (x:List aN)=>FE k x) l
theorem FF:aM Tryd.prog S (AW (oT)):=fO (fun k x=>FE k x) (fun _=>rfl) fun k=>
 fc pk [pQ,kJ,nS] ⟨qe,k9,oC,trivial⟩ Tryd.func7 [] k (fun k=> [(0,⟨[3,6,7,8],[q7,vG,q5,q5],fun x=>qN k x.1 x.2.1 x.2.2.1 x.2.2.2,false⟩)]) ⟨fun _=>rfl,trivial⟩ (fun _=>by kernel_rfl) (fun _=>by kernel_rfl) (by kernel_rfl)
abbrev z7:=Int→Option (List UInt8)
abbrev mY (f:z7):Entry S:=⟨32,[q5],[q1],fun x=>f x⟩
def z6 (qI:z7) (k:Nat) (n:Int):Option (List UInt8):=if n≤(-10) then
 if ¬ (10:Int)=0 then
 if ¬ (10:Int)=0 then
 (qI (aj (n.tdiv 10))).bind fun r1=>
 if 0≤(aj ((aj (0 - (n.tmod 10)))+1)) then
 if (aj ((aj (0 - (n.tmod 10)))+1))≤(jb.length:Int) then
 if 0≤(aj (0 - (n.tmod 10))) then
 if (aj (0 - (n.tmod 10)))≤(aj ((aj (0 - (n.tmod 10)))+1)) then
 if r1.length+(cut jb (aj (0 - (n.tmod 10))) (aj ((aj (0 - (n.tmod 10)))+1))).length≤9223372036854775807 then
 some (r1++(cut jb (aj (0 - (n.tmod 10))) (aj ((aj (0 - (n.tmod 10)))+1)))) else none else none else none else none else none else none else none else
 if n<0 then
 if 0≤(aj ((aj (0 - n))+1)) then
 if (aj ((aj (0 - n))+1))≤(jb.length:Int) then
 if 0≤(aj (0 - n)) then
 if (aj (0 - n))≤(aj ((aj (0 - n))+1)) then
 if qG.length+(cut jb (aj (0 - n)) (aj ((aj (0 - n))+1))).length≤9223372036854775807 then
 some (qG++(cut jb (aj (0 - n)) (aj ((aj (0 - n))+1)))) else none else none else none else none else none else
 if n<10 then
 if 0≤(aj (n+1)) then
 if (aj (n+1))≤(jb.length:Int) then
 if 0≤n then
 if n≤(aj (n+1)) then
 some (cut jb n (aj (n+1))) else none else none else none else none else
 if ¬ (10:Int)=0 then
 (qI (aj (n.tdiv 10))).bind fun r2=>
 if ¬ (10:Int)=0 then
 if ¬ (10:Int)=0 then
 if 0≤(aj ((n.tmod 10)+1)) then
 if (aj ((n.tmod 10)+1))≤(jb.length:Int) then
 if 0≤(n.tmod 10) then
 if (n.tmod 10)≤(aj ((n.tmod 10)+1)) then
 if r2.length+(cut jb (n.tmod 10) (aj ((n.tmod 10)+1))).length≤9223372036854775807 then
 some (r2++(cut jb (n.tmod 10) (aj ((n.tmod 10)+1)))) else none else none else none else none else none else none else none else none
def qu:Nat→Int→Option (List UInt8)
 | 0,_=>none
 | k+1,x0=>z6 (qu k) k x0
def jz  (n:Int):Option (List UInt8):=cv (fun k (x:Int)=>qu k x) n
theorem LZ (qI:z7) (k:Nat) (I6:aM Tryd.prog S (mY qI)):aM Tryd.prog S (mY (z6 qI k)):=
 gh pk [mY qI] ⟨I6,trivial⟩ Tryd.func32 (by kernel_rfl) (fun _=>by kernel_rfl) (by kernel_rfl)
theorem vP:aM Tryd.prog S (mY (jz)):=oV (fun k x=>qu k x) (fun _=>rfl) Tryd.func32 (by kernel_rfl) (fun _=>rfl) fun k h=>LZ (qu k) k h
abbrev LW:=Int→Option (List UInt8)
abbrev tq (f:LW):Entry S:=⟨21,[q5],[q1],fun x=>f x⟩
def iM  (n:Int):Option (List UInt8):=(jz n).bind fun r1=>some r1
theorem vO:aM Tryd.prog S (tq (iM)):=
 gh pk [mY jz] ⟨vP,trivial⟩ Tryd.func21 (by kernel_rfl) (fun _=>by kernel_rfl) (by kernel_rfl)
abbrev LP:=(List aN)→Option (List UInt8)
abbrev zY (f:LP):Entry S:=⟨8,[vG],[q1],fun x=>f x⟩
def qq:Nat→(List aN)→(List UInt8)→Int→Option (List UInt8)
 | 0,_,_,_=>none
 | k+1,l,s,i=>if i<(l.length:Int) then
  if 0≤i then
  if i<(l.length:Int) then
  if s.length+dO.length≤9223372036854775807 then
  if (s++dO).length+((l.getD i.toNat aN.z).Name).length≤9223372036854775807 then
  if ((s++dO)++((l.getD i.toNat aN.z).Name)).length+aU.length≤9223372036854775807 then
  if (((s++dO)++((l.getD i.toNat aN.z).Name))++aU).length+((l.getD i.toNat aN.z).eo).length≤9223372036854775807 then
  if ((((s++dO)++((l.getD i.toNat aN.z).Name))++aU)++((l.getD i.toNat aN.z).eo)).length+fK.length≤9223372036854775807 then
  (iM ((l.getD i.toNat aN.z).mG)).bind fun r1=>
  if (((((s++dO)++((l.getD i.toNat aN.z).Name))++aU)++((l.getD i.toNat aN.z).eo))++fK).length+r1.length≤9223372036854775807 then
  if ((((((s++dO)++((l.getD i.toNat aN.z).Name))++aU)++((l.getD i.toNat aN.z).eo))++fK)++r1).length+gW.length≤9223372036854775807 then
  (iM ((l.getD i.toNat aN.z).Ext)).bind fun r2=>
  if (((((((s++dO)++((l.getD i.toNat aN.z).Name))++aU)++((l.getD i.toNat aN.z).eo))++fK)++r1)++gW).length+r2.length≤9223372036854775807 then
  if ((((((((s++dO)++((l.getD i.toNat aN.z).Name))++aU)++((l.getD i.toNat aN.z).eo))++fK)++r1)++gW)++r2).length+eX.length≤9223372036854775807 then
  (iM ((l.getD i.toNat aN.z).Prio)).bind fun r3=>
  if (((((((((s++dO)++((l.getD i.toNat aN.z).Name))++aU)++((l.getD i.toNat aN.z).eo))++fK)++r1)++gW)++r2)++eX).length+r3.length≤9223372036854775807 then
  if ((((((((((s++dO)++((l.getD i.toNat aN.z).Name))++aU)++((l.getD i.toNat aN.z).eo))++fK)++r1)++gW)++r2)++eX)++r3).length+bQ.length≤9223372036854775807 then
  qq k l (((((((((((s++dO)++((l.getD i.toNat aN.z).Name))++aU)++((l.getD i.toNat aN.z).eo))++fK)++r1)++gW)++r2)++eX)++r3)++bQ) (aj (i+1)) else none else none else none else none else none else none else none else none else none else none else none else none else none else
  some s
def EK (k:Nat) (l:List aN):Option (List UInt8):=qq k l [] 0
def qp  (l:List aN):Option (List UInt8):=cv (fun k (x:List aN)=>EK k x) l
theorem EL:aM Tryd.prog S (zY (qp)):=fO (fun k x=>EK k x) (fun _=>rfl) fun k=>
 fc pk [tq iM] ⟨vO,trivial⟩ Tryd.func8 [] k (fun k=> [(0,⟨[0,3,4],[vG,q1,q5],fun x=>qq k x.1 x.2.1 x.2.2,false⟩)]) ⟨fun _=>rfl,trivial⟩ (fun _=>by kernel_rfl) (fun _=>by kernel_rfl) (by kernel_rfl)
abbrev M7:=(List aC)→Option (List UInt8)
abbrev AV (f:M7):Entry S:=⟨9,[vH],[q1],fun x=>f x⟩
def qM:Nat→(List UInt8)→(List aC)→Int→Int→Option (List UInt8)
 | 0,_,_,_,_=>none
 | k+1,b,x6,x7,x8=>if x8<x7 then
  if 0≤x8 then
  if x8<(x6.length:Int) then
  if cT.length+((x6.getD x8.toNat aC.z).Name).length≤9223372036854775807 then
  if (cT++((x6.getD x8.toNat aC.z).Name)).length+aU.length≤9223372036854775807 then
  if ((cT++((x6.getD x8.toNat aC.z).Name))++aU).length+((x6.getD x8.toNat aC.z).aS).length≤9223372036854775807 then
  if (((cT++((x6.getD x8.toNat aC.z).Name))++aU)++((x6.getD x8.toNat aC.z).aS)).length+bP.length≤9223372036854775807 then
  if ((((cT++((x6.getD x8.toNat aC.z).Name))++aU)++((x6.getD x8.toNat aC.z).aS))++bP).length+((x6.getD x8.toNat aC.z).Port).length≤9223372036854775807 then
  if (((((cT++((x6.getD x8.toNat aC.z).Name))++aU)++((x6.getD x8.toNat aC.z).aS))++bP)++((x6.getD x8.toNat aC.z).Port)).length+aX.length≤9223372036854775807 then
  if ((((((cT++((x6.getD x8.toNat aC.z).Name))++aU)++((x6.getD x8.toNat aC.z).aS))++bP)++((x6.getD x8.toNat aC.z).Port))++aX).length+((x6.getD x8.toNat aC.z).To).length≤9223372036854775807 then
  if (((((((cT++((x6.getD x8.toNat aC.z).Name))++aU)++((x6.getD x8.toNat aC.z).aS))++bP)++((x6.getD x8.toNat aC.z).Port))++aX)++((x6.getD x8.toNat aC.z).To)).length+gU.length≤9223372036854775807 then
  (gT ((x6.getD x8.toNat aC.z).Cap)).bind fun r1=>
  if ((((((((cT++((x6.getD x8.toNat aC.z).Name))++aU)++((x6.getD x8.toNat aC.z).aS))++bP)++((x6.getD x8.toNat aC.z).Port))++aX)++((x6.getD x8.toNat aC.z).To))++gU).length+r1.length≤9223372036854775807 then
  if (((((((((cT++((x6.getD x8.toNat aC.z).Name))++aU)++((x6.getD x8.toNat aC.z).aS))++bP)++((x6.getD x8.toNat aC.z).Port))++aX)++((x6.getD x8.toNat aC.z).To))++gU)++r1).length+eX.length≤9223372036854775807 then
  (gT ((x6.getD x8.toNat aC.z).Prio)).bind fun r2=>
  if ((((((((((cT++((x6.getD x8.toNat aC.z).Name))++aU)++((x6.getD x8.toNat aC.z).aS))++bP)++((x6.getD x8.toNat aC.z).Port))++aX)++((x6.getD x8.toNat aC.z).To))++gU)++r1)++eX).length+r2.length≤9223372036854775807 then
  if (((((((((((cT++((x6.getD x8.toNat aC.z).Name))++aU)++((x6.getD x8.toNat aC.z).aS))++bP)++((x6.getD x8.toNat aC.z).Port))++aX)++((x6.getD x8.toNat aC.z).To))++gU)++r1)++eX)++r2).length+bQ.length≤9223372036854775807 then
  (bf b ((((((((((((cT++((x6.getD x8.toNat aC.z).Name))++aU)++((x6.getD x8.toNat aC.z).aS))++bP)++((x6.getD x8.toNat aC.z).Port))++aX)++((x6.getD x8.toNat aC.z).To))++gU)++r1)++eX)++r2)++bQ)).bind fun r3=>
  qM k r3.2.2 x6 x7 (aj (x8+1)) else none else none else none else none else none else none else none else none else none else none else none else none else none else none else
  (kG b).bind fun r4=>
  some r4.1
def FC (k:Nat) (l:List aC):Option (List UInt8):=qM k [] l (l.length:Int) 0
def qL  (l:List aC):Option (List UInt8):=cv (fun k (x:List aC)=>FC k x) l
theorem FD:aM Tryd.prog S (AV (qL)):=fO (fun k x=>FC k x) (fun _=>rfl) fun k=>
 fc pk [pQ,kJ,nS] ⟨qe,k9,oC,trivial⟩ Tryd.func9 [] k (fun k=> [(0,⟨[3,6,7,8],[q7,vH,q5,q5],fun x=>qM k x.1 x.2.1 x.2.2.1 x.2.2.2,false⟩)]) ⟨fun _=>rfl,trivial⟩ (fun _=>by kernel_rfl) (fun _=>by kernel_rfl) (by kernel_rfl)
abbrev LN:=(List aC)→Option (List UInt8)
abbrev zX (f:LN):Entry S:=⟨10,[vH],[q1],fun x=>f x⟩
def qo:Nat→(List aC)→(List UInt8)→Int→Option (List UInt8)
 | 0,_,_,_=>none
 | k+1,l,s,i=>if i<(l.length:Int) then
  if 0≤i then
  if i<(l.length:Int) then
  if s.length+cT.length≤9223372036854775807 then
  if (s++cT).length+((l.getD i.toNat aC.z).Name).length≤9223372036854775807 then
  if ((s++cT)++((l.getD i.toNat aC.z).Name)).length+aU.length≤9223372036854775807 then
  if (((s++cT)++((l.getD i.toNat aC.z).Name))++aU).length+((l.getD i.toNat aC.z).aS).length≤9223372036854775807 then
  if ((((s++cT)++((l.getD i.toNat aC.z).Name))++aU)++((l.getD i.toNat aC.z).aS)).length+bP.length≤9223372036854775807 then
  if (((((s++cT)++((l.getD i.toNat aC.z).Name))++aU)++((l.getD i.toNat aC.z).aS))++bP).length+((l.getD i.toNat aC.z).Port).length≤9223372036854775807 then
  if ((((((s++cT)++((l.getD i.toNat aC.z).Name))++aU)++((l.getD i.toNat aC.z).aS))++bP)++((l.getD i.toNat aC.z).Port)).length+aX.length≤9223372036854775807 then
  if (((((((s++cT)++((l.getD i.toNat aC.z).Name))++aU)++((l.getD i.toNat aC.z).aS))++bP)++((l.getD i.toNat aC.z).Port))++aX).length+((l.getD i.toNat aC.z).To).length≤9223372036854775807 then
  if ((((((((s++cT)++((l.getD i.toNat aC.z).Name))++aU)++((l.getD i.toNat aC.z).aS))++bP)++((l.getD i.toNat aC.z).Port))++aX)++((l.getD i.toNat aC.z).To)).length+gU.length≤9223372036854775807 then
  (iM ((l.getD i.toNat aC.z).Cap)).bind fun r1=>
  if (((((((((s++cT)++((l.getD i.toNat aC.z).Name))++aU)++((l.getD i.toNat aC.z).aS))++bP)++((l.getD i.toNat aC.z).Port))++aX)++((l.getD i.toNat aC.z).To))++gU).length+r1.length≤9223372036854775807 then
  if ((((((((((s++cT)++((l.getD i.toNat aC.z).Name))++aU)++((l.getD i.toNat aC.z).aS))++bP)++((l.getD i.toNat aC.z).Port))++aX)++((l.getD i.toNat aC.z).To))++gU)++r1).length+eX.length≤9223372036854775807 then
  (iM ((l.getD i.toNat aC.z).Prio)).bind fun r2=>
  if (((((((((((s++cT)++((l.getD i.toNat aC.z).Name))++aU)++((l.getD i.toNat aC.z).aS))++bP)++((l.getD i.toNat aC.z).Port))++aX)++((l.getD i.toNat aC.z).To))++gU)++r1)++eX).length+r2.length≤9223372036854775807 then
  if ((((((((((((s++cT)++((l.getD i.toNat aC.z).Name))++aU)++((l.getD i.toNat aC.z).aS))++bP)++((l.getD i.toNat aC.z).Port))++aX)++((l.getD i.toNat aC.z).To))++gU)++r1)++eX)++r2).length+bQ.length≤9223372036854775807 then
  qo k l (((((((((((((s++cT)++((l.getD i.toNat aC.z).Name))++aU)++((l.getD i.toNat aC.z).aS))++bP)++((l.getD i.toNat aC.z).Port))++aX)++((l.getD i.toNat aC.z).To))++gU)++r1)++eX)++r2)++bQ) (aj (i+1)) else none else none else none else none else none else none else none else none else none else none else none else none else none else none else none else
  some s
def EI (k:Nat) (l:List aC):Option (List UInt8):=qo k l [] 0
def qn  (l:List aC):Option (List UInt8):=cv (fun k (x:List aC)=>EI k x) l
theorem EJ:aM Tryd.prog S (zX (qn)):=fO (fun k x=>EI k x) (fun _=>rfl) fun k=>
 fc pk [tq iM] ⟨vO,trivial⟩ Tryd.func10 [] k (fun k=> [(0,⟨[0,3,4],[vH,q1,q5],fun x=>qo k x.1 x.2.1 x.2.2,false⟩)]) ⟨fun _=>rfl,trivial⟩ (fun _=>by kernel_rfl) (fun _=>by kernel_rfl) (by kernel_rfl)
abbrev LQ:=(List (List UInt8))→(List UInt8)→Option (List UInt8)
abbrev zZ (f:LQ):Entry S:=⟨24,[tg,q1],[q1],fun x=>f x.1 x.2⟩
def lf:Nat→(List (List UInt8))→(List UInt8)→(List UInt8)→Int→Option (List UInt8)
 | 0,_,_,_,_=>none
 | k+1,l,mu,s,i=>if i<(l.length:Int) then
  if 0<i then
  if s.length+mu.length≤9223372036854775807 then
  if 0≤i then
  if i<(l.length:Int) then
  if (s++mu).length+(l.getD i.toNat []).length≤9223372036854775807 then
  lf k l mu ((s++mu)++(l.getD i.toNat [])) (aj (i+1)) else none else none else none else none else
  if 0≤i then
  if i<(l.length:Int) then
  if s.length+(l.getD i.toNat []).length≤9223372036854775807 then
  lf k l mu (s++(l.getD i.toNat [])) (aj (i+1)) else none else none else none else
  some s
def EM (k:Nat) (l:List (List UInt8)) (mu:List UInt8):Option (List UInt8):=lf k l mu [] 0
def l9  (l:List (List UInt8)) (mu:List UInt8):Option (List UInt8):=cv (fun k (x:List (List UInt8)×List UInt8)=>EM k x.1 x.2) (l,mu)
theorem EN:aM Tryd.prog S (zZ (l9)):=fO (fun k x=>EM k x.1 x.2) (fun _=>rfl) fun k=>
 fc pk [] trivial Tryd.func24 [] k (fun k=> [(0,⟨[0,1,5,6],[tg,q1,q1,q5],fun x=>lf k x.1 x.2.1 x.2.2.1 x.2.2.2,false⟩)]) ⟨fun _=>rfl,trivial⟩ (fun _=>by kernel_rfl) (fun _=>by kernel_rfl) (by kernel_rfl)
abbrev LV:=bN→Option (List UInt8)
abbrev ER (f:LV):Entry S:=⟨25,[q0],[q1],fun x=>f x⟩
def qt:Nat→Int→(List (List (List UInt8)))→(List (List (List UInt8)))→Int→(List UInt8)→Int→Option (List UInt8)
 | 0,_,_,_,_,_,_=>none
 | k+1,qT,lH,nG,gI,s,i=>if i<(nG.length:Int) then
  if s.length+bW.length≤9223372036854775807 then
  if 0≤i then
  if i<(nG.length:Int) then
  (l9 (nG.getD i.toNat []) aG).bind fun r4=>
  if (s++bW).length+r4.length≤9223372036854775807 then
  if ((s++bW)++r4).length+cx.length≤9223372036854775807 then
  qt k qT lH nG gI (((s++bW)++r4)++cx) (aj (i+1)) else none else none else none else none else none else
  if s.length+tH.length≤9223372036854775807 then
  some (s++tH) else none
def oI:Nat→Int→(List (List (List UInt8)))→(List (List (List UInt8)))→Int→(List (List UInt8))→Int→Option (List UInt8)
 | 0,_,_,_,_,_,_=>none
 | k+1,qT,lH,nG,gI,sets,i=>if i<(lH.length:Int) then
  if 0≤i then
  if i<(lH.length:Int) then
  if ((lH.getD i.toNat []).length:Int)=0 then
  if (sets.length+ [nj].length)*16≤140737488355328 then
  oI k qT lH nG gI (sets++ [nj]) (aj (i+1)) else none else
  if 0≤i then
  if i<(lH.length:Int) then
  (l9 (lH.getD i.toNat []) mh).bind fun r1=>
  if (sets.length+ [r1].length)*16≤140737488355328 then
  oI k qT lH nG gI (sets++ [r1]) (aj (i+1)) else none else none else none else none else none else
  (iM qT).bind fun r2=>
  if oP.length+r2.length≤9223372036854775807 then
  if (oP++r2).length+lB.length≤9223372036854775807 then
  (l9 sets dG).bind fun r3=>
  if ((oP++r2)++lB).length+r3.length≤9223372036854775807 then
  if (((oP++r2)++lB)++r3).length+bq.length≤9223372036854775807 then
  qt k qT lH nG gI ((((oP++r2)++lB)++r3)++bq) 0 else none else none else none else none
def EP (k:Nat) (x:bN):Option (List UInt8):=oI k x.lK x.Sets x.dI x.At [] 0
def vN  (x:bN):Option (List UInt8):=cv (fun k (x:bN)=>EP k x) x
theorem LU:aM Tryd.prog S (ER (vN)):=fO (fun k x=>EP k x) (fun _=>rfl) fun k=>
 fc pk [zZ l9,tq iM] ⟨EN,vO,trivial⟩ Tryd.func25 [] k (fun k=> [(0,⟨[1,3,4],[q2,q3,q5],fun x=>oI k x.1.1 x.1.2.1 x.1.2.2.1 x.1.2.2.2 x.2.1 x.2.2,false⟩),(2,⟨[1,5,6],[q2,q1,q5],fun x=>qt k x.1.1 x.1.2.1 x.1.2.2.1 x.1.2.2.2 x.2.1 x.2.2,false⟩)]) ⟨fun _=>rfl,fun _=>rfl,trivial⟩ (fun _=>by kernel_rfl) (fun _=>by kernel_rfl) (by kernel_rfl)
abbrev LM:=(List an)→Option (List UInt8)
abbrev zW (f:LM):Entry S:=⟨12,[q6],[q1],fun x=>f x⟩
mutual
def oH:Nat→(List an)→(List UInt8)→Int→Option (List UInt8)
 | 0,_,_,_=>none
 | k+1,l,s,i=>if i<(l.length:Int) then
  if 0≤i then
  if i<(l.length:Int) then
  if s.length+cS.length≤9223372036854775807 then
  if (s++cS).length+((l.getD i.toNat an.z).Name).length≤9223372036854775807 then
  if ((s++cS)++((l.getD i.toNat an.z).Name)).length+aU.length≤9223372036854775807 then
  if (((s++cS)++((l.getD i.toNat an.z).Name))++aU).length+((l.getD i.toNat an.z).cW).length≤9223372036854775807 then
  if ((((s++cS)++((l.getD i.toNat an.z).Name))++aU)++((l.getD i.toNat an.z).cW)).length+bP.length≤9223372036854775807 then
  if (((((s++cS)++((l.getD i.toNat an.z).Name))++aU)++((l.getD i.toNat an.z).cW))++bP).length+((l.getD i.toNat an.z).dR).length≤9223372036854775807 then
  if ((((((s++cS)++((l.getD i.toNat an.z).Name))++aU)++((l.getD i.toNat an.z).cW))++bP)++((l.getD i.toNat an.z).dR)).length+aX.length≤9223372036854775807 then
  if (((((((s++cS)++((l.getD i.toNat an.z).Name))++aU)++((l.getD i.toNat an.z).cW))++bP)++((l.getD i.toNat an.z).dR))++aX).length+((l.getD i.toNat an.z).eZ).length≤9223372036854775807 then
  if ((((((((s++cS)++((l.getD i.toNat an.z).Name))++aU)++((l.getD i.toNat an.z).cW))++bP)++((l.getD i.toNat an.z).dR))++aX)++((l.getD i.toNat an.z).eZ)).length+gX.length≤9223372036854775807 then
  (l9 ((l.getD i.toNat an.z).Insts) dG).bind fun r1=>
  if (((((((((s++cS)++((l.getD i.toNat an.z).Name))++aU)++((l.getD i.toNat an.z).cW))++bP)++((l.getD i.toNat an.z).dR))++aX)++((l.getD i.toNat an.z).eZ))++gX).length+r1.length≤9223372036854775807 then
  if ((((((((((s++cS)++((l.getD i.toNat an.z).Name))++aU)++((l.getD i.toNat an.z).cW))++bP)++((l.getD i.toNat an.z).dR))++aX)++((l.getD i.toNat an.z).eZ))++gX)++r1).length+bQ.length≤9223372036854775807 then
  if 0<(((l.getD i.toNat an.z).fZ).length:Int) then
  if (((((((((((s++cS)++((l.getD i.toNat an.z).Name))++aU)++((l.getD i.toNat an.z).cW))++bP)++((l.getD i.toNat an.z).dR))++aX)++((l.getD i.toNat an.z).eZ))++gX)++r1)++bQ).length+lz.length≤9223372036854775807 then
  (l9 ((l.getD i.toNat an.z).fZ) dG).bind fun r2=>
  if ((((((((((((s++cS)++((l.getD i.toNat an.z).Name))++aU)++((l.getD i.toNat an.z).cW))++bP)++((l.getD i.toNat an.z).dR))++aX)++((l.getD i.toNat an.z).eZ))++gX)++r1)++bQ)++lz).length+r2.length≤9223372036854775807 then
  if (((((((((((((s++cS)++((l.getD i.toNat an.z).Name))++aU)++((l.getD i.toNat an.z).cW))++bP)++((l.getD i.toNat an.z).dR))++aX)++((l.getD i.toNat an.z).eZ))++gX)++r1)++bQ)++lz)++r2).length+bQ.length≤9223372036854775807 then
  mX k l ((((((((((((((s++cS)++((l.getD i.toNat an.z).Name))++aU)++((l.getD i.toNat an.z).cW))++bP)++((l.getD i.toNat an.z).dR))++aX)++((l.getD i.toNat an.z).eZ))++gX)++r1)++bQ)++lz)++r2)++bQ) i ((l.getD i.toNat an.z).Name) ((l.getD i.toNat an.z).cW) ((l.getD i.toNat an.z).dR) ((l.getD i.toNat an.z).eZ) ((l.getD i.toNat an.z).Insts) ((l.getD i.toNat an.z).fZ) ((l.getD i.toNat an.z).Cells) ((l.getD i.toNat an.z).At) 0 else none else none else none else
  mX k l (((((((((((s++cS)++((l.getD i.toNat an.z).Name))++aU)++((l.getD i.toNat an.z).cW))++bP)++((l.getD i.toNat an.z).dR))++aX)++((l.getD i.toNat an.z).eZ))++gX)++r1)++bQ) i ((l.getD i.toNat an.z).Name) ((l.getD i.toNat an.z).cW) ((l.getD i.toNat an.z).dR) ((l.getD i.toNat an.z).eZ) ((l.getD i.toNat an.z).Insts) ((l.getD i.toNat an.z).fZ) ((l.getD i.toNat an.z).Cells) ((l.getD i.toNat an.z).At) 0 else none else none else none else none else none else none else none else none else none else none else none else none else none else
  some s
def mX:Nat→(List an)→(List UInt8)→Int→(List UInt8)→(List UInt8)→(List UInt8)→(List UInt8)→(List (List UInt8))→(List (List UInt8))→(List bN)→Int→Int→Option (List UInt8)
 | 0,_,_,_,_,_,_,_,_,_,_,_,_=>none
 | k+1,l,s,i,kA,ku,kB,kC,kz,pg,iw,gI,k_=>if k_<(iw.length:Int) then
  if 0≤k_ then
  if k_<(iw.length:Int) then
  (vN (iw.getD k_.toNat bN.z)).bind fun r3=>
  if s.length+r3.length≤9223372036854775807 then
  mX k l (s++r3) i kA ku kB kC kz pg iw gI (aj (k_+1)) else none else none else none else
  if s.length+jF.length≤9223372036854775807 then
  oH k l (s++jF) (aj (i+1)) else none
end
def EG (k:Nat) (l:List an):Option (List UInt8):=oH k l [] 0
def qm  (l:List an):Option (List UInt8):=cv (fun k (x:List an)=>EG k x) l
theorem EH:aM Tryd.prog S (zW (qm)):=fO (fun k x=>EG k x) (fun _=>rfl) fun k=>
 fc pk [zZ l9,ER vN] ⟨EN,LU,trivial⟩ Tryd.func12 [] k (fun k=> [(0,⟨[0,3,4],[q6,q1,q5],fun x=>oH k x.1 x.2.1 x.2.2,false⟩),(2,⟨[0,3,4,5,6],[q6,q1,q5,Ln,q5],fun x=>mX k x.1 x.2.1 x.2.2.1 x.2.2.2.1.1 x.2.2.2.1.2.1 x.2.2.2.1.2.2.1 x.2.2.2.1.2.2.2.1 x.2.2.2.1.2.2.2.2.1 x.2.2.2.1.2.2.2.2.2.1 x.2.2.2.1.2.2.2.2.2.2.1 x.2.2.2.1.2.2.2.2.2.2.2 x.2.2.2.2,false⟩)]) ⟨fun _=>rfl,fun _=>rfl,trivial⟩ (fun _=>by kernel_rfl) (fun _=>by kernel_rfl) (by kernel_rfl)
abbrev HR:=Int→Option (List UInt8)
abbrev B3 (f:HR):Entry S:=⟨52,[q5],[q1],fun x=>f x⟩
def xB  (kind:Int):Option (List UInt8):=if kind=1 then
 some oR else
 if kind=2 then
 some oQ else
 if kind=3 then
 some v8 else
 some vZ
theorem HQ:aM Tryd.prog S (B3 (xB)):=
 gh pk [] trivial Tryd.func52 (by kernel_rfl) (fun _=>by kernel_rfl) (by kernel_rfl)
abbrev Iv:=(List UInt8)→Option (Int×Int)
abbrev Cx (f:Iv):Entry S:=⟨96,[q1],[q5,q5],fun x=>f x⟩
def xS  (text:List UInt8):Option (Int×Int):=if text=Ax then
 some (19,1) else
 if text=Av then
 some (18,2) else
 if text=AD then
 some (12,3) else
 if text=AE then
 some (13,3) else
 if text=Az then
 some (14,3) else
 if text=AA then
 some (15,3) else
 if text=Ay then
 some (16,3) else
 if text=Aw then
 some (17,3) else
 if text=mh then
 some (10,4) else
 if text=qG then
 some (11,4) else
 if text=AO then
 some (7,5) else
 if text=AM then
 some (8,5) else
 if text=AH then
 some (9,5) else
 some (0,0)
theorem Iu:aM Tryd.prog S (Cx (xS)):=
 gh pk [] trivial Tryd.func96 (by kernel_rfl) (fun _=>by kernel_rfl) (by kernel_rfl)
abbrev Iq:=Int→Option (List UInt8×Int)
abbrev xP (f:Iq):Entry S:=⟨95,[q5],[q1,q5],fun x=>f x⟩
def xQ:Nat→Int→(List UInt8×List UInt8×List UInt8×List UInt8×List UInt8×List UInt8×List UInt8×List UInt8×List UInt8×List UInt8×List UInt8×List UInt8×List UInt8)→Int→Option (List UInt8×Int)
 | 0,_,_,_=>none
 | k+1,kind,x8,x9=>if x9<13 then
  if 0≤x9 then
  if x9<([x8.1,x8.2.1,x8.2.2.1,x8.2.2.2.1,x8.2.2.2.2.1,x8.2.2.2.2.2.1,x8.2.2.2.2.2.2.1,x8.2.2.2.2.2.2.2.1,x8.2.2.2.2.2.2.2.2.1,x8.2.2.2.2.2.2.2.2.2.1,x8.2.2.2.2.2.2.2.2.2.2.1,x8.2.2.2.2.2.2.2.2.2.2.2.1,x8.2.2.2.2.2.2.2.2.2.2.2.2].length:Int) then
  (xS ([x8.1,x8.2.1,x8.2.2.1,x8.2.2.2.1,x8.2.2.2.2.1,x8.2.2.2.2.2.1,x8.2.2.2.2.2.2.1,x8.2.2.2.2.2.2.2.1,x8.2.2.2.2.2.2.2.2.1,x8.2.2.2.2.2.2.2.2.2.1,x8.2.2.2.2.2.2.2.2.2.2.1,x8.2.2.2.2.2.2.2.2.2.2.2.1,x8.2.2.2.2.2.2.2.2.2.2.2.2].getD x9.toNat [])).bind fun r1=>
  if r1.1=kind then
  some ([x8.1,x8.2.1,x8.2.2.1,x8.2.2.2.1,x8.2.2.2.2.1,x8.2.2.2.2.2.1,x8.2.2.2.2.2.2.1,x8.2.2.2.2.2.2.2.1,x8.2.2.2.2.2.2.2.2.1,x8.2.2.2.2.2.2.2.2.2.1,x8.2.2.2.2.2.2.2.2.2.2.1,x8.2.2.2.2.2.2.2.2.2.2.2.1,x8.2.2.2.2.2.2.2.2.2.2.2.2].getD x9.toNat [],r1.2) else
  xQ k kind x8 (aj (x9+1)) else none else none else
  some ([],0)
def Cs (k:Nat) (kind:Int):Option (List UInt8×Int):=xQ k kind He 0
def pS  (kind:Int):Option (List UInt8×Int):=cv (fun k (x:Int)=>Cs k x) kind
theorem Ct:aM Tryd.prog S (xP (pS)):=fO (fun k x=>Cs k x) (fun _=>rfl) fun k=>
 fc pk [Cx xS] ⟨Iu,trivial⟩ Tryd.func95 [] k (fun k=> [(0,⟨[0,8,9],[q5,Lo,q5],fun x=>xQ k x.1 x.2.1 x.2.2,false⟩)]) ⟨fun _=>rfl,trivial⟩ (fun _=>by kernel_rfl) (fun _=>by kernel_rfl) (by kernel_rfl)
abbrev Ir:=Int→Option Int
abbrev xR (f:Ir):Entry S:=⟨93,[q5],[q5],fun x=>f x⟩
def rR  (kind:Int):Option Int:=if kind=5 then
 some 6 else
 if kind=6 then
 some 6 else
 (pS kind).bind fun r1=>
 if 0<r1.2 then
 some r1.2 else
 some 7
theorem Cu:aM Tryd.prog S (xR (rR)):=
 gh pk [xP pS] ⟨Ct,trivial⟩ Tryd.func93 (by kernel_rfl) (fun _=>by kernel_rfl) (by kernel_rfl)
abbrev It:=Int→Option (List Int)
abbrev Cw (f:It):Entry S:=⟨94,[q5],[qh],fun x=>f x⟩
def gM  (kind:Int):Option (List Int):=(rR kind).bind fun r1=>
 if r1=7 then
 some [] else
 if r1=6 then
 some [6] else
 if r1=3 then
 some [4,4] else
 some [r1,aj (r1+1)]
theorem Is:aM Tryd.prog S (Cw (gM)):=
 gh pk [xR rR] ⟨Cu,trivial⟩ Tryd.func94 (by kernel_rfl) (fun _=>by kernel_rfl) (by kernel_rfl)
abbrev rT:=(List UInt8)→bh→Int→Option (List UInt8)
abbrev rS (f:rT):Entry S:=⟨90,[q7,vI,q5],[],fun x=>f x.1 x.2.1 x.2.2⟩
def kN (dh:rT):Nat→(List UInt8)→Int→Int→(List UInt8)→(List bh)→Int→(List Int)→Int→Int→Option (List UInt8)
 | 0,_,_,_,_,_,_,_,_,_=>none
 | k+1,b,nT,rN,rO,h_,rM,ko,o_,cV=>if cV<o_ then
  if 0≤cV then
  if cV<(ko.length:Int) then
  if (h_.length:Int)≤cV then
  (fT b 41).bind fun LA=>
  some LA.2 else
  if 0<cV then
  (pS nT).bind fun r32=>
  if aG.length+r32.1.length≤9223372036854775807 then
  if (aG++r32.1).length+aG.length≤9223372036854775807 then
  (bf b ((aG++r32.1)++aG)).bind fun LB=>
  if 0≤cV then
  if cV<(h_.length:Int) then
  (dh LB.2.2 (h_.getD cV.toNat bh.z) (ko.getD cV.toNat 0)).bind fun LC=>
  kN dh k LC nT rN rO h_ rM ko o_ (aj (cV+1)) else none else none else none else none else
  if 0≤cV then
  if cV<(h_.length:Int) then
  (dh b (h_.getD cV.toNat bh.z) (ko.getD cV.toNat 0)).bind fun LD=>
  kN dh k LD nT rN rO h_ rM ko o_ (aj (cV+1)) else none else none else none else none else
  (fT b 41).bind fun LF=>
  some LF.2
def kO (dh:rT):Nat→(List UInt8)→Int→Int→(List UInt8)→(List bh)→Int→(List Int)→Int→Int→Option (List UInt8)
 | 0,_,_,_,_,_,_,_,_,_=>none
 | k+1,b,nT,rN,rO,h_,rM,ko,o_,cV=>if cV<o_ then
  if 0≤cV then
  if cV<(ko.length:Int) then
  if (h_.length:Int)≤cV then
  some b else
  if 0<cV then
  (pS nT).bind fun zU=>
  if aG.length+zU.1.length≤9223372036854775807 then
  if (aG++zU.1).length+aG.length≤9223372036854775807 then
  (bf b ((aG++zU.1)++aG)).bind fun LG=>
  if 0≤cV then
  if cV<(h_.length:Int) then
  (dh LG.2.2 (h_.getD cV.toNat bh.z) (ko.getD cV.toNat 0)).bind fun LH=>
  kO dh k LH nT rN rO h_ rM ko o_ (aj (cV+1)) else none else none else none else none else
  if 0≤cV then
  if cV<(h_.length:Int) then
  (dh b (h_.getD cV.toNat bh.z) (ko.getD cV.toNat 0)).bind fun LI=>
  kO dh k LI nT rN rO h_ rM ko o_ (aj (cV+1)) else none else none else none else none else
  some b
def Cy (dh:rT) (k:Nat) (b:List UInt8) (e:bh) (asked:Int):Option (List UInt8):=(rR e.Kind).bind fun r1=>
 if r1<asked then
 (fT b 40).bind fun r2=>
 if e.Kind=1 then
 (oB e.N 10).bind fun r3=>
 (bf r2.2 r3).bind fun r4=>
 (gM e.Kind).bind fun r5=>
 kN dh k r4.2.2 e.Kind e.N e.Name e.Kids e.At r5 (r5.length:Int) 0 else
 if e.Kind=3 then
 (fT r2.2 36).bind fun r6=>
 (gM e.Kind).bind fun r7=>
 kN dh k r6.2 e.Kind e.N e.Name e.Kids e.At r7 (r7.length:Int) 0 else
 if e.Kind=2 then
 (bf r2.2 e.Name).bind fun r8=>
 (gM e.Kind).bind fun r9=>
 kN dh k r8.2.2 e.Kind e.N e.Name e.Kids e.At r9 (r9.length:Int) 0 else
 if e.Kind=4 then
 if mg.length+e.Name.length≤9223372036854775807 then
 if (mg++e.Name).length+eY.length≤9223372036854775807 then
 (bf r2.2 ((mg++e.Name)++eY)).bind fun eV=>
 (gM e.Kind).bind fun fI=>
 kN dh k eV.2.2 e.Kind e.N e.Name e.Kids e.At fI (fI.length:Int) 0 else none else none else
 if e.Kind=5 then
 (fT r2.2 45).bind fun fl=>
 (gM e.Kind).bind fun fD=>
 kN dh k fl.2 e.Kind e.N e.Name e.Kids e.At fD (fD.length:Int) 0 else
 if e.Kind=6 then
 (fT r2.2 33).bind fun dB=>
 (gM e.Kind).bind fun iL=>
 kN dh k dB.2 e.Kind e.N e.Name e.Kids e.At iL (iL.length:Int) 0 else
 (gM e.Kind).bind fun r16=>
 kN dh k r2.2 e.Kind e.N e.Name e.Kids e.At r16 (r16.length:Int) 0 else
 if e.Kind=1 then
 (oB e.N 10).bind fun jx=>
 (bf b jx).bind fun jy=>
 (gM e.Kind).bind fun ld=>
 kO dh k jy.2.2 e.Kind e.N e.Name e.Kids e.At ld (ld.length:Int) 0 else
 if e.Kind=3 then
 (fT b 36).bind fun qi=>
 (gM e.Kind).bind fun qj=>
 kO dh k qi.2 e.Kind e.N e.Name e.Kids e.At qj (qj.length:Int) 0 else
 if e.Kind=2 then
 (bf b e.Name).bind fun qk=>
 (gM e.Kind).bind fun mV=>
 kO dh k qk.2.2 e.Kind e.N e.Name e.Kids e.At mV (mV.length:Int) 0 else
 if e.Kind=4 then
 if mg.length+e.Name.length≤9223372036854775807 then
 if (mg++e.Name).length+eY.length≤9223372036854775807 then
 (bf b ((mg++e.Name)++eY)).bind fun tn=>
 (gM e.Kind).bind fun oE=>
 kO dh k tn.2.2 e.Kind e.N e.Name e.Kids e.At oE (oE.length:Int) 0 else none else none else
 if e.Kind=5 then
 (fT b 45).bind fun zT=>
 (gM e.Kind).bind fun Er=>
 kO dh k zT.2 e.Kind e.N e.Name e.Kids e.At Er (Er.length:Int) 0 else
 if e.Kind=6 then
 (fT b 33).bind fun Lz=>
 (gM e.Kind).bind fun Es=>
 kO dh k Lz.2 e.Kind e.N e.Name e.Kids e.At Es (Es.length:Int) 0 else
 (gM e.Kind).bind fun Et=>
 kO dh k b e.Kind e.N e.Name e.Kids e.At Et (Et.length:Int) 0
def uM:Nat→(List UInt8)→bh→Int→Option (List UInt8)
 | 0,_,_,_=>none
 | k+1,x0,x1,x2=>Cy (uM k) k x0 x1 x2
def xT  (b:List UInt8) (e:bh) (asked:Int):Option (List UInt8):=cv (fun k (x:List UInt8×bh×Int)=>uM k x.1 x.2.1 x.2.2) (b,e,asked)
theorem Ix (dh:rT) (k:Nat) (I5:aM Tryd.prog S (rS dh)):aM Tryd.prog S (rS (Cy dh k)):=
 x_ pk ⟨[xR rR,xL,Ce,kJ,Cw gM,xP pS,rS dh],[],false,false,false,some (89,[.tmp 0, .const (.int .u8 41)]),[xL]⟩ ⟨Cu,Ec,Ea,k9,Is,Ct,I5,trivial⟩ (all_cons Ld all_nil) (all_nil) Tryd.func90 [] k (fun k=> [(0,⟨[0,4,55,56,57],[q7,Eg,qh,q5,q5],fun x=>kN dh k x.1 x.2.1.1 x.2.1.2.1 x.2.1.2.2.1 x.2.1.2.2.2.1 x.2.1.2.2.2.2 x.2.2.1 x.2.2.2.1 x.2.2.2.2,true⟩),(0,⟨[0,4,55,56,57],[q7,Eg,qh,q5,q5],fun x=>kO dh k x.1 x.2.1.1 x.2.1.2.1 x.2.1.2.2.1 x.2.1.2.2.2.1 x.2.1.2.2.2.2 x.2.2.1 x.2.2.2.1 x.2.2.2.2,false⟩)]) ⟨fun _=>rfl,fun _=>rfl,trivial⟩ (fun _=>by kernel_rfl) (fun _=>by kernel_rfl) (by kernel_rfl)
theorem Iw:aM Tryd.prog S (rS (xT)):=oV (fun k x=>uM k x.1 x.2.1 x.2.2) (fun _=>rfl) Tryd.func90 (by kernel_rfl) (fun _=>rfl) fun k h=>Ix (uM k) k h
abbrev Ip:=bh→Option (List UInt8)
abbrev xO (f:Ip):Entry S:=⟨71,[vI],[q1],fun x=>f x⟩
def rQ  (e:bh):Option (List UInt8):=(xT [] (bh.mk e.Kind e.N e.Name e.Kids e.At) 1).bind fun r1=>
 (kG r1).bind fun r2=>
 some r2.1
theorem Cr:aM Tryd.prog S (xO (rQ)):=
 gh pk [rS xT,nS] ⟨Iw,oC,trivial⟩ Tryd.func71 (by kernel_rfl) (fun _=>by kernel_rfl) (by kernel_rfl)
abbrev mK:=(List UInt8)→(List bF)→Int→Option (List UInt8)
abbrev pG (f:mK):Entry S:=⟨70,[q7,tj,q5],[],fun x=>f x.1 x.2.1 x.2.2⟩
abbrev GX:=(List UInt8)→bF→Int→Option (List UInt8)
abbrev Bw (f:GX):Entry S:=⟨88,[q7,Eh,q5],[],fun x=>f x.1 x.2.1 x.2.2⟩
def wY (dH:mK):Nat→(List UInt8)→Int→Int→(List UInt8)→(List UInt8)→(List bh)→Int→(List bF)→(List bF)→Int→(List UInt8)→(List bh)→Int→Int→Option (List UInt8)
 | 0,_,_,_,_,_,_,_,_,_,_,_,_,_,_=>none
 | k+1,b,aD,hY,cA,gz,Br,wT,ry,ru,GR,x,kn,lE,je=>if je<lE then
  if 0≤je then
  if je<(kn.length:Int) then
  (rQ (bh.mk ((kn.getD je.toNat bh.z).Kind) ((kn.getD je.toNat bh.z).N) ((kn.getD je.toNat bh.z).Name) ((kn.getD je.toNat bh.z).Kids) ((kn.getD je.toNat bh.z).At))).bind fun r1=>
  wY dH k b aD hY cA gz Br wT ry ru GR r1 kn lE (aj (je+1)) else none else none else
  if 0<(Br.length:Int) then
  if fJ.length+x.length≤9223372036854775807 then
  if (fJ++x).length+eY.length≤9223372036854775807 then
  if hY=1 then
  if cA.length+fM.length≤9223372036854775807 then
  if (cA++fM).length+x.length≤9223372036854775807 then
  if ((cA++fM)++x).length+bq.length≤9223372036854775807 then
  (bf b (((cA++fM)++x)++bq)).bind fun r2=>
  some r2.2.2 else none else none else none else
  if hY=2 then
  if jE.length+gz.length≤9223372036854775807 then
  if (jE++gz).length+((fJ++x)++eY).length≤9223372036854775807 then
  if ((jE++gz)++((fJ++x)++eY)).length+bq.length≤9223372036854775807 then
  (bf b (((jE++gz)++((fJ++x)++eY))++bq)).bind fun r3=>
  some r3.2.2 else none else none else none else
  if hY=3 then
  if gp.length+cA.length≤9223372036854775807 then
  if (gp++cA).length+aG.length≤9223372036854775807 then
  if ((gp++cA)++aG).length+gz.length≤9223372036854775807 then
  if (((gp++cA)++aG)++gz).length+((fJ++x)++eY).length≤9223372036854775807 then
  if ((((gp++cA)++aG)++gz)++((fJ++x)++eY)).length+bq.length≤9223372036854775807 then
  (bf b (((((gp++cA)++aG)++gz)++((fJ++x)++eY))++bq)).bind fun r4=>
  some r4.2.2 else none else none else none else none else none else
  if hY=4 then
  if jD.length+cA.length≤9223372036854775807 then
  if (jD++cA).length+((fJ++x)++eY).length≤9223372036854775807 then
  if ((jD++cA)++((fJ++x)++eY)).length+bq.length≤9223372036854775807 then
  (bf b (((jD++cA)++((fJ++x)++eY))++bq)).bind fun r5=>
  some r5.2.2 else none else none else none else
  if hY=5 then
  if me.length+cA.length≤9223372036854775807 then
  if (me++cA).length+bq.length≤9223372036854775807 then
  (bf b ((me++cA)++bq)).bind fun r6=>
  some r6.2.2 else none else none else
  if hY=6 then
  if jc.length+((fJ++x)++eY).length≤9223372036854775807 then
  if (jc++((fJ++x)++eY)).length+aG.length≤9223372036854775807 then
  (bf b ((jc++((fJ++x)++eY))++aG)).bind fun r7=>
  (dH r7.2.2 ry aD).bind fun r8=>
  if 0<(ru.length:Int) then
  (bf r8 tG).bind fun r9=>
  (dH r9.2.2 ru aD).bind fun eV=>
  some eV else
  some r8 else none else none else
  if hY=7 then
  (gT wT).bind fun fI=>
  if lA.length+fI.length≤9223372036854775807 then
  if (lA++fI).length+aG.length≤9223372036854775807 then
  (bf b ((lA++fI)++aG)).bind fun fl=>
  (dH fl.2.2 ry aD).bind fun fD=>
  some fD else none else none else
  some b else none else none else
  if hY=1 then
  if cA.length+fM.length≤9223372036854775807 then
  if (cA++fM).length+x.length≤9223372036854775807 then
  if ((cA++fM)++x).length+bq.length≤9223372036854775807 then
  (bf b (((cA++fM)++x)++bq)).bind fun dB=>
  some dB.2.2 else none else none else none else
  if hY=2 then
  if jE.length+gz.length≤9223372036854775807 then
  if (jE++gz).length+([]:List UInt8).length≤9223372036854775807 then
  if ((jE++gz)++ []).length+bq.length≤9223372036854775807 then
  (bf b (((jE++gz)++ [])++bq)).bind fun iL=>
  some iL.2.2 else none else none else none else
  if hY=3 then
  if gp.length+cA.length≤9223372036854775807 then
  if (gp++cA).length+aG.length≤9223372036854775807 then
  if ((gp++cA)++aG).length+gz.length≤9223372036854775807 then
  if (((gp++cA)++aG)++gz).length+([]:List UInt8).length≤9223372036854775807 then
  if ((((gp++cA)++aG)++gz)++ []).length+bq.length≤9223372036854775807 then
  (bf b (((((gp++cA)++aG)++gz)++ [])++bq)).bind fun r16=>
  some r16.2.2 else none else none else none else none else none else
  if hY=4 then
  if jD.length+cA.length≤9223372036854775807 then
  if (jD++cA).length+([]:List UInt8).length≤9223372036854775807 then
  if ((jD++cA)++ []).length+bq.length≤9223372036854775807 then
  (bf b (((jD++cA)++ [])++bq)).bind fun jx=>
  some jx.2.2 else none else none else none else
  if hY=5 then
  if me.length+cA.length≤9223372036854775807 then
  if (me++cA).length+bq.length≤9223372036854775807 then
  (bf b ((me++cA)++bq)).bind fun jy=>
  some jy.2.2 else none else none else
  if hY=6 then
  if jc.length+([]:List UInt8).length≤9223372036854775807 then
  if (jc++ []).length+aG.length≤9223372036854775807 then
  (bf b ((jc++ [])++aG)).bind fun ld=>
  (dH ld.2.2 ry aD).bind fun qi=>
  if 0<(ru.length:Int) then
  (bf qi tG).bind fun qj=>
  (dH qj.2.2 ru aD).bind fun qk=>
  some qk else
  some qi else none else none else
  if hY=7 then
  (gT wT).bind fun mV=>
  if lA.length+mV.length≤9223372036854775807 then
  if (lA++mV).length+aG.length≤9223372036854775807 then
  (bf b ((lA++mV)++aG)).bind fun tn=>
  (dH tn.2.2 ry aD).bind fun oE=>
  some oE else none else none else
  some b
def Bv (dH:mK) (k:Nat) (b:List UInt8) (a:bF) (aD:Int):Option (List UInt8):=wY dH k b aD a.Kind a.Name a.Event a.X a.N a.rq a.q_ a.At [] a.X (a.X.length:Int) 0
def wX (dH:mK)  (b:List UInt8) (a:bF) (aD:Int):Option (List UInt8):=cv (fun k (x:List UInt8×bF×Int)=>Bv dH k x.1 x.2.1 x.2.2) (b,a,aD)
theorem GW (dH:mK) (yw:aM Tryd.prog S (pG dH)):aM Tryd.prog S (Bw (wX dH)):=fO (fun k x=>Bv dH k x.1 x.2.1 x.2.2) (fun _=>rfl) fun k=>
 fc pk [xO rQ,kJ,pG dH,pQ] ⟨Cr,k9,yw,qe,trivial⟩ Tryd.func88 [] k (fun k=> [(0,⟨[0,2,4,6,11,12,13],[q7,q5,Lp,q1,zQ,q5,q5],fun x=>wY dH k x.1 x.2.1 x.2.2.1.1 x.2.2.1.2.1 x.2.2.1.2.2.1 x.2.2.1.2.2.2.1 x.2.2.1.2.2.2.2.1 x.2.2.1.2.2.2.2.2.1 x.2.2.1.2.2.2.2.2.2.1 x.2.2.1.2.2.2.2.2.2.2 x.2.2.2.1 x.2.2.2.2.1 x.2.2.2.2.2.1 x.2.2.2.2.2.2,false⟩)]) ⟨fun _=>rfl,trivial⟩ (fun _=>by kernel_rfl) (fun _=>by kernel_rfl) (by kernel_rfl)
def wW (dH:mK):Nat→(List UInt8)→Int→(List bF)→Int→Int→Option (List UInt8)
 | 0,_,_,_,_,_=>none
 | k+1,b,aD,hJ,Gs,jP=>if jP<Gs then
  if 0≤jP then
  if jP<(hJ.length:Int) then
  (mU cU (aj (aD+1))).bind fun r3=>
  (bf b r3).bind fun r4=>
  (wX dH r4.2.2 (bF.mk ((hJ.getD jP.toNat bF.z).Kind) ((hJ.getD jP.toNat bF.z).Name) ((hJ.getD jP.toNat bF.z).Event) ((hJ.getD jP.toNat bF.z).X) ((hJ.getD jP.toNat bF.z).N) ((hJ.getD jP.toNat bF.z).rq) ((hJ.getD jP.toNat bF.z).q_) ((hJ.getD jP.toNat bF.z).At)) (aj (aD+1))).bind fun r5=>
  (fT r5 10).bind fun r6=>
  wW dH k r6.2 aD hJ Gs (aj (jP+1)) else none else none else
  (mU cU aD).bind fun r7=>
  if r7.length+nk.length≤9223372036854775807 then
  (bf b (r7++nk)).bind fun r8=>
  some r8.2.2 else none
def Bu (dH:mK) (k:Nat) (b:List UInt8) (l:List bF) (aD:Int):Option (List UInt8):=if (l.length:Int)=0 then
 (bf b Fu).bind fun r1=>
 some r1.2.2 else
 (bf b Ft).bind fun r2=>
 wW dH k r2.2.2 aD l (l.length:Int) 0
def uq:Nat→(List UInt8)→(List bF)→Int→Option (List UInt8)
 | 0,_,_,_=>none
 | k+1,x0,x1,x2=>Bu (uq k) k x0 x1 x2
def wV  (b:List UInt8) (l:List bF) (aD:Int):Option (List UInt8):=cv (fun k (x:List UInt8×List bF×Int)=>uq k x.1 x.2.1 x.2.2) (b,l,aD)
theorem GV (dH:mK) (k:Nat) (yw:aM Tryd.prog S (pG dH)):aM Tryd.prog S (pG (Bu dH k)):=
 fc pk [kJ,xK,Bw (wX dH),xL] ⟨k9,zI,GW dH yw,Ec,trivial⟩ Tryd.func70 [] k (fun k=> [(0,⟨[0,2,15,16,17],[q7,q5,tj,q5,q5],fun x=>wW dH k x.1 x.2.1 x.2.2.1 x.2.2.2.1 x.2.2.2.2,false⟩)]) ⟨fun _=>rfl,trivial⟩ (fun _=>by kernel_rfl) (fun _=>by kernel_rfl) (by kernel_rfl)
theorem GU:aM Tryd.prog S (pG (wV)):=oV (fun k x=>uq k x.1 x.2.1 x.2.2) (fun _=>rfl) Tryd.func70 (by kernel_rfl) (fun _=>rfl) fun k h=>GV (uq k) k h
abbrev GS:=(List bF)→Int→Option (List UInt8)
abbrev wU (f:GS):Entry S:=⟨53,[tj,q5],[q1],fun x=>f x.1 x.2⟩
def mJ  (l:List bF) (aD:Int):Option (List UInt8):=(wV [] l (max aD 0)).bind fun r1=>(kG r1).bind fun r2=>some r2.1
theorem Bt:aM Tryd.prog S (wU (mJ)):=
 gh pk [pG wV,nS] ⟨GU,oC,trivial⟩ Tryd.func53 (by kernel_rfl) (fun _=>by kernel_rfl) (by kernel_rfl)
abbrev HP:=(List UInt8)→fS→Int→Option (List UInt8)
abbrev BZ (f:HP):Entry S:=⟨54,[q7,Ei,q5],[],fun x=>f x.1 x.2.1 x.2.2⟩
def uE:Nat→(List UInt8)→Int→(List UInt8)→(List bh)→(List UInt8)→(List bF)→Int→(List bh)→Int→Int→Option (List UInt8)
 | 0,_,_,_,_,_,_,_,_,_,_=>none
 | k+1,b,aD,Nt,Nu,wz,tR,Ns,o9,Gt,mA=>if mA<Gt then
  if 0≤mA then
  if mA<(o9.length:Int) then
  (rQ (bh.mk ((o9.getD mA.toNat bh.z).Kind) ((o9.getD mA.toNat bh.z).N) ((o9.getD mA.toNat bh.z).Name) ((o9.getD mA.toNat bh.z).Kids) ((o9.getD mA.toNat bh.z).At))).bind fun r5=>
  if bW.length+r5.length≤9223372036854775807 then
  if (bW++r5).length+cx.length≤9223372036854775807 then
  (bf b ((bW++r5)++cx)).bind fun r6=>
  uE k r6.2.2 aD Nt Nu wz tR Ns o9 Gt (aj (mA+1)) else none else none else none else none else
  if wz≠ [] then
  if aX.length+wz.length≤9223372036854775807 then
  (bf b (aX++wz)).bind fun r7=>
  if (tR.length:Int)=0 then
  (bf r7.2.2 bQ).bind fun r8=>
  some r8.2.2 else
  (mJ tR aD).bind fun r9=>
  if aG.length+r9.length≤9223372036854775807 then
  if (aG++r9).length+eW.length≤9223372036854775807 then
  (bf r7.2.2 ((aG++r9)++eW)).bind fun eV=>
  some eV.2.2 else none else none else none else
  if (tR.length:Int)=0 then
  (bf b bQ).bind fun fI=>
  some fI.2.2 else
  (mJ tR aD).bind fun fl=>
  if aG.length+fl.length≤9223372036854775807 then
  if (aG++fl).length+eW.length≤9223372036854775807 then
  (bf b ((aG++fl)++eW)).bind fun fD=>
  some fD.2.2 else none else none
def BY (k:Nat) (b:List UInt8) (t:fS) (aD:Int):Option (List UInt8):=(mU cU aD).bind fun r1=>
 (bf b r1).bind fun r2=>
 if t.Event= [] then
 (bf r2.2.2 dF).bind fun r3=>
 uE k r3.2.2 aD t.Event t.Guard t.Target t.fP t.At t.Guard (t.Guard.length:Int) 0 else
 if c_.length+t.Event.length≤9223372036854775807 then
 (bf r2.2.2 (c_++t.Event)).bind fun r4=>
 uE k r4.2.2 aD t.Event t.Guard t.Target t.fP t.At t.Guard (t.Guard.length:Int) 0 else none
def xA  (b:List UInt8) (t:fS) (aD:Int):Option (List UInt8):=cv (fun k (x:List UInt8×fS×Int)=>BY k x.1 x.2.1 x.2.2) (b,t,aD)
theorem HO:aM Tryd.prog S (BZ (xA)):=fO (fun k x=>BY k x.1 x.2.1 x.2.2) (fun _=>rfl) fun k=>
 fc pk [xK,kJ,xO rQ,wU mJ] ⟨zI,k9,Cr,Bt,trivial⟩ Tryd.func54 [] k (fun k=> [(0,⟨[0,2,4,23,24,25],[q7,q5,Lq,zQ,q5,q5],fun x=>uE k x.1 x.2.1 x.2.2.1.1 x.2.2.1.2.1 x.2.2.1.2.2.1 x.2.2.1.2.2.2.1 x.2.2.1.2.2.2.2 x.2.2.2.1 x.2.2.2.2.1 x.2.2.2.2.2,false⟩)]) ⟨fun _=>rfl,trivial⟩ (fun _=>by kernel_rfl) (fun _=>by kernel_rfl) (by kernel_rfl)
abbrev rJ:=(List UInt8)→bL→Int→Option (List UInt8)
abbrev rI (f:rJ):Entry S:=⟨38,[q7,Ej,q5],[],fun x=>f x.1 x.2.1 x.2.2⟩
def xz (gY:rJ):Nat→(List UInt8)→Int→(List UInt8)→(List bL)→Int→Int→Option (List UInt8)
 | 0,_,_,_,_,_,_=>none
 | k+1,b,aD,pL,mz,Gq,kj=>if kj<Gq then
  if 0≤kj then
  if kj<(mz.length:Int) then
  (gY b (bL.mk ((mz.getD kj.toNat bL.z).Kind) ((mz.getD kj.toNat bL.z).Name) ((mz.getD kj.toNat bL.z).Entry) ((mz.getD kj.toNat bL.z).Exit) ((mz.getD kj.toNat bL.z).Trans) ((mz.getD kj.toNat bL.z).Kids) ((mz.getD kj.toNat bL.z).At)) (aj (aD+1))).bind fun iL=>
  xz gY k iL aD pL mz Gq (aj (kj+1)) else none else none else
  if pL.length+jF.length≤9223372036854775807 then
  (bf b (pL++jF)).bind fun r16=>
  some r16.2.2 else none
def pN (gY:rJ):Nat→(List UInt8)→Int→Int→(List UInt8)→(List bF)→(List bF)→(List fS)→(List bL)→Int→(List UInt8)→(List fS)→Int→Int→Option (List UInt8)
 | 0,_,_,_,_,_,_,_,_,_,_,_,_,_=>none
 | k+1,b,aD,qE,qF,qC,qD,mc,kf,qA,pL,Bh,Gy,uf=>if uf<Gy then
  if 0≤uf then
  if uf<(Bh.length:Int) then
  (xA b (Bh.getD uf.toNat fS.z) (aj (aD+1))).bind fun dB=>
  pN gY k dB aD qE qF qC qD mc kf qA pL Bh Gy (aj (uf+1)) else none else none else
  xz gY k b aD pL kf (kf.length:Int) 0
def BW (gY:rJ) (k:Nat) (b:List UInt8) (s:bL) (aD:Int):Option (List UInt8):=(mU cU aD).bind fun r1=>
 (xB s.Kind).bind fun r2=>
 if r1.length+r2.length≤9223372036854775807 then
 if (r1++r2).length+s.Name.length≤9223372036854775807 then
 (bf b ((r1++r2)++s.Name)).bind fun r3=>
 if s.Kind=3 then
 (bf r3.2.2 bQ).bind fun r4=>
 some r4.2.2 else
 if s.Kind=4 then
 (bf r3.2.2 bQ).bind fun r5=>
 some r5.2.2 else
 if (aj ((aj ((aj ((s.Entry.length:Int)+(s.Exit.length:Int)))+(s.Trans.length:Int)))+(s.Kids.length:Int)))=0 then
 (bf r3.2.2 MW).bind fun r6=>
 some r6.2.2 else
 (bf r3.2.2 AN).bind fun r7=>
 if 0<(s.Entry.length:Int) then
 if r1.length+cU.length≤9223372036854775807 then
 if (r1++cU).length+nh.length≤9223372036854775807 then
 (mJ s.Entry (aj (aD+1))).bind fun r8=>
 if ((r1++cU)++nh).length+r8.length≤9223372036854775807 then
 if (((r1++cU)++nh)++r8).length+eW.length≤9223372036854775807 then
 (bf r7.2.2 ((((r1++cU)++nh)++r8)++eW)).bind fun r9=>
 if 0<(s.Exit.length:Int) then
 if r1.length+cU.length≤9223372036854775807 then
 if (r1++cU).length+gV.length≤9223372036854775807 then
 (mJ s.Exit (aj (aD+1))).bind fun eV=>
 if ((r1++cU)++gV).length+eV.length≤9223372036854775807 then
 if (((r1++cU)++gV)++eV).length+eW.length≤9223372036854775807 then
 (bf r9.2.2 ((((r1++cU)++gV)++eV)++eW)).bind fun fI=>
 pN gY k fI.2.2 aD s.Kind s.Name s.Entry s.Exit s.Trans s.Kids s.At r1 s.Trans (s.Trans.length:Int) 0 else none else none else none else none else
 pN gY k r9.2.2 aD s.Kind s.Name s.Entry s.Exit s.Trans s.Kids s.At r1 s.Trans (s.Trans.length:Int) 0 else none else none else none else none else
 if 0<(s.Exit.length:Int) then
 if r1.length+cU.length≤9223372036854775807 then
 if (r1++cU).length+gV.length≤9223372036854775807 then
 (mJ s.Exit (aj (aD+1))).bind fun fl=>
 if ((r1++cU)++gV).length+fl.length≤9223372036854775807 then
 if (((r1++cU)++gV)++fl).length+eW.length≤9223372036854775807 then
 (bf r7.2.2 ((((r1++cU)++gV)++fl)++eW)).bind fun fD=>
 pN gY k fD.2.2 aD s.Kind s.Name s.Entry s.Exit s.Trans s.Kids s.At r1 s.Trans (s.Trans.length:Int) 0 else none else none else none else none else
 pN gY k r7.2.2 aD s.Kind s.Name s.Entry s.Exit s.Trans s.Kids s.At r1 s.Trans (s.Trans.length:Int) 0 else none else none
def uD:Nat→(List UInt8)→bL→Int→Option (List UInt8)
 | 0,_,_,_=>none
 | k+1,x0,x1,x2=>BW (uD k) k x0 x1 x2
def xy  (b:List UInt8) (s:bL) (aD:Int):Option (List UInt8):=cv (fun k (x:List UInt8×bL×Int)=>uD k x.1 x.2.1 x.2.2) (b,s,aD)
theorem HN (gY:rJ) (k:Nat) (I4:aM Tryd.prog S (rI gY)):aM Tryd.prog S (rI (BW gY k)):=
 fc pk [xK,B3 xB,kJ,wU mJ,BZ xA,rI gY] ⟨zI,HQ,k9,Bt,HO,I4,trivial⟩ Tryd.func38 [] k (fun k=> [(0,⟨[0,2,4,6,88,89,90],[q7,q5,zR,q1,Lr,q5,q5],fun x=>pN gY k x.1 x.2.1 x.2.2.1.1 x.2.2.1.2.1 x.2.2.1.2.2.1 x.2.2.1.2.2.2.1 x.2.2.1.2.2.2.2.1 x.2.2.1.2.2.2.2.2.1 x.2.2.1.2.2.2.2.2.2 x.2.2.2.1 x.2.2.2.2.1 x.2.2.2.2.2.1 x.2.2.2.2.2.2,false⟩),(2,⟨[0,2,6,101,102,103],[q7,q5,q1,Ek,q5,q5],fun x=>xz gY k x.1 x.2.1 x.2.2.1 x.2.2.2.1 x.2.2.2.2.1 x.2.2.2.2.2,false⟩)]) ⟨fun _=>rfl,fun _=>rfl,trivial⟩ (fun _=>by kernel_rfl) (fun _=>by kernel_rfl) (by kernel_rfl)
theorem HM:aM Tryd.prog S (rI (xy)):=oV (fun k x=>uD k x.1 x.2.1 x.2.2) (fun _=>rfl) Tryd.func38 (by kernel_rfl) (fun _=>rfl) fun k h=>HN (uD k) k h
abbrev HL:=fF→Option (List UInt8)
abbrev BV (f:HL):Entry S:=⟨26,[El],[q1],fun x=>f x⟩
def xw:Nat→(List UInt8)→(List bL)→Int→Int→Option (List UInt8)
 | 0,_,_,_,_=>none
 | k+1,b,mB,Gx,kq=>if kq<Gx then
  if 0≤kq then
  if kq<(mB.length:Int) then
  (xy b (bL.mk ((mB.getD kq.toNat bL.z).Kind) ((mB.getD kq.toNat bL.z).Name) ((mB.getD kq.toNat bL.z).Entry) ((mB.getD kq.toNat bL.z).Exit) ((mB.getD kq.toNat bL.z).Trans) ((mB.getD kq.toNat bL.z).Kids) ((mB.getD kq.toNat bL.z).At)) 1).bind fun r8=>
  xw k r8 mB Gx (aj (kq+1)) else none else none else
  (bf b jF).bind fun r9=>
  (kG r9.2.2).bind fun eV=>
  some eV.1
def xu:Nat→(List UInt8)→Int→Int→(List br)→(List br)→(List br)→(List bL)→Int→(List UInt8)→(List br)→Int→Int→Option (List UInt8)
 | 0,_,_,_,_,_,_,_,_,_,_,_,_=>none
 | k+1,dZ,gf,ga,dL,dW,dX,eN,dK,b,ue,Gw,pe=>if pe<Gw then
  if 0≤pe then
  if pe<(ue.length:Int) then
  if AQ.length+((ue.getD pe.toNat br.z).Name).length≤9223372036854775807 then
  if (AQ++((ue.getD pe.toNat br.z).Name)).length+bQ.length≤9223372036854775807 then
  (bf b ((AQ++((ue.getD pe.toNat br.z).Name))++bQ)).bind fun r7=>
  xu k dZ gf ga dL dW dX eN dK r7.2.2 ue Gw (aj (pe+1)) else none else none else none else none else
  xw k b eN (eN.length:Int) 0
def xq:Nat→(List UInt8)→Int→Int→(List br)→(List br)→(List br)→(List bL)→Int→(List UInt8)→(List br)→Int→Int→Option (List UInt8)
 | 0,_,_,_,_,_,_,_,_,_,_,_,_=>none
 | k+1,dZ,gf,ga,dL,dW,dX,eN,dK,b,uc,qS,lG=>if lG<qS then
  if 0≤lG then
  if lG<(uc.length:Int) then
  if AI.length+((uc.getD lG.toNat br.z).Name).length≤9223372036854775807 then
  if (AI++((uc.getD lG.toNat br.z).Name)).length+bQ.length≤9223372036854775807 then
  (bf b ((AI++((uc.getD lG.toNat br.z).Name))++bQ)).bind fun r6=>
  xq k dZ gf ga dL dW dX eN dK r6.2.2 uc qS (aj (lG+1)) else none else none else none else none else
  xu k dZ gf ga dL dW dX eN dK b dX (dX.length:Int) 0
def xp:Nat→(List UInt8)→Int→Int→(List br)→(List br)→(List br)→(List bL)→Int→(List UInt8)→(List br)→Int→Int→Option (List UInt8)
 | 0,_,_,_,_,_,_,_,_,_,_,_,_=>none
 | k+1,dZ,gf,ga,dL,dW,dX,eN,dK,b,nF,Gu,lF=>if lF<Gu then
  if 0≤lF then
  if lF<(nF.length:Int) then
  if tJ.length+((nF.getD lF.toNat br.z).Name).length≤9223372036854775807 then
  if (tJ++((nF.getD lF.toNat br.z).Name)).length+fM.length≤9223372036854775807 then
  (oB ((nF.getD lF.toNat br.z).N) 10).bind fun r4=>
  if ((tJ++((nF.getD lF.toNat br.z).Name))++fM).length+r4.length≤9223372036854775807 then
  if (((tJ++((nF.getD lF.toNat br.z).Name))++fM)++r4).length+bQ.length≤9223372036854775807 then
  (bf b ((((tJ++((nF.getD lF.toNat br.z).Name))++fM)++r4)++bQ)).bind fun r5=>
  xp k dZ gf ga dL dW dX eN dK r5.2.2 nF Gu (aj (lF+1)) else none else none else none else none else none else none else
  xq k dZ gf ga dL dW dX eN dK b dW (dW.length:Int) 0
def BU (k:Nat) (c:fF):Option (List UInt8):=if iO.length+c.Name.length≤9223372036854775807 then
 if (iO++c.Name).length+jH.length≤9223372036854775807 then
 (gT c.Steps).bind fun r1=>
 if ((iO++c.Name)++jH).length+r1.length≤9223372036854775807 then
 if (((iO++c.Name)++jH)++r1).length+ni.length≤9223372036854775807 then
 (gT c.Fuel).bind fun r2=>
 if ((((iO++c.Name)++jH)++r1)++ni).length+r2.length≤9223372036854775807 then
 if (((((iO++c.Name)++jH)++r1)++ni)++r2).length+AN.length≤9223372036854775807 then
 (bf [] ((((((iO++c.Name)++jH)++r1)++ni)++r2)++AN)).bind fun r3=>
 xp k c.Name c.Steps c.Fuel c.Vars c.wH c.wQ c.wO c.At r3.2.2 c.Vars (c.Vars.length:Int) 0 else none else none else none else none else none else none
def xo  (c:fF):Option (List UInt8):=cv (fun k (x:fF)=>BU k x) c
theorem HK:aM Tryd.prog S (BV (xo)):=fO (fun k x=>BU k x) (fun _=>rfl) fun k=>
 fc pk [pQ,kJ,Ce,rI xy,nS] ⟨qe,k9,Ea,HM,oC,trivial⟩ Tryd.func26 [] k (fun k=> [(0,⟨[1,3,28,29,30],[oD,q7,zS,q5,q5],fun x=>xp k x.1.1 x.1.2.1 x.1.2.2.1 x.1.2.2.2.1 x.1.2.2.2.2.1 x.1.2.2.2.2.2.1 x.1.2.2.2.2.2.2.1 x.1.2.2.2.2.2.2.2 x.2.1 x.2.2.1 x.2.2.2.1 x.2.2.2.2,false⟩),(2,⟨[1,3,46,47,48],[oD,q7,zS,q5,q5],fun x=>xq k x.1.1 x.1.2.1 x.1.2.2.1 x.1.2.2.2.1 x.1.2.2.2.2.1 x.1.2.2.2.2.2.1 x.1.2.2.2.2.2.2.1 x.1.2.2.2.2.2.2.2 x.2.1 x.2.2.1 x.2.2.2.1 x.2.2.2.2,false⟩),(4,⟨[1,3,59,60,61],[oD,q7,zS,q5,q5],fun x=>xu k x.1.1 x.1.2.1 x.1.2.2.1 x.1.2.2.2.1 x.1.2.2.2.2.1 x.1.2.2.2.2.2.1 x.1.2.2.2.2.2.2.1 x.1.2.2.2.2.2.2.2 x.2.1 x.2.2.1 x.2.2.2.1 x.2.2.2.2,false⟩),(6,⟨[3,72,73,74],[q7,Ek,q5,q5],fun x=>xw k x.1 x.2.1 x.2.2.1 x.2.2.2,false⟩)]) ⟨fun _=>rfl,fun _=>rfl,fun _=>rfl,fun _=>rfl,trivial⟩ (fun _=>by kernel_rfl) (fun _=>by kernel_rfl) (by kernel_rfl)
abbrev M_:=fG→Option (List UInt8)
abbrev FG (f:M_):Entry S:=⟨13,[Em],[q1],fun x=>f x⟩
def wk:Nat→Int→(List fF)→(List aN)→(List aC)→(List an)→(List UInt8)→(List fF)→Int→Int→Option (List UInt8)
 | 0,_,_,_,_,_,_,_,_,_=>none
 | k+1,Au,qB,tF,tE,tD,b,je,Gr,hJ=>if hJ<Gr then
  if 0≤hJ then
  if hJ<(je.length:Int) then
  (xo (je.getD hJ.toNat fF.z)).bind fun r3=>
  (bf b r3).bind fun r4=>
  wk k Au qB tF tE tD r4.2.2 je Gr (aj (hJ+1)) else none else none else
  (kG b).bind fun r5=>
  (oT tF).bind fun r6=>
  if r5.1.length+r6.length≤9223372036854775807 then
  (qL tE).bind fun r7=>
  if (r5.1++r6).length+r7.length≤9223372036854775807 then
  (nr tD).bind fun r8=>
  if ((r5.1++r6)++r7).length+r8.length≤9223372036854775807 then
  some (((r5.1++r6)++r7)++r8) else none else none else none
def wj (k:Nat) (s:fG):Option (List UInt8):=(gT s.qV).bind fun r1=>
 if nq.length+r1.length≤9223372036854775807 then
 if (nq++r1).length+bQ.length≤9223372036854775807 then
 (bf [] ((nq++r1)++bQ)).bind fun r2=>
 wk k s.qV s.qX s.Insts s.fZ s.wF r2.2.2 s.qX (s.qX.length:Int) 0 else none else none
def wh  (s:fG):Option (List UInt8):=cv (fun k (x:fG)=>wj k x) s
theorem M9:aM Tryd.prog S (FG (wh)):=fO (fun k x=>wj k x) (fun _=>rfl) fun k=>
 fc pk [pQ,kJ,BV xo,nS,AW oT,AV qL,wg nr] ⟨qe,k9,HK,oC,FF,FD,AU,trivial⟩ Tryd.func13 [] k (fun k=> [(0,⟨[1,3,13,14,15],[En,q7,Ls,q5,q5],fun x=>wk k x.1.1 x.1.2.1 x.1.2.2.1 x.1.2.2.2.1 x.1.2.2.2.2 x.2.1 x.2.2.1 x.2.2.2.1 x.2.2.2.2,false⟩)]) ⟨fun _=>rfl,trivial⟩ (fun _=>by kernel_rfl) (fun _=>by kernel_rfl) (by kernel_rfl)
abbrev L9:=Int→Option (List UInt8)
abbrev Aa (f:L9):Entry S:=⟨45,[q5],[q1],fun x=>f x⟩
def Ab:Nat→Int→(List UInt8)→Int→Option (List UInt8)
 | 0,_,_,_=>none
 | k+1,n,s,i=>if i<n then
  if s.length+cU.length≤9223372036854775807 then
  Ab k n (s++cU) (aj (i+1)) else none else
  some s
def EX (k:Nat) (n:Int):Option (List UInt8):=Ab k n [] 0
def qv  (n:Int):Option (List UInt8):=cv (fun k (x:Int)=>EX k x) n
theorem EY:aM Tryd.prog S (Aa (qv)):=fO (fun k x=>EX k x) (fun _=>rfl) fun k=>
 fc pk [] trivial Tryd.func45 [] k (fun k=> [(0,⟨[0,3,4],[q5,q1,q5],fun x=>Ab k x.1 x.2.1 x.2.2,false⟩)]) ⟨fun _=>rfl,trivial⟩ (fun _=>by kernel_rfl) (fun _=>by kernel_rfl) (by kernel_rfl)
abbrev Mi:=Int→(List UInt8)→Option (List UInt8)
abbrev vS (f:Mi):Entry S:=⟨31,[q5,q1],[q1],fun x=>f x.1 x.2⟩
def cw  (aD:Int) (s:List UInt8):Option (List UInt8):=(qv aD).bind fun r1=>
 if r1.length+s.length≤9223372036854775807 then
 if (r1++s).length+eW.length≤9223372036854775807 then
 some ((r1++s)++eW) else none else none
theorem Aj:aM Tryd.prog S (vS (cw)):=
 gh pk [Aa qv] ⟨EY,trivial⟩ Tryd.func31 (by kernel_rfl) (fun _=>by kernel_rfl) (by kernel_rfl)
abbrev L5:=Int→Option Int
abbrev z_ (f:L5):Entry S:=⟨77,[q5],[q5],fun x=>f x⟩
def tu  (k_:Int):Option Int:=if k_=19 then
 some 1 else
 if k_=18 then
 some 2 else
 if 12≤k_ then
 if k_≤17 then
 some 3 else
 if k_=10 then
 some 4 else
 if k_=11 then
 some 4 else
 if k_=7 then
 some 5 else
 if k_=8 then
 some 5 else
 if k_=9 then
 some 5 else
 if k_=5 then
 some 6 else
 if k_=6 then
 some 6 else
 some 7 else
 if k_=10 then
 some 4 else
 if k_=11 then
 some 4 else
 if k_=7 then
 some 5 else
 if k_=8 then
 some 5 else
 if k_=9 then
 some 5 else
 if k_=5 then
 some 6 else
 if k_=6 then
 some 6 else
 some 7
theorem EV:aM Tryd.prog S (z_ (tu)):=
 gh pk [] trivial Tryd.func77 (by kernel_rfl) (fun _=>by kernel_rfl) (by kernel_rfl)
abbrev L8:=Int→Option (List UInt8)
abbrev EW (f:L8):Entry S:=⟨78,[q5],[q1],fun x=>f x⟩
def nc  (k_:Int):Option (List UInt8):=if 0≤k_ then
 if k_<(Fb.length:Int) then
 some (Fb.getD k_.toNat []) else none else none
theorem L6:aM Tryd.prog S (EW (nc)):=
 gh pk [] trivial Tryd.func78 (by kernel_rfl) (fun _=>by kernel_rfl) (by kernel_rfl)
abbrev tr:=bh→Option (List UInt8)
abbrev m_ (f:tr):Entry S:=⟨61,[vI],[q1],fun x=>f x⟩
abbrev L4:=bh→Int→Option (List UInt8)
abbrev EU (f:L4):Entry S:=⟨79,[vI,q5],[q1],fun x=>f x.1 x.2⟩
def jA (fq:tr)  (e:bh) (asks:Int):Option (List UInt8):=(tu e.Kind).bind fun r1=>
 if r1<asks then
 (fq (bh.mk e.Kind e.N e.Name e.Kids e.At)).bind fun r2=>
 if fJ.length+r2.length≤9223372036854775807 then
 if (fJ++r2).length+eY.length≤9223372036854775807 then
 some ((fJ++r2)++eY) else none else none else
 (fq (bh.mk e.Kind e.N e.Name e.Kids e.At)).bind fun r3=>
 some r3
theorem L3 (fq:tr) (yx:aM Tryd.prog S (m_ fq)):aM Tryd.prog S (EU (jA fq)):=
 gh pk [z_ tu,m_ fq] ⟨EV,yx,trivial⟩ Tryd.func79 (by kernel_rfl) (fun _=>by kernel_rfl) (by kernel_rfl)
def ET (fq:tr) (k:Nat) (e:bh):Option (List UInt8):=(tu e.Kind).bind fun r1=>
 if e.Kind=1 then
 (jz e.N).bind fun r2=>
 some r2 else
 if e.Kind=2 then
 some e.Name else
 if e.Kind=3 then
 some MV else
 if e.Kind=4 then
 if mg.length+e.Name.length≤9223372036854775807 then
 if (mg++e.Name).length+eY.length≤9223372036854775807 then
 some ((mg++e.Name)++eY) else none else none else
 if e.Kind=5 then
 if e.Kind=5 then
 (nc e.Kind).bind fun r3=>
 if (0:Int)≤0 then
 if 0<(e.Kids.length:Int) then
 (jA fq (e.Kids.getD (0:Int).toNat bh.z) 6).bind fun r4=>
 if r3.length+r4.length≤9223372036854775807 then
 some (r3++r4) else none else none else none else
 if r1=3 then
 if (0:Int)≤0 then
 if 0<(e.Kids.length:Int) then
 (jA fq (e.Kids.getD (0:Int).toNat bh.z) 4).bind fun r5=>
 if r5.length+aG.length≤9223372036854775807 then
 (nc e.Kind).bind fun r6=>
 if (r5++aG).length+r6.length≤9223372036854775807 then
 if ((r5++aG)++r6).length+aG.length≤9223372036854775807 then
 if (0:Int)≤1 then
 if 1<(e.Kids.length:Int) then
 (jA fq (e.Kids.getD (1:Int).toNat bh.z) (aj (r1+1))).bind fun r7=>
 if (((r5++aG)++r6)++aG).length+r7.length≤9223372036854775807 then
 some ((((r5++aG)++r6)++aG)++r7) else none else none else none else none else none else none else none else none else
 if (0:Int)≤0 then
 if 0<(e.Kids.length:Int) then
 (jA fq (e.Kids.getD (0:Int).toNat bh.z) r1).bind fun r8=>
 if r8.length+aG.length≤9223372036854775807 then
 (nc e.Kind).bind fun r9=>
 if (r8++aG).length+r9.length≤9223372036854775807 then
 if ((r8++aG)++r9).length+aG.length≤9223372036854775807 then
 if (0:Int)≤1 then
 if 1<(e.Kids.length:Int) then
 (jA fq (e.Kids.getD (1:Int).toNat bh.z) (aj (r1+1))).bind fun eV=>
 if (((r8++aG)++r9)++aG).length+eV.length≤9223372036854775807 then
 some ((((r8++aG)++r9)++aG)++eV) else none else none else none else none else none else none else none else none else
 if e.Kind=6 then
 (nc e.Kind).bind fun fI=>
 if (0:Int)≤0 then
 if 0<(e.Kids.length:Int) then
 (jA fq (e.Kids.getD (0:Int).toNat bh.z) 6).bind fun fl=>
 if fI.length+fl.length≤9223372036854775807 then
 some (fI++fl) else none else none else none else
 if r1=3 then
 if (0:Int)≤0 then
 if 0<(e.Kids.length:Int) then
 (jA fq (e.Kids.getD (0:Int).toNat bh.z) 4).bind fun fD=>
 if fD.length+aG.length≤9223372036854775807 then
 (nc e.Kind).bind fun dB=>
 if (fD++aG).length+dB.length≤9223372036854775807 then
 if ((fD++aG)++dB).length+aG.length≤9223372036854775807 then
 if (0:Int)≤1 then
 if 1<(e.Kids.length:Int) then
 (jA fq (e.Kids.getD (1:Int).toNat bh.z) (aj (r1+1))).bind fun iL=>
 if (((fD++aG)++dB)++aG).length+iL.length≤9223372036854775807 then
 some ((((fD++aG)++dB)++aG)++iL) else none else none else none else none else none else none else none else none else
 if (0:Int)≤0 then
 if 0<(e.Kids.length:Int) then
 (jA fq (e.Kids.getD (0:Int).toNat bh.z) r1).bind fun r16=>
 if r16.length+aG.length≤9223372036854775807 then
 (nc e.Kind).bind fun jx=>
 if (r16++aG).length+jx.length≤9223372036854775807 then
 if ((r16++aG)++jx).length+aG.length≤9223372036854775807 then
 if (0:Int)≤1 then
 if 1<(e.Kids.length:Int) then
 (jA fq (e.Kids.getD (1:Int).toNat bh.z) (aj (r1+1))).bind fun jy=>
 if (((r16++aG)++jx)++aG).length+jy.length≤9223372036854775807 then
 some ((((r16++aG)++jx)++aG)++jy) else none else none else none else none else none else none else none else none
def vQ:Nat→bh→Option (List UInt8)
 | 0,_=>none
 | k+1,x0=>ET (vQ k) k x0
def mZ  (e:bh):Option (List UInt8):=cv (fun k (x:bh)=>vQ k x) e
theorem L0 (fq:tr) (k:Nat) (yx:aM Tryd.prog S (m_ fq)):aM Tryd.prog S (m_ (ET fq k)):=
 gh pk [z_ tu,mY jz,EW nc,EU (jA fq)] ⟨EV,vP,L6,L3 fq yx,trivial⟩ Tryd.func61 (by kernel_rfl) (fun _=>by kernel_rfl) (by kernel_rfl)
theorem z8:aM Tryd.prog S (m_ (mZ)):=oV (fun k x=>vQ k x) (fun _=>rfl) Tryd.func61 (by kernel_rfl) (fun _=>rfl) fun k h=>L0 (vQ k) k h
abbrev Md:=(List bh)→Option (List UInt8)
abbrev E1 (f:Md):Entry S:=⟨76,[zQ],[q1],fun x=>f x⟩
def qx  (x:List bh):Option (List UInt8):=if (x.length:Int)=0 then
 some [] else
 if (0:Int)≤0 then
 if 0<(x.length:Int) then
 (mZ (x.getD (0:Int).toNat bh.z)).bind fun r1=>
 if fJ.length+r1.length≤9223372036854775807 then
 if (fJ++r1).length+eY.length≤9223372036854775807 then
 some ((fJ++r1)++eY) else none else none else none else none
theorem Mc:aM Tryd.prog S (E1 (qx)):=
 gh pk [m_ mZ] ⟨z8,trivial⟩ Tryd.func76 (by kernel_rfl) (fun _=>by kernel_rfl) (by kernel_rfl)
abbrev qw:=(List bF)→Int→Option (List UInt8)
abbrev oK (f:qw):Entry S:=⟨46,[tj,q5],[q1],fun x=>f x.1 x.2⟩
abbrev Mf:=bF→Int→Option (List UInt8)
abbrev E2 (f:Mf):Entry S:=⟨60,[Eh,q5],[q1],fun x=>f x.1 x.2⟩
def Ad (gq:qw)  (a:bF) (aD:Int):Option (List UInt8):=if a.Kind=1 then
 if a.Name.length+fM.length≤9223372036854775807 then
 if (0:Int)≤0 then
 if 0<(a.X.length:Int) then
 (mZ (a.X.getD (0:Int).toNat bh.z)).bind fun r1=>
 if (a.Name++fM).length+r1.length≤9223372036854775807 then
 if ((a.Name++fM)++r1).length+bq.length≤9223372036854775807 then
 some (((a.Name++fM)++r1)++bq) else none else none else none else none else none else
 if a.Kind=2 then
 if jE.length+a.Event.length≤9223372036854775807 then
 (qx a.X).bind fun r2=>
 if (jE++a.Event).length+r2.length≤9223372036854775807 then
 if ((jE++a.Event)++r2).length+bq.length≤9223372036854775807 then
 some (((jE++a.Event)++r2)++bq) else none else none else none else
 if a.Kind=3 then
 if gp.length+a.Name.length≤9223372036854775807 then
 if (gp++a.Name).length+aG.length≤9223372036854775807 then
 if ((gp++a.Name)++aG).length+a.Event.length≤9223372036854775807 then
 (qx a.X).bind fun r3=>
 if (((gp++a.Name)++aG)++a.Event).length+r3.length≤9223372036854775807 then
 if ((((gp++a.Name)++aG)++a.Event)++r3).length+bq.length≤9223372036854775807 then
 some (((((gp++a.Name)++aG)++a.Event)++r3)++bq) else none else none else none else none else none else
 if a.Kind=4 then
 if jD.length+a.Name.length≤9223372036854775807 then
 (qx a.X).bind fun r4=>
 if (jD++a.Name).length+r4.length≤9223372036854775807 then
 if ((jD++a.Name)++r4).length+bq.length≤9223372036854775807 then
 some (((jD++a.Name)++r4)++bq) else none else none else none else
 if a.Kind=5 then
 if me.length+a.Name.length≤9223372036854775807 then
 if (me++a.Name).length+bq.length≤9223372036854775807 then
 some ((me++a.Name)++bq) else none else none else
 if a.Kind=7 then
 (jz a.N).bind fun r5=>
 if lA.length+r5.length≤9223372036854775807 then
 if (lA++r5).length+aG.length≤9223372036854775807 then
 (gq a.rq aD).bind fun r6=>
 if ((lA++r5)++aG).length+r6.length≤9223372036854775807 then
 some (((lA++r5)++aG)++r6) else none else none else none else
 (qx a.X).bind fun r7=>
 if jc.length+r7.length≤9223372036854775807 then
 if (jc++r7).length+aG.length≤9223372036854775807 then
 (gq a.rq aD).bind fun r8=>
 if ((jc++r7)++aG).length+r8.length≤9223372036854775807 then
 if 0<(a.q_.length:Int) then
 if (((jc++r7)++aG)++r8).length+tG.length≤9223372036854775807 then
 (gq a.q_ aD).bind fun r9=>
 if ((((jc++r7)++aG)++r8)++tG).length+r9.length≤9223372036854775807 then
 some (((((jc++r7)++aG)++r8)++tG)++r9) else none else none else
 some (((jc++r7)++aG)++r8) else none else none else none
theorem Me (gq:qw) (yz:aM Tryd.prog S (oK gq)):aM Tryd.prog S (E2 (Ad gq)):=
 gh pk [m_ mZ,E1 qx,mY jz,oK gq] ⟨z8,Mc,vP,yz,trivial⟩ Tryd.func60 (by kernel_rfl) (fun _=>by kernel_rfl) (by kernel_rfl)
def Ac (gq:qw):Nat→(List bF)→Int→(List UInt8)→Int→Option (List UInt8)
 | 0,_,_,_,_=>none
 | k+1,l,n,s,i=>if i<(l.length:Int) then
  (qv (aj (n+1))).bind fun r1=>
  if s.length+r1.length≤9223372036854775807 then
  if 0≤i then
  if i<(l.length:Int) then
  (Ad gq (l.getD i.toNat bF.z) (aj (n+1))).bind fun r2=>
  if (s++r1).length+r2.length≤9223372036854775807 then
  if ((s++r1)++r2).length+eW.length≤9223372036854775807 then
  Ac gq k l n (((s++r1)++r2)++eW) (aj (i+1)) else none else none else none else none else none else
  (qv n).bind fun r3=>
  if s.length+r3.length≤9223372036854775807 then
  if (s++r3).length+nk.length≤9223372036854775807 then
  some ((s++r3)++nk) else none else none
def EZ (gq:qw) (k:Nat) (l:List bF) (aD:Int):Option (List UInt8):=if (l.length:Int)=0 then
 some Fu else
 Ac gq k l (max aD 0) Ft 0
def vR:Nat→(List bF)→Int→Option (List UInt8)
 | 0,_,_=>none
 | k+1,x0,x1=>EZ (vR k) k x0 x1
def gF  (l:List bF) (aD:Int):Option (List UInt8):=cv (fun k (x:List bF×Int)=>vR k x.1 x.2) (l,aD)
theorem L_ (gq:qw) (k:Nat) (yz:aM Tryd.prog S (oK gq)):aM Tryd.prog S (oK (EZ gq k)):=
 fc pk [Aa qv,E2 (Ad gq)] ⟨EY,Me gq yz,trivial⟩ Tryd.func46 [] k (fun k=> [(0,⟨[0,5,6,7],[tj,q5,q1,q5],fun x=>Ac gq k x.1 x.2.1 x.2.2.1 x.2.2.2,false⟩)]) ⟨fun _=>rfl,trivial⟩ (fun _=>by kernel_rfl) (fun _=>by kernel_rfl) (by kernel_rfl)
theorem E0:aM Tryd.prog S (oK (gF)):=oV (fun k x=>vR k x.1 x.2) (fun _=>rfl) Tryd.func46 (by kernel_rfl) (fun _=>rfl) fun k h=>L_ (vR k) k h
abbrev Mm:=fS→Int→Option (List UInt8)
abbrev E6 (f:Mm):Entry S:=⟨47,[Ei,q5],[q1],fun x=>f x.1 x.2⟩
def Am  (t:fS) (aD:Int):Option (List UInt8):=if t.Event≠ [] then
 if c_.length+t.Event.length≤9223372036854775807 then
 if 0<(t.Guard.length:Int) then
 if (c_++t.Event).length+bW.length≤9223372036854775807 then
 if (0:Int)≤0 then
 if 0<(t.Guard.length:Int) then
 (mZ (t.Guard.getD (0:Int).toNat bh.z)).bind fun r1=>
 if ((c_++t.Event)++bW).length+r1.length≤9223372036854775807 then
 if (((c_++t.Event)++bW)++r1).length+cx.length≤9223372036854775807 then
 if t.Target≠ [] then
 if ((((c_++t.Event)++bW)++r1)++cx).length+aX.length≤9223372036854775807 then
 if (((((c_++t.Event)++bW)++r1)++cx)++aX).length+t.Target.length≤9223372036854775807 then
 if (t.fP.length:Int)=0 then
 if ((((((c_++t.Event)++bW)++r1)++cx)++aX)++t.Target).length+bq.length≤9223372036854775807 then
 (cw aD (((((((c_++t.Event)++bW)++r1)++cx)++aX)++t.Target)++bq)).bind fun r2=>
 some r2 else none else
 if ((((((c_++t.Event)++bW)++r1)++cx)++aX)++t.Target).length+aG.length≤9223372036854775807 then
 (gF t.fP aD).bind fun r3=>
 if (((((((c_++t.Event)++bW)++r1)++cx)++aX)++t.Target)++aG).length+r3.length≤9223372036854775807 then
 (cw aD ((((((((c_++t.Event)++bW)++r1)++cx)++aX)++t.Target)++aG)++r3)).bind fun r4=>
 some r4 else none else none else none else none else
 if (t.fP.length:Int)=0 then
 if ((((c_++t.Event)++bW)++r1)++cx).length+bq.length≤9223372036854775807 then
 (cw aD (((((c_++t.Event)++bW)++r1)++cx)++bq)).bind fun r5=>
 some r5 else none else
 if ((((c_++t.Event)++bW)++r1)++cx).length+aG.length≤9223372036854775807 then
 (gF t.fP aD).bind fun r6=>
 if (((((c_++t.Event)++bW)++r1)++cx)++aG).length+r6.length≤9223372036854775807 then
 (cw aD ((((((c_++t.Event)++bW)++r1)++cx)++aG)++r6)).bind fun r7=>
 some r7 else none else none else none else none else none else none else none else
 if t.Target≠ [] then
 if (c_++t.Event).length+aX.length≤9223372036854775807 then
 if ((c_++t.Event)++aX).length+t.Target.length≤9223372036854775807 then
 if (t.fP.length:Int)=0 then
 if (((c_++t.Event)++aX)++t.Target).length+bq.length≤9223372036854775807 then
 (cw aD ((((c_++t.Event)++aX)++t.Target)++bq)).bind fun r8=>
 some r8 else none else
 if (((c_++t.Event)++aX)++t.Target).length+aG.length≤9223372036854775807 then
 (gF t.fP aD).bind fun r9=>
 if ((((c_++t.Event)++aX)++t.Target)++aG).length+r9.length≤9223372036854775807 then
 (cw aD (((((c_++t.Event)++aX)++t.Target)++aG)++r9)).bind fun eV=>
 some eV else none else none else none else none else
 if (t.fP.length:Int)=0 then
 if (c_++t.Event).length+bq.length≤9223372036854775807 then
 (cw aD ((c_++t.Event)++bq)).bind fun fI=>
 some fI else none else
 if (c_++t.Event).length+aG.length≤9223372036854775807 then
 (gF t.fP aD).bind fun fl=>
 if ((c_++t.Event)++aG).length+fl.length≤9223372036854775807 then
 (cw aD (((c_++t.Event)++aG)++fl)).bind fun fD=>
 some fD else none else none else none else
 if 0<(t.Guard.length:Int) then
 if dF.length+bW.length≤9223372036854775807 then
 if (0:Int)≤0 then
 if 0<(t.Guard.length:Int) then
 (mZ (t.Guard.getD (0:Int).toNat bh.z)).bind fun dB=>
 if (dF++bW).length+dB.length≤9223372036854775807 then
 if ((dF++bW)++dB).length+cx.length≤9223372036854775807 then
 if t.Target≠ [] then
 if (((dF++bW)++dB)++cx).length+aX.length≤9223372036854775807 then
 if ((((dF++bW)++dB)++cx)++aX).length+t.Target.length≤9223372036854775807 then
 if (t.fP.length:Int)=0 then
 if (((((dF++bW)++dB)++cx)++aX)++t.Target).length+bq.length≤9223372036854775807 then
 (cw aD ((((((dF++bW)++dB)++cx)++aX)++t.Target)++bq)).bind fun iL=>
 some iL else none else
 if (((((dF++bW)++dB)++cx)++aX)++t.Target).length+aG.length≤9223372036854775807 then
 (gF t.fP aD).bind fun r16=>
 if ((((((dF++bW)++dB)++cx)++aX)++t.Target)++aG).length+r16.length≤9223372036854775807 then
 (cw aD (((((((dF++bW)++dB)++cx)++aX)++t.Target)++aG)++r16)).bind fun jx=>
 some jx else none else none else none else none else
 if (t.fP.length:Int)=0 then
 if (((dF++bW)++dB)++cx).length+bq.length≤9223372036854775807 then
 (cw aD ((((dF++bW)++dB)++cx)++bq)).bind fun jy=>
 some jy else none else
 if (((dF++bW)++dB)++cx).length+aG.length≤9223372036854775807 then
 (gF t.fP aD).bind fun ld=>
 if ((((dF++bW)++dB)++cx)++aG).length+ld.length≤9223372036854775807 then
 (cw aD (((((dF++bW)++dB)++cx)++aG)++ld)).bind fun qi=>
 some qi else none else none else none else none else none else none else none else
 if t.Target≠ [] then
 if dF.length+aX.length≤9223372036854775807 then
 if (dF++aX).length+t.Target.length≤9223372036854775807 then
 if (t.fP.length:Int)=0 then
 if ((dF++aX)++t.Target).length+bq.length≤9223372036854775807 then
 (cw aD (((dF++aX)++t.Target)++bq)).bind fun qj=>
 some qj else none else
 if ((dF++aX)++t.Target).length+aG.length≤9223372036854775807 then
 (gF t.fP aD).bind fun qk=>
 if (((dF++aX)++t.Target)++aG).length+qk.length≤9223372036854775807 then
 (cw aD ((((dF++aX)++t.Target)++aG)++qk)).bind fun mV=>
 some mV else none else none else none else none else
 if (t.fP.length:Int)=0 then
 if dF.length+bq.length≤9223372036854775807 then
 (cw aD (dF++bq)).bind fun tn=>
 some tn else none else
 if dF.length+aG.length≤9223372036854775807 then
 (gF t.fP aD).bind fun oE=>
 if (dF++aG).length+oE.length≤9223372036854775807 then
 (cw aD ((dF++aG)++oE)).bind fun zT=>
 some zT else none else none
theorem Ml:aM Tryd.prog S (E6 (Am)):=
 gh pk [m_ mZ,vS cw,oK gF] ⟨z8,Aj,E0,trivial⟩ Tryd.func47 (by kernel_rfl) (fun _=>by kernel_rfl) (by kernel_rfl)
abbrev tw:=bL→Int→Option (List UInt8)
abbrev tv (f:tw):Entry S:=⟨33,[Ej,q5],[q1],fun x=>f x.1 x.2⟩
def Al (fN:tw):Nat→Int→Int→(List UInt8)→(List bF)→(List bF)→(List fS)→(List bL)→Int→(List UInt8)→(List UInt8)→Int→Option (List UInt8)
 | 0,_,_,_,_,_,_,_,_,_,_,_=>none
 | k+1,aD,qE,qF,qC,qD,mc,kf,qA,head,body,i=>if i<(kf.length:Int) then
  if 0≤i then
  if i<(kf.length:Int) then
  (fN (kf.getD i.toNat bL.z) (aj (aD+1))).bind fun r16=>
  if body.length+r16.length≤9223372036854775807 then
  Al fN k aD qE qF qC qD mc kf qA head (body++r16) (aj (i+1)) else none else none else none else
  if body= [] then
  if head.length+nk.length≤9223372036854775807 then
  (cw aD (head++nk)).bind fun jx=>
  some jx else none else
  (cw aD head).bind fun jy=>
  if jy.length+body.length≤9223372036854775807 then
  (cw aD nk).bind fun ld=>
  if (jy++body).length+ld.length≤9223372036854775807 then
  some ((jy++body)++ld) else none else none
def lg (fN:tw):Nat→Int→Int→(List UInt8)→(List bF)→(List bF)→(List fS)→(List bL)→Int→(List UInt8)→(List UInt8)→Int→Option (List UInt8)
 | 0,_,_,_,_,_,_,_,_,_,_,_=>none
 | k+1,aD,qE,qF,qC,qD,mc,kf,qA,head,body,i=>if i<(mc.length:Int) then
  if 0≤i then
  if i<(mc.length:Int) then
  (Am (mc.getD i.toNat fS.z) (aj (aD+1))).bind fun iL=>
  if body.length+iL.length≤9223372036854775807 then
  lg fN k aD qE qF qC qD mc kf qA head (body++iL) (aj (i+1)) else none else none else none else
  Al fN k aD qE qF qC qD mc kf qA head body 0
def E5 (fN:tw) (k:Nat) (s:bL) (aD:Int):Option (List UInt8):=if s.Kind=3 then
 if v8.length+s.Name.length≤9223372036854775807 then
 if (v8++s.Name).length+bq.length≤9223372036854775807 then
 (cw aD ((v8++s.Name)++bq)).bind fun r1=>
 some r1 else none else none else
 if s.Kind=4 then
 if vZ.length+s.Name.length≤9223372036854775807 then
 if (vZ++s.Name).length+bq.length≤9223372036854775807 then
 (cw aD ((vZ++s.Name)++bq)).bind fun r2=>
 some r2 else none else none else
 if oR.length+s.Name.length≤9223372036854775807 then
 if (oR++s.Name).length+jG.length≤9223372036854775807 then
 if s.Kind=2 then
 if oQ.length+s.Name.length≤9223372036854775807 then
 if (oQ++s.Name).length+jG.length≤9223372036854775807 then
 if 0<(s.Entry.length:Int) then
 (gF s.Entry (aj (aD+1))).bind fun r3=>
 if nh.length+r3.length≤9223372036854775807 then
 (cw (aj (aD+1)) (nh++r3)).bind fun r4=>
 if ([]:List UInt8).length+r4.length≤9223372036854775807 then
 if 0<(s.Exit.length:Int) then
 (gF s.Exit (aj (aD+1))).bind fun r5=>
 if gV.length+r5.length≤9223372036854775807 then
 (cw (aj (aD+1)) (gV++r5)).bind fun r6=>
 if ([]++r4).length+r6.length≤9223372036854775807 then
 lg fN k aD s.Kind s.Name s.Entry s.Exit s.Trans s.Kids s.At ((oQ++s.Name)++jG) (([]++r4)++r6) 0 else none else none else
 lg fN k aD s.Kind s.Name s.Entry s.Exit s.Trans s.Kids s.At ((oQ++s.Name)++jG) ([]++r4) 0 else none else none else
 if 0<(s.Exit.length:Int) then
 (gF s.Exit (aj (aD+1))).bind fun r7=>
 if gV.length+r7.length≤9223372036854775807 then
 (cw (aj (aD+1)) (gV++r7)).bind fun r8=>
 if ([]:List UInt8).length+r8.length≤9223372036854775807 then
 lg fN k aD s.Kind s.Name s.Entry s.Exit s.Trans s.Kids s.At ((oQ++s.Name)++jG) ([]++r8) 0 else none else none else
 lg fN k aD s.Kind s.Name s.Entry s.Exit s.Trans s.Kids s.At ((oQ++s.Name)++jG) [] 0 else none else none else
 if 0<(s.Entry.length:Int) then
 (gF s.Entry (aj (aD+1))).bind fun r9=>
 if nh.length+r9.length≤9223372036854775807 then
 (cw (aj (aD+1)) (nh++r9)).bind fun eV=>
 if ([]:List UInt8).length+eV.length≤9223372036854775807 then
 if 0<(s.Exit.length:Int) then
 (gF s.Exit (aj (aD+1))).bind fun fI=>
 if gV.length+fI.length≤9223372036854775807 then
 (cw (aj (aD+1)) (gV++fI)).bind fun fl=>
 if ([]++eV).length+fl.length≤9223372036854775807 then
 lg fN k aD s.Kind s.Name s.Entry s.Exit s.Trans s.Kids s.At ((oR++s.Name)++jG) (([]++eV)++fl) 0 else none else none else
 lg fN k aD s.Kind s.Name s.Entry s.Exit s.Trans s.Kids s.At ((oR++s.Name)++jG) ([]++eV) 0 else none else none else
 if 0<(s.Exit.length:Int) then
 (gF s.Exit (aj (aD+1))).bind fun fD=>
 if gV.length+fD.length≤9223372036854775807 then
 (cw (aj (aD+1)) (gV++fD)).bind fun dB=>
 if ([]:List UInt8).length+dB.length≤9223372036854775807 then
 lg fN k aD s.Kind s.Name s.Entry s.Exit s.Trans s.Kids s.At ((oR++s.Name)++jG) ([]++dB) 0 else none else none else
 lg fN k aD s.Kind s.Name s.Entry s.Exit s.Trans s.Kids s.At ((oR++s.Name)++jG) [] 0 else none else none
def vT:Nat→bL→Int→Option (List UInt8)
 | 0,_,_=>none
 | k+1,x0,x1=>E5 (vT k) k x0 x1
def Ak  (s:bL) (aD:Int):Option (List UInt8):=cv (fun k (x:bL×Int)=>vT k x.1 x.2) (s,aD)
theorem Mk (fN:tw) (k:Nat) (I7:aM Tryd.prog S (tv fN)):aM Tryd.prog S (tv (E5 fN k)):=
 fc pk [vS cw,oK gF,E6 Am,tv fN] ⟨Aj,E0,Ml,I7,trivial⟩ Tryd.func33 [] k (fun k=> [(0,⟨[1,2,5,6,7],[q5,zR,q1,q1,q5],fun x=>lg fN k x.1 x.2.1.1 x.2.1.2.1 x.2.1.2.2.1 x.2.1.2.2.2.1 x.2.1.2.2.2.2.1 x.2.1.2.2.2.2.2.1 x.2.1.2.2.2.2.2.2 x.2.2.1 x.2.2.2.1 x.2.2.2.2,false⟩),(2,⟨[1,2,5,6,8],[q5,zR,q1,q1,q5],fun x=>Al fN k x.1 x.2.1.1 x.2.1.2.1 x.2.1.2.2.1 x.2.1.2.2.2.1 x.2.1.2.2.2.2.1 x.2.1.2.2.2.2.2.1 x.2.1.2.2.2.2.2.2 x.2.2.1 x.2.2.2.1 x.2.2.2.2,false⟩)]) ⟨fun _=>rfl,fun _=>rfl,trivial⟩ (fun _=>by kernel_rfl) (fun _=>by kernel_rfl) (by kernel_rfl)
theorem Mj:aM Tryd.prog S (tv (Ak)):=oV (fun k x=>vT k x.1 x.2) (fun _=>rfl) Tryd.func33 (by kernel_rfl) (fun _=>rfl) fun k h=>Mk (vT k) k h
abbrev Mh:=fF→Option (List UInt8)
abbrev E4 (f:Mh):Entry S:=⟨16,[El],[q1],fun x=>f x⟩
def Ai:Nat→(List UInt8)→Int→Int→(List br)→(List br)→(List br)→(List bL)→Int→(List UInt8)→Int→Option (List UInt8)
 | 0,_,_,_,_,_,_,_,_,_,_=>none
 | k+1,dZ,gf,ga,dL,dW,dX,eN,dK,s,i=>if i<(eN.length:Int) then
  if 0≤i then
  if i<(eN.length:Int) then
  (Ak (eN.getD i.toNat bL.z) 1).bind fun r8=>
  if s.length+r8.length≤9223372036854775807 then
  Ai k dZ gf ga dL dW dX eN dK (s++r8) (aj (i+1)) else none else none else none else
  (cw 0 nk).bind fun r9=>
  if s.length+r9.length≤9223372036854775807 then
  some (s++r9) else none
def Ah:Nat→(List UInt8)→Int→Int→(List br)→(List br)→(List br)→(List bL)→Int→(List UInt8)→Int→Option (List UInt8)
 | 0,_,_,_,_,_,_,_,_,_,_=>none
 | k+1,dZ,gf,ga,dL,dW,dX,eN,dK,s,i=>if i<(dX.length:Int) then
  if 0≤i then
  if i<(dX.length:Int) then
  if AP.length+((dX.getD i.toNat br.z).Name).length≤9223372036854775807 then
  if (AP++((dX.getD i.toNat br.z).Name)).length+bq.length≤9223372036854775807 then
  (cw 1 ((AP++((dX.getD i.toNat br.z).Name))++bq)).bind fun r7=>
  if s.length+r7.length≤9223372036854775807 then
  Ah k dZ gf ga dL dW dX eN dK (s++r7) (aj (i+1)) else none else none else none else none else none else
  Ai k dZ gf ga dL dW dX eN dK s 0
def Ag:Nat→(List UInt8)→Int→Int→(List br)→(List br)→(List br)→(List bL)→Int→(List UInt8)→Int→Option (List UInt8)
 | 0,_,_,_,_,_,_,_,_,_,_=>none
 | k+1,dZ,gf,ga,dL,dW,dX,eN,dK,s,i=>if i<(dW.length:Int) then
  if 0≤i then
  if i<(dW.length:Int) then
  if AJ.length+((dW.getD i.toNat br.z).Name).length≤9223372036854775807 then
  if (AJ++((dW.getD i.toNat br.z).Name)).length+bq.length≤9223372036854775807 then
  (cw 1 ((AJ++((dW.getD i.toNat br.z).Name))++bq)).bind fun r6=>
  if s.length+r6.length≤9223372036854775807 then
  Ag k dZ gf ga dL dW dX eN dK (s++r6) (aj (i+1)) else none else none else none else none else none else
  Ah k dZ gf ga dL dW dX eN dK s 0
def Af:Nat→(List UInt8)→Int→Int→(List br)→(List br)→(List br)→(List bL)→Int→(List UInt8)→Int→Option (List UInt8)
 | 0,_,_,_,_,_,_,_,_,_,_=>none
 | k+1,dZ,gf,ga,dL,dW,dX,eN,dK,s,i=>if i<(dL.length:Int) then
  if 0≤i then
  if i<(dL.length:Int) then
  if tI.length+((dL.getD i.toNat br.z).Name).length≤9223372036854775807 then
  if (tI++((dL.getD i.toNat br.z).Name)).length+fM.length≤9223372036854775807 then
  if 0≤i then
  if i<(dL.length:Int) then
  (jz ((dL.getD i.toNat br.z).N)).bind fun r4=>
  if ((tI++((dL.getD i.toNat br.z).Name))++fM).length+r4.length≤9223372036854775807 then
  if (((tI++((dL.getD i.toNat br.z).Name))++fM)++r4).length+bq.length≤9223372036854775807 then
  (cw 1 ((((tI++((dL.getD i.toNat br.z).Name))++fM)++r4)++bq)).bind fun r5=>
  if s.length+r5.length≤9223372036854775807 then
  Af k dZ gf ga dL dW dX eN dK (s++r5) (aj (i+1)) else none else none else none else none else none else none else none else none else none else
  Ag k dZ gf ga dL dW dX eN dK s 0
def E3 (k:Nat) (c:fF):Option (List UInt8):=if iO.length+c.Name.length≤9223372036854775807 then
 if (iO++c.Name).length+jH.length≤9223372036854775807 then
 (jz c.Steps).bind fun r1=>
 if ((iO++c.Name)++jH).length+r1.length≤9223372036854775807 then
 if (((iO++c.Name)++jH)++r1).length+ni.length≤9223372036854775807 then
 (jz c.Fuel).bind fun r2=>
 if ((((iO++c.Name)++jH)++r1)++ni).length+r2.length≤9223372036854775807 then
 if (((((iO++c.Name)++jH)++r1)++ni)++r2).length+jG.length≤9223372036854775807 then
 (cw 0 ((((((iO++c.Name)++jH)++r1)++ni)++r2)++jG)).bind fun r3=>
 Af k c.Name c.Steps c.Fuel c.Vars c.wH c.wQ c.wO c.At r3 0 else none else none else none else none else none else none
def Ae  (c:fF):Option (List UInt8):=cv (fun k (x:fF)=>E3 k x) c
theorem Mg:aM Tryd.prog S (E4 (Ae)):=fO (fun k x=>E3 k x) (fun _=>rfl) fun k=>
 fc pk [mY jz,vS cw,tv Ak] ⟨vP,Aj,Mj,trivial⟩ Tryd.func16 [] k (fun k=> [(0,⟨[1,3,4],[oD,q1,q5],fun x=>Af k x.1.1 x.1.2.1 x.1.2.2.1 x.1.2.2.2.1 x.1.2.2.2.2.1 x.1.2.2.2.2.2.1 x.1.2.2.2.2.2.2.1 x.1.2.2.2.2.2.2.2 x.2.1 x.2.2,false⟩),(2,⟨[1,3,5],[oD,q1,q5],fun x=>Ag k x.1.1 x.1.2.1 x.1.2.2.1 x.1.2.2.2.1 x.1.2.2.2.2.1 x.1.2.2.2.2.2.1 x.1.2.2.2.2.2.2.1 x.1.2.2.2.2.2.2.2 x.2.1 x.2.2,false⟩),(4,⟨[1,3,6],[oD,q1,q5],fun x=>Ah k x.1.1 x.1.2.1 x.1.2.2.1 x.1.2.2.2.1 x.1.2.2.2.2.1 x.1.2.2.2.2.2.1 x.1.2.2.2.2.2.2.1 x.1.2.2.2.2.2.2.2 x.2.1 x.2.2,false⟩),(6,⟨[1,3,7],[oD,q1,q5],fun x=>Ai k x.1.1 x.1.2.1 x.1.2.2.1 x.1.2.2.2.1 x.1.2.2.2.2.1 x.1.2.2.2.2.2.1 x.1.2.2.2.2.2.2.1 x.1.2.2.2.2.2.2.2 x.2.1 x.2.2,false⟩)]) ⟨fun _=>rfl,fun _=>rfl,fun _=>rfl,fun _=>rfl,trivial⟩ (fun _=>by kernel_rfl) (fun _=>by kernel_rfl) (by kernel_rfl)
abbrev LS:=fG→Option (List UInt8)
abbrev EO (f:LS):Entry S:=⟨14,[Em],[q1],fun x=>f x⟩
def vM:Nat→Int→(List fF)→(List aN)→(List aC)→(List an)→(List UInt8)→Int→Option (List UInt8)
 | 0,_,_,_,_,_,_,_=>none
 | k+1,Au,qB,tF,tE,tD,t,i=>if i<(qB.length:Int) then
  if 0≤i then
  if i<(qB.length:Int) then
  (Ae (qB.getD i.toNat fF.z)).bind fun r2=>
  if t.length+r2.length≤9223372036854775807 then
  vM k Au qB tF tE tD (t++r2) (aj (i+1)) else none else none else none else
  (qp tF).bind fun r3=>
  if t.length+r3.length≤9223372036854775807 then
  (qn tE).bind fun r4=>
  if (t++r3).length+r4.length≤9223372036854775807 then
  (qm tD).bind fun r5=>
  if ((t++r3)++r4).length+r5.length≤9223372036854775807 then
  some (((t++r3)++r4)++r5) else none else none else none
def vL (k:Nat) (s:fG):Option (List UInt8):=(iM s.qV).bind fun r1=>
 if nq.length+r1.length≤9223372036854775807 then
 if (nq++r1).length+bQ.length≤9223372036854775807 then
 vM k s.qV s.qX s.Insts s.fZ s.wF ((nq++r1)++bQ) 0 else none else none
def vK  (s:fG):Option (List UInt8):=cv (fun k (x:fG)=>vL k x) s
theorem LR:aM Tryd.prog S (EO (vK)):=fO (fun k x=>vL k x) (fun _=>rfl) fun k=>
 fc pk [tq iM,E4 Ae,zY qp,zX qn,zW qm] ⟨vO,Mg,EL,EJ,EH,trivial⟩ Tryd.func14 [] k (fun k=> [(0,⟨[1,3,4],[En,q1,q5],fun x=>vM k x.1.1 x.1.2.1 x.1.2.2.1 x.1.2.2.2.1 x.1.2.2.2.2 x.2.1 x.2.2,false⟩)]) ⟨fun _=>rfl,trivial⟩ (fun _=>by kernel_rfl) (fun _=>by kernel_rfl) (by kernel_rfl)
abbrev Kr:=(List Int)→(Int×Int×Int)→(List Int)→Option Bool
abbrev Kp (f:Kr):Entry S:=⟨3,[qh,Lt,Eo],[q9],fun x=>f x.1 x.2.1 x.2.2⟩
def oy:Nat→(List Int)→(Int×Int×Int)→(List (List UInt8))→(List UInt8)→(List UInt8)→Int→Int→Int→Int→(List UInt8)→(List UInt8)→(List UInt8)→(List UInt8)→Int→Int→Int→(List UInt8)→(List UInt8)→(List UInt8)→(List UInt8)→(List (List UInt8))→(List (List UInt8))→(List bN)→Int→Int→Option Bool
 | 0,_,_,_,_,_,_,_,_,_,_,_,_,_,_,_,_,_,_,_,_,_,_,_,_,_=>none
 | k+1,rows,n,l,lZ,lX,l6,lY,l5,lW,dZ,rD,rE,rG,rC,rF,dK,kA,ku,kB,kC,kz,pg,iw,gI,k_=>if k_<(rows.length:Int) then
  if 0≤k_ then
  if k_<(rows.length:Int) then
  if ¬ (3:Int)=0 then
  if 0≤((aj (rows.getD k_.toNat 0)).tmod 3) then
  if ((aj (rows.getD k_.toNat 0)).tmod 3)≤(l.length:Int) then
  if ¬ (3:Int)=0 then
  if ¬ (3:Int)=0 then
  if 0≤(aj (1+((aj ((aj (rows.getD k_.toNat 0)).tdiv 3)).tmod 3))) then
  if (aj (1+((aj ((aj (rows.getD k_.toNat 0)).tdiv 3)).tmod 3)))≤(l.length:Int) then
  if (0:Int)≤1 then
  if (1:Int)≤(aj (1+((aj ((aj (rows.getD k_.toNat 0)).tdiv 3)).tmod 3))) then
  if ¬ (9:Int)=0 then
  if ¬ (4:Int)=0 then
  if 0≤((aj ((aj (rows.getD k_.toNat 0)).tdiv 9)).tmod 4) then
  if ((aj ((aj (rows.getD k_.toNat 0)).tdiv 9)).tmod 4)≤(l.length:Int) then
  if ¬ (36:Int)=0 then
  if ¬ (3:Int)=0 then
  if 0≤(aj (2+((aj ((aj (rows.getD k_.toNat 0)).tdiv 36)).tmod 3))) then
  if (aj (2+((aj ((aj (rows.getD k_.toNat 0)).tdiv 36)).tmod 3)))≤(l.length:Int) then
  if (0:Int)≤2 then
  if (2:Int)≤(aj (2+((aj ((aj (rows.getD k_.toNat 0)).tdiv 36)).tmod 3))) then
  if (iw.length+ [bN.mk (aj (rows.getD k_.toNat 0)) [cut l 0 ((aj (rows.getD k_.toNat 0)).tmod 3),cut l 1 (aj (1+((aj ((aj (rows.getD k_.toNat 0)).tdiv 3)).tmod 3)))] [cut l 0 ((aj ((aj (rows.getD k_.toNat 0)).tdiv 9)).tmod 4),cut l 2 (aj (2+((aj ((aj (rows.getD k_.toNat 0)).tdiv 36)).tmod 3)))] 0].length)*64≤140737488355328 then
  oy k rows n l lZ lX l6 lY l5 lW dZ rD rE rG rC rF dK kA ku kB kC kz pg (iw++ [bN.mk (aj (rows.getD k_.toNat 0)) [cut l 0 ((aj (rows.getD k_.toNat 0)).tmod 3),cut l 1 (aj (1+((aj ((aj (rows.getD k_.toNat 0)).tdiv 3)).tmod 3)))] [cut l 0 ((aj ((aj (rows.getD k_.toNat 0)).tdiv 9)).tmod 4),cut l 2 (aj (2+((aj ((aj (rows.getD k_.toNat 0)).tdiv 36)).tmod 3)))] 0]) gI (aj (k_+1)) else none else none else none else none else none else none else none else none else none else none else none else none else none else none else none else none else none else none else none else none else none else none else
  if (0:Int)≤2 then
  if 2<([n.1,n.2.1,n.2.2].length:Int) then
  (oT [aN.mk lZ lX l6 lY l5 lW,aN.mk lZ lX l6 lY l5 lW]).bind fun r4=>
  (qp [aN.mk lZ lX l6 lY l5 lW,aN.mk lZ lX l6 lY l5 lW]).bind fun r5=>
  if r4=r5 then
  (oT []).bind fun r6=>
  if r6= [] then
  (qL [aC.mk dZ rD rE rG rC rF dK]).bind fun r7=>
  (qn [aC.mk dZ rD rE rG rC rF dK]).bind fun r8=>
  if r7=r8 then
  (nr [an.mk kA ku kB kC kz pg iw gI,an.mk kA ku kB kC kz [] iw gI]).bind fun r9=>
  (qm [an.mk kA ku kB kC kz pg iw gI,an.mk kA ku kB kC kz [] iw gI]).bind fun eV=>
  if r9=eV then
  (wh (fG.mk (aj ([n.1,n.2.1,n.2.2].getD (2:Int).toNat 0)) [] [aN.mk lZ lX l6 lY l5 lW,aN.mk lZ lX l6 lY l5 lW] [aC.mk dZ rD rE rG rC rF dK] [an.mk kA ku kB kC kz pg iw gI,an.mk kA ku kB kC kz [] iw gI])).bind fun fI=>
  (vK (fG.mk (aj ([n.1,n.2.1,n.2.2].getD (2:Int).toNat 0)) [] [aN.mk lZ lX l6 lY l5 lW,aN.mk lZ lX l6 lY l5 lW] [aC.mk dZ rD rE rG rC rF dK] [an.mk kA ku kB kC kz pg iw gI,an.mk kA ku kB kC kz [] iw gI])).bind fun fl=>
  if fI=fl then
  (oz).bind fun fD=>
  some fD else
  some false else
  some false else
  some false else
  some false else
  some false else none else none
def vu (k:Nat) (v:List Int) (n:Int×Int×Int) (rows:List Int):Option Bool:=if 100<(v.length:Int) then
 (oz).bind fun r1=>
 some r1 else
 if 40<(rows.length:Int) then
 (oz).bind fun r2=>
 some r2 else
 (vv v 9).bind fun r3=>
 if (0:Int)≤0 then
 if 0<(r3.length:Int) then
 if (0:Int)≤1 then
 if 1<(r3.length:Int) then
 if (0:Int)≤0 then
 if 0<([n.1,n.2.1,n.2.2].length:Int) then
 if (0:Int)≤1 then
 if 1<([n.1,n.2.1,n.2.2].length:Int) then
 if (0:Int)≤2 then
 if 2<([n.1,n.2.1,n.2.2].length:Int) then
 if (0:Int)≤2 then
 if 2<(r3.length:Int) then
 if (0:Int)≤3 then
 if 3<(r3.length:Int) then
 if (0:Int)≤4 then
 if 4<(r3.length:Int) then
 if (0:Int)≤5 then
 if 5<(r3.length:Int) then
 if (0:Int)≤0 then
 if 0<([n.1,n.2.1,n.2.2].length:Int) then
 if (0:Int)≤1 then
 if 1<([n.1,n.2.1,n.2.2].length:Int) then
 if (0:Int)≤6 then
 if 6<(r3.length:Int) then
 if (0:Int)≤7 then
 if 7<(r3.length:Int) then
 if (0:Int)≤8 then
 if 8<(r3.length:Int) then
 if (0:Int)≤0 then
 if 0<(r3.length:Int) then
 if (0:Int)≤3 then
 if 3≤(r3.length:Int) then
 if (0:Int)≤1 then
 if (1:Int)≤3 then
 if (0:Int)≤5 then
 if 5≤(r3.length:Int) then
 if (0:Int)≤3 then
 if (3:Int)≤5 then
 oy k rows n r3 (r3.getD (0:Int).toNat []) (r3.getD (1:Int).toNat []) (aj ([n.1,n.2.1,n.2.2].getD (0:Int).toNat 0)) (aj ([n.1,n.2.1,n.2.2].getD (1:Int).toNat 0)) (aj ([n.1,n.2.1,n.2.2].getD (2:Int).toNat 0)) 0 (r3.getD (2:Int).toNat []) (r3.getD (3:Int).toNat []) (r3.getD (4:Int).toNat []) (r3.getD (5:Int).toNat []) (aj ([n.1,n.2.1,n.2.2].getD (0:Int).toNat 0)) (aj ([n.1,n.2.1,n.2.2].getD (1:Int).toNat 0)) 0 (r3.getD (6:Int).toNat []) (r3.getD (7:Int).toNat []) (r3.getD (8:Int).toNat []) (r3.getD (0:Int).toNat []) (cut r3 1 3) (cut r3 3 5) [] 0 0 else none else none else none else none else none else none else none else none else none else none else none else none else none else none else none else none else none else none else none else none else none else none else none else none else none else none else none else none else none else none else none else none else none else none else none else none else none else none
def zh  (v:List Int) (n:Int×Int×Int) (rows:List Int):Option Bool:=cv (fun k (x:List Int×(Int×Int×Int)×List Int)=>vu k x.1 x.2.1 x.2.2) (v,n,rows)
theorem Kq:aM Tryd.prog S (Kp (zh)):=fO (fun k x=>vu k x.1 x.2.1 x.2.2) (fun _=>rfl) fun k=>
 x_ pk ⟨[DP oz,DR vv,AW oT,zY qp,AV qL,zX qn,wg nr,zW qm,FG wh,EO vK],[],false,false,true,none,[]⟩ ⟨Ku,Kw,FF,EL,FD,EJ,AU,EH,M9,LR,trivial⟩ (all_nil) (all_nil) Tryd.func3 [] k (fun k=> [(0,⟨[2,4,7,8,9,10,11],[Eo,Lu,tg,Lv,Lw,Lx,q5],fun x=>oy k x.1 x.2.1 x.2.2.1 x.2.2.2.1.1 x.2.2.2.1.2.1 x.2.2.2.1.2.2.1 x.2.2.2.1.2.2.2.1 x.2.2.2.1.2.2.2.2.1 x.2.2.2.1.2.2.2.2.2 x.2.2.2.2.1.1 x.2.2.2.2.1.2.1 x.2.2.2.2.1.2.2.1 x.2.2.2.2.1.2.2.2.1 x.2.2.2.2.1.2.2.2.2.1 x.2.2.2.2.1.2.2.2.2.2.1 x.2.2.2.2.1.2.2.2.2.2.2 x.2.2.2.2.2.1.1 x.2.2.2.2.2.1.2.1 x.2.2.2.2.2.1.2.2.1 x.2.2.2.2.2.1.2.2.2.1 x.2.2.2.2.2.1.2.2.2.2.1 x.2.2.2.2.2.1.2.2.2.2.2.1 x.2.2.2.2.2.1.2.2.2.2.2.2.1 x.2.2.2.2.2.1.2.2.2.2.2.2.2 x.2.2.2.2.2.2,false⟩)]) ⟨fun _=>rfl,trivial⟩ (fun _=>by kernel_rfl) (fun _=>by kernel_rfl) (by kernel_rfl)
end
end Go.Sy.Ex
namespace Go.Sy.Ex
open Go Go.Sy Go.Proofs Go.Proofs.YtfacjammklpmpaaDoor
abbrev L7:List (String×DataW Unit):= [("math/bits.deBruijn32tab",Rows.laid_math_bits_deBruijn32tab),("math/bits.deBruijn64tab",Rows.laid_math_bits_deBruijn64tab),("internal/strconv.uint64pow10",Rows.laid_internal_strconv_uint64pow10)]
theorem CP:Tryd.prog.globalNamed "internal/strconv.uint64pow10" =some 0:=by kernel_rfl
theorem Nr:(Tryd.prog.globals[0]?).map (·.type)=some 143:=by kernel_rfl
theorem K0 {W:World} (h:W.ShapedOpen Tryd.prog): ∃ m,W.cell? ⟨1,0,none⟩=some (.int .i64 m):=
 cell_of_shapedOpen_int (t:=3) (zero:= #[.int .i64 0]) h (of_decide_eq_true (by kernel_rfl)) (by kernel_rfl) rfl (by kernel_rfl) (by kernel_rfl) Tryd.underlying3
theorem IN {W:World} {M:St} (hM:b6 M) (hL:laidMetH Tryd.prog L7 W) (hsh:W.ShapedOpen Tryd.prog):jf S W M:=by
 rw [MakeChecks.laidMetH_plain _ _ _ (by kernel_rfl)] at hL
 have hT:Lib.TabIs Tryd.prog W "internal/strconv.uint64pow10" .u64 Lib.pow10Tab:=Lib.tabIs_of_head CP Nr Tryd.underlying143 Tryd.underlying125 (by kernel_rfl) (by kernel_rfl) hL.tail.tail
 obtain ⟨m,c3⟩:=K0 hsh
 refine ⟨fun g hg=> ?_,fun g hg=> ?_⟩
 · simp only [List.mem_cons,List.not_mem_nil,or_false] at hg
   subst hg
   exact ⟨World.block_lt_of_cell? _ _ c3,hM _ _,_,c3,m,rfl⟩
 · simp only [List.mem_cons,List.not_mem_nil,or_false] at hg
   subst hg
   unfold Lib.TabIs World.var? at hT
   rw [CP] at hT
   simp only [Option.bind_some] at hT
   split at hT
   · rename_i cs t f hb
     cases hT
     exact ⟨(Array.getElem?_eq_some_iff.1 hb).1,fun o=>hM _ _,_,hb,t,f,rfl⟩
   · cases hT
end Go.Sy.Ex
namespace Go.Sy.Ex
open Go Go.Sy Go.Proofs Go.Proofs.YtfacjammklpmpaaDoor Go.ChangeShapes Go.WideShapes Go.RowKit
theorem Mu {H:Type} {enc:TypeId×Value→H} {a:Assume} {C:Checked} {os:Os} {f:FuncId} {fn:Func} {s:ChangeSpec} {conds:List PathCond} {apart fresh handsOn again:Bool} {X:World→Array Value→Prop}
 (hX: ∀ (w w':World) (args:Array Value),w.heap=w'.heap→X w args→X w' args)
 (own:ownKnob C.prog.godebug=none) (started:os.Started) (noInit:C.prog.inits.idxOf? f=none) (hfn:C.prog.funcs[f]? =some fn)
 (witness: ∃ (w:World) (tape:Tape) (i:Input),w.os=os∧(w.forCall tape i).Shaped C.prog∧i.vars= []∧Input.okWide C.prog (w.forCall tape i) .any w.heap.size f i∧
  ((s.pre enc C.prog fn conds apart (w.forCall tape i).memory i.args∧X (w.forCall tape i).memory i.args)∧sizedMet enc C.prog fn (OpenSpec.ofChange s) apart (w.forCall tape i).memory i.args)∧a.holds C.prog (lone (Frame.enter C.prog f i.args .normal) [] (w.forCall tape i)))
 (contract: ∀ (W:World) (base:Nat) (args:Array Value) (ds gs:List (DataW H)) (before:List MemPlace),
  (∀ (j:Nat) t v,fn.params[j]? =some t→args[j]? =some v→Value.okWide C.prog W .any base t v)→
  DataW.Whole enc C.prog fn.params.toList s.vars apart W args.toList ds gs before→
  conds.all (PathCond.test C.prog ⟨fn.params.toList,ds,s.plain.varTypes C.prog,gs⟩)=true→
  (DataW.weightsEach C.prog (fn.params.toList++s.plain.varTypes C.prog) (ds++gs)).all (· ≤reachBytes)=true→X W args→W.ShapedOpen C.prog→
  a.holds C.prog (lone (Frame.enter C.prog f args .normal) [] W)→
  Calls C.prog f args W fun e W'=> ∃ v,e= .returned v∧s.post enc C.prog fn apart fresh handsOn again W args v W'):
 ReturnsInHanded a C os f .any (fun w args=>(s.pre enc C.prog fn conds apart w args∧X w args)∧sizedMet enc C.prog fn (OpenSpec.ofChange s) apart w args) (s.post enc C.prog fn apart fresh handsOn again):=by
 refine returnsInHanded_of_calls own started noInit witness ?_
 intro w tape i _ hsh _ hok hpre hholds
 obtain ⟨_,_,_,fn',Ju,_,_,_,_,hval⟩:=hok
 have e:fn'=fn:=Option.some.inj (Ju.symm.trans hfn)
 subst e
 obtain ⟨⟨⟨ds,gs,before,hw,hc⟩,hx⟩,hz⟩:=hpre
 have hw':=DataW.Whole.of_heap (w':=w.forCall tape i) (by rfl) hw
 refine (contract (w.forCall tape i) w.heap.size i.args ds gs before hval hw' hc (hz.weights hw) (hX _ _ _ (by rfl) hx) hsh hholds).mono fun e W' ⟨v,he,hp⟩=> ?_
 subst he
 exact ChangeSpec.post_blind hp
set_option maxRecDepth 100000 in
theorem Ic (os:Os) (args:Array Value):laidMetH Tryd.prog L7 ((World.laidAll Tryd.prog os L7).forCall (fun _ _=>0) ⟨#[],args,[]⟩).memory:=by
 rw [MakeChecks.laidMetH_plain _ _ _ (by kernel_rfl)]
 exact laidMet_laidAll _ (by kernel_rfl) (by kernel_rfl)
end Go.Sy.Ex
namespace Go.Sy.Ex
open Go.Sy
noncomputable section
theorem xJ {u:Nat} (h:u<10):Lib.decDigits u= [UInt8.ofNat (48+u)]:=by rw [Lib.decDigits,dif_pos h]
theorem Ca {u:Nat} (h: ¬ u<10):Lib.decDigits u=Lib.decDigits (u / 10)++ [UInt8.ofNat (48+u % 10)]:=by rw [Lib.decDigits,dif_neg h]
theorem uK: ∀ d,d<10→cut jb ((d:Nat):Int) ((d+1:Nat):Int)= [UInt8.ofNat (48+d)]:=by decide+kernel
theorem Bl: ∀ j (n:Int), -(10 ^ j:Nat)<n→n<(10 ^ j:Nat)→ -9223372036854775808≤n→n≤9223372036854775807→1≤j→j≤30→ ∀ k,j≤k→qu k n=some (Lib.itoa n)∧(Lib.itoa n).length≤j+1:=by
 intro j
 induction j with
 | zero=>intro n _ _ _ _ h; omega
 | succ j ih=>
  intro n h1 h2 h3 h4 _ hj k hk
  obtain ⟨k,rfl⟩: ∃ j,k=j+1:=⟨k - 1,by omega⟩
  have dz: ∀ d:Nat,d<10→aj (((d:Nat):Int)+1)=((d+1:Nat):Int):=fun d hd=>by rw [cJ (by omega) (by omega)]; omega
  have vh:jb.length=10:=rfl
  have OQ:10 ^ (j+1)=10 ^ j*10:=Nat.pow_succ ..
  simp only [qu,z6]
  by_cases hneg:n<0
  · obtain ⟨u,rfl⟩: ∃ u:Nat,n= -(u:Int):=⟨n.natAbs,by omega⟩
    have hu1:1≤u:=by omega
    rw [Lib.itoa_neg u hu1]
    by_cases hb:u<10
    · rw [if_neg (by omega),if_pos hneg]
      have e1:aj (0 - (-(u:Int)))=(u:Int):=by rw [cJ (by omega) (by omega)]; omega
      rw [e1,dz u hb,if_pos (by omega),if_pos (by rw [vh]; omega),if_pos (by omega),if_pos (by omega),uK u hb,if_pos (by simp),xJ hb]
      exact ⟨rfl,by simp⟩
    · have e1:Int.tdiv (-(u:Int)) 10= -((u / 10:Nat):Int):=by rw [Int.neg_tdiv,Int.tdiv_eq_ediv_of_nonneg (by omega)]; omega
      have e2:Int.tmod (-(u:Int)) 10= -((u % 10:Nat):Int):=by rw [Int.neg_tmod,Int.tmod_eq_emod_of_nonneg (by omega)]; omega
      have e3:aj (-((u / 10:Nat):Int))= -((u / 10:Nat):Int):=cJ (by omega) (by omega)
      have e4:aj (0 - (-((u % 10:Nat):Int)))=((u % 10:Nat):Int):=by rw [cJ (by omega) (by omega)]; omega
      have vf:1≤j:=by
       rcases Nat.eq_zero_or_pos j with rfl | q
       · simp at h1 h2; omega
       · exact q
      obtain ⟨i1,i2⟩:=ih (-((u / 10:Nat):Int)) (by omega) (by omega) (by omega) (by omega) vf (by omega) k (by omega)
      rw [Lib.itoa_neg (u / 10) (by omega)] at i1 i2
      rw [if_pos (by omega),if_pos (by decide),if_pos (by decide),e1,e3,i1,bE,e2,e4,dz (u % 10) (by omega),if_pos (by omega),if_pos (by rw [vh]; omega),if_pos (by omega),if_pos (by omega),uK (u % 10) (by omega)]
      rw [if_pos (by simp only [List.length_singleton]; omega),Ca hb]
      refine ⟨rfl, ?_⟩
      simp only [List.length_cons,List.length_append,List.length_nil] at i2 ⊢
      omega
  · obtain ⟨u,rfl⟩: ∃ u:Nat,n=(u:Int):=⟨n.toNat,by omega⟩
    rw [Lib.itoa_nonneg u]
    rw [if_neg (by omega),if_neg hneg]
    by_cases hb:u<10
    · rw [if_pos (by omega),dz u hb,if_pos (by omega),if_pos (by rw [vh]; omega),if_pos (by omega),if_pos (by omega),uK u hb,xJ hb]
      exact ⟨rfl,by simp⟩
    · have e1:Int.tdiv ((u:Nat):Int) 10=((u / 10:Nat):Int):=by rw [Int.tdiv_eq_ediv_of_nonneg (by omega)]; omega
      have e2:Int.tmod ((u:Nat):Int) 10=((u % 10:Nat):Int):=by rw [Int.tmod_eq_emod_of_nonneg (by omega)]; omega
      have e3:aj ((u / 10:Nat):Int)=((u / 10:Nat):Int):=cJ (by omega) (by omega)
      have vf:1≤j:=by
       rcases Nat.eq_zero_or_pos j with rfl | q
       · simp at h1 h2; omega
       · exact q
      obtain ⟨i1,i2⟩:=ih ((u / 10:Nat):Int) (by omega) (by omega) (by omega) (by omega) vf (by omega) k (by omega)
      rw [Lib.itoa_nonneg (u / 10)] at i1 i2
      rw [if_neg (by omega),if_pos (by decide),e1,e3,i1,bE,e2,if_pos (by decide),if_pos (by decide),dz (u % 10) (by omega),if_pos (by omega),if_pos (by rw [vh]; omega),if_pos (by omega),if_pos (by omega),uK (u % 10) (by omega)]
      rw [if_pos (by simp only [List.length_singleton]; omega),Ca hb]
      refine ⟨rfl, ?_⟩
      simp only [List.length_append,List.length_cons,List.length_nil] at i2 ⊢
      omega
theorem GG (n:Int) (h0: -9223372036854775808≤n) (h1:n≤9223372036854775807):jz n=some (Lib.itoa n):=
 iJ 19 fun k hk=>(Bl 19 n (by omega) (by omega) h0 h1 (by decide) (by decide) k hk).1
theorem lits:cS.length=5∧aU.length=3∧bP.length=1∧aX.length=4∧gX.length=11∧dG.length=2∧bQ.length=2∧lz.length=8∧nj.length=3∧mh.length=1∧ng.length=5∧lB.length=3∧bq.length=1∧aG.length=1∧bW.length=2∧cx.length=1∧qH.length=2∧cU.length=2∧eW.length=1∧jF.length=2∧dO.length=5∧fK.length=9∧gW.length=5∧eX.length=6∧cT.length=5∧gU.length=5∧oP.length=7∧tH.length=3∧nq.length=11:=by decide
theorem oG {n:Int} (h:0≤n∧n≤65535):iM n=some (Lib.itoa n):=by
 unfold iM
 rw [GG n (by omega) (by omega),bE]
theorem oA {n:Int} (h:0≤n∧n≤65535):gT n=some (Lib.itoa n):=if_pos ⟨by omega,by omega⟩
theorem fX {n:Int} (h:0≤n∧n≤65535):(Lib.itoa n).length≤20:=(Bl 19 n (by omega) (by omega) (by omega) (by omega) (by decide) (by decide) 19 (Nat.le_refl _)).2
theorem nP {b t:List UInt8} (h:b.length+t.length≤140737488355328):bf b t=some ((t.length:Int),true,b++t):=if_pos h
theorem uy (b:List UInt8):kG b=some (b,b):=rfl
structure NL (m:Nat) (l:List (List UInt8)):Prop where
 xU:l.length≤10
 short: ∀ x ∈ l,x.length≤m
theorem A9 (sep:List UInt8) (m:Nat): ∀ r:List (List UInt8),(∀ x ∈ r,x.length≤m)→(Lib.joinTail sep r).length≤r.length*(sep.length+m)
 | [],_=>by simp [Lib.joinTail]
 | x::r,h=>by
  have ih:=A9 sep m r fun y hy=>h y (by simp [hy])
  have hx:=h x (by simp)
  have e:Lib.joinTail sep (x::r)=sep++x++Lib.joinTail sep r:=by simp [Lib.joinTail]
  rw [e,List.length_append,List.length_append,List.length_cons,Nat.succ_mul]
  omega
theorem iI {m:Nat} {l:List (List UInt8)} (h:NL m l) {sep:List UInt8} (hs:sep.length≤2):(Lib.join l sep).length≤10*(2+m):=by
 cases l with
 | nil=>simp [Lib.join_nil]
 | cons x r=>
  rw [Lib.join_cons,List.length_append]
  have h1:=A9 sep m r fun y hy=>h.short y (by simp [hy])
  have h2:=h.short x (by simp)
  have h3:=h.xU
  rw [List.length_cons] at h3
  have h4:r.length*(sep.length+m)≤9*(2+m):=Nat.mul_le_mul (by omega) (by omega)
  omega
theorem s_ {m:Nat} {l:List (List UInt8)} (h:NL m l) (hm:m≤1000) {sep:List UInt8} (hs:sep.length≤2):k8 l sep=some (Lib.join l sep):=by
 have :=iI h hs
 have :=h.xU
 exact if_pos ⟨by omega,by omega⟩
theorem DK {m:Nat} {x:List UInt8} {r:List (List UInt8)} (h:NL m (x::r)) (hm:m≤1000) {sep:List UInt8} (hs:sep.length≤2): ∀ q e k,e+q=r.length→lf (k+q+1) (x::r) sep (x++Lib.joinTail sep (r.take e)) ((e+1:Nat):Int)=some (Lib.join (x::r) sep)
 | 0,e,k,he=>by
  rw [lf.eq_2,if_neg (by rw [List.length_cons]; omega),Lib.join_cons,List.take_of_length_le (by omega)]
 | q+1,e,k,he=>by
  have hf:=h.xU
  rw [List.length_cons] at hf
  have hlt:e<r.length:=by omega
  have hx:=h.short x (by simp)
  have hy:=h.short (r[e]) (by simp)
  have h1:=A9 sep m (r.take e) fun y hy=>h.short y (List.mem_cons_of_mem _ (List.mem_of_mem_take hy))
  have h4:(r.take e).length*(sep.length+m)≤9*(2+m):=Nat.mul_le_mul (by rw [List.length_take]; omega) (by omega)
  have hg:(x::r).getD (((e+1:Nat):Int)).toNat []=r[e]:=by
   rw [Int.toNat_natCast,List.getD_cons_succ,List.getD_eq_getElem?_getD,List.getElem?_eq_getElem hlt]; rfl
  have ih:=DK h hm hs q (e+1) k (by omega)
  rw [Lib.joinTail_take_succ sep r e (r[e]) (List.getElem?_eq_getElem hlt)] at ih
  rw [show k+(q+1)+1=(k+q+1)+1 from by omega,lf.eq_2,if_pos (by rw [List.length_cons]; omega),if_pos (by omega),if_pos (by rw [List.length_append]; omega),if_pos (by omega),if_pos (by rw [List.length_cons]; omega),hg,
   if_pos (by simp only [List.length_append]; omega),cJ (by omega) (by omega)]
  have e2:x++Lib.joinTail sep (r.take e)++sep++r[e]=x++(Lib.joinTail sep (r.take e)++sep++r[e]):=by simp only [List.append_assoc]
  rw [e2]
  exact ih
theorem sY {m:Nat} {l:List (List UInt8)} (h:NL m l) (hm:m≤1000) {sep:List UInt8} (hs:sep.length≤2):l9 l sep=some (Lib.join l sep):=iJ (l.length+2) fun k hk=>by
 show lf k l sep [] 0=_
 cases l with
 | nil=>
  obtain ⟨k,rfl⟩: ∃ j,k=j+1:=⟨k - 1,by omega⟩
  rw [lf.eq_2,if_neg (by simp)]; rfl
 | cons x r=>
  rw [List.length_cons] at hk
  obtain ⟨k,rfl⟩: ∃ j,k=(j+r.length+1)+1:=⟨k - r.length - 2,by omega⟩
  have hx:=h.short x (by simp)
  rw [lf.eq_2,if_pos (by rw [List.length_cons]; omega),if_neg (by omega),if_pos (by omega),if_pos (by rw [List.length_cons]; omega),if_pos (by show 0+x.length≤_; omega)]
  have :=DK h hm hs r.length 0 k (by omega)
  rw [List.take_zero,show Lib.joinTail sep []= [] from rfl,List.append_nil] at this
  exact this
def bB {α:Type} (f:α→List UInt8):List α→List UInt8
 | []=> []
 | x::l=>f x++bB f l
theorem qz {α:Type} {f:α→List UInt8} {m:Nat} : ∀ {l:List α},(∀ x ∈ l,(f x).length≤m)→(bB f l).length≤m*l.length
 | [],_=>Nat.zero_le _
 | x::l,h=>by
  have ih:=qz (l:=l) fun y hy=>h y (by simp [hy])
  have hx:=h x (by simp)
  rw [bB,List.length_append,List.length_cons,Nat.mul_succ]
  omega
theorem drop_cons {α:Type} {l:List α} {e:Nat} (h:e<l.length) (z:α):l.drop e=l.getD e z::l.drop (e+1)∧l.getD e z ∈ l:=by
 have :l.getD e z=l[e]:=by rw [List.getD_eq_getElem?_getD,List.getElem?_eq_getElem h]; rfl
 rw [this]
 exact ⟨List.drop_eq_getElem_cons h,List.getElem_mem h⟩
end
end Go.Sy.Ex
namespace Go.Sy.Ex
open Go.Sy
noncomputable section
structure mE (i:aN):Prop where
 n:i.Name.length≤9
 c:i.eo.length≤9
 q:0≤i.mG∧i.mG≤65535
 e:0≤i.Ext∧i.Ext≤65535
 p:0≤i.Prio∧i.Prio≤65535
def ij (i:aN):List UInt8:=((((((((((dO++i.Name)++aU)++i.eo)++fK)++Lib.itoa i.mG)++gW)++Lib.itoa i.Ext)++eX)++Lib.itoa i.Prio)++bQ)
structure mD (c:aC):Prop where
 n:c.Name.length≤9
 f:c.aS.length≤9
 o:c.Port.length≤9
 t:c.To.length≤9
 q:0≤c.Cap∧c.Cap≤65535
 p:0≤c.Prio∧c.Prio≤65535
def iE (c:aC):List UInt8:=((((((((((((cT++c.Name)++aU)++c.aS)++bP)++c.Port)++aX)++c.To)++gU)++Lib.itoa c.Cap)++eX)++Lib.itoa c.Prio)++bQ)
theorem zd {i:aN} (h:mE i):(ij i).length≤1000:=by
 obtain ⟨c0,c1,c2,c3,c4,c5,c6,c7,c8,c9,dz,er,eu,ew,ey,ez,eA,eB,eC,eD,eE,eF,eG,eH,eI,eJ,eK,eL,eM⟩:=lits
 have h1:=fX h.q
 have h2:=fX h.e
 have h3:=fX h.p
 have h4:=h.n
 have h5:=h.c
 unfold ij
 simp only [List.length_append]
 omega
theorem xm {i:aC} (h:mD i):(iE i).length≤1000:=by
 obtain ⟨c0,c1,c2,c3,c4,c5,c6,c7,c8,c9,dz,er,eu,ew,ey,ez,eA,eB,eC,eD,eE,eF,eG,eH,eI,eJ,eK,eL,eM⟩:=lits
 have h1:=fX h.q
 have h3:=fX h.p
 have h4:=h.n
 have h5:=h.f
 have h6:=h.o
 have h7:=h.t
 unfold iE
 simp only [List.length_append]
 omega
theorem Fo {l:List aN} (hl: ∀ i ∈ l,mE i) (hn:l.length≤100): ∀ r e b k,e+r=l.length→b.length≤1000*e→qN (k+r+1) b l (l.length:Int) (e:Int)=some (b++bB ij (l.drop e))
 | 0,e,b,k,he,hb=>by
  rw [qN.eq_2,if_neg (by omega),uy,bE,List.drop_of_length_le (by omega),bB,List.append_nil]
 | r+1,e,b,k,he,hb=>by
  obtain ⟨hd,hm⟩:=drop_cons (l:=l) (e:=e) (by omega) aN.z
  have hx:=hl _ hm
  have ht:=zd hx
  obtain ⟨c0,c1,c2,c3,c4,c5,c6,c7,c8,c9,dz,er,eu,ew,ey,ez,eA,eB,eC,eD,eE,eF,eG,eH,eI,eJ,eK,eL,eM⟩:=lits
  have ih:=Fo hl hn r (e+1) (b++ij (l.getD e aN.z)) k (by omega) (by rw [List.length_append]; omega)
  rw [show k+(r+1)+1=(k+r+1)+1 from by omega,qN.eq_2,if_pos (by omega),if_pos (by omega),if_pos (by omega),Int.toNat_natCast,hd,bB]
  generalize l.getD e aN.z=x at *
  have h1:=fX hx.q
  have h2:=fX hx.e
  have h3:=fX hx.p
  have h4:=hx.n
  have h5:=hx.c
  simp only [oA hx.q,oA hx.e,oA hx.p,bE]
  iterate 10 rw [if_pos (by first | omega | (simp only [List.length_append]; omega))]
  rw [show ((((((((((dO++x.Name)++aU)++x.eo)++fK)++Lib.itoa x.mG)++gW)++Lib.itoa x.Ext)++eX)++Lib.itoa x.Prio)++bQ)=ij x from rfl,nP (by omega),bE]
  dsimp only
  rw [cJ (by omega) (by omega),show (e:Int)+1=((e+1:Nat):Int) from by omega,ih,List.append_assoc]
theorem As {l:List aN} (hl: ∀ i ∈ l,mE i) (hn:l.length≤100):oT l=some (bB ij l):=iJ (l.length+1) fun k hk=>by
 obtain ⟨k,rfl⟩: ∃ j,k=j+l.length+1:=⟨k - l.length - 1,by omega⟩
 exact Fo hl hn l.length 0 [] k (by omega) (Nat.zero_le _)
theorem EB {l:List aN} (hl: ∀ i ∈ l,mE i) (hn:l.length≤100): ∀ r e b k,e+r=l.length→b.length≤1000*e→qq (k+r+1) l b (e:Int)=some (b++bB ij (l.drop e))
 | 0,e,b,k,he,hb=>by
  rw [qq.eq_2,if_neg (by omega),List.drop_of_length_le (by omega),bB,List.append_nil]
 | r+1,e,b,k,he,hb=>by
  obtain ⟨hd,hm⟩:=drop_cons (l:=l) (e:=e) (by omega) aN.z
  have hx:=hl _ hm
  have ht:=zd hx
  obtain ⟨c0,c1,c2,c3,c4,c5,c6,c7,c8,c9,dz,er,eu,ew,ey,ez,eA,eB,eC,eD,eE,eF,eG,eH,eI,eJ,eK,eL,eM⟩:=lits
  have ih:=EB hl hn r (e+1) (b++ij (l.getD e aN.z)) k (by omega) (by rw [List.length_append]; omega)
  rw [show k+(r+1)+1=(k+r+1)+1 from by omega,qq.eq_2,if_pos (by omega),if_pos (by omega),if_pos (by omega),Int.toNat_natCast,hd,bB]
  generalize l.getD e aN.z=x at *
  have h1:=fX hx.q
  have h2:=fX hx.e
  have h3:=fX hx.p
  have h4:=hx.n
  have h5:=hx.c
  simp only [oG hx.q,oG hx.e,oG hx.p,bE]
  iterate 11 rw [if_pos (by first | omega | (simp only [List.length_append]; omega))]
  rw [cJ (by omega) (by omega),show (e:Int)+1=((e+1:Nat):Int) from by omega]
  have e1:(((((((((((b++dO)++x.Name)++aU)++x.eo)++fK)++Lib.itoa x.mG)++gW)++Lib.itoa x.Ext)++eX)++Lib.itoa x.Prio)++bQ)=b++ij x:=by unfold ij; simp only [List.append_assoc]
  rw [e1,ih,List.append_assoc]
theorem EA {l:List aN} (hl: ∀ i ∈ l,mE i) (hn:l.length≤100):qp l=some (bB ij l):=iJ (l.length+1) fun k hk=>by
 obtain ⟨k,rfl⟩: ∃ j,k=j+l.length+1:=⟨k - l.length - 1,by omega⟩
 exact EB hl hn l.length 0 [] k (by omega) (Nat.zero_le _)
theorem Fm {l:List aC} (hl: ∀ i ∈ l,mD i) (hn:l.length≤100): ∀ r e b k,e+r=l.length→b.length≤1000*e→qM (k+r+1) b l (l.length:Int) (e:Int)=some (b++bB iE (l.drop e))
 | 0,e,b,k,he,hb=>by
  rw [qM.eq_2,if_neg (by omega),uy,bE,List.drop_of_length_le (by omega),bB,List.append_nil]
 | r+1,e,b,k,he,hb=>by
  obtain ⟨hd,hm⟩:=drop_cons (l:=l) (e:=e) (by omega) aC.z
  have hx:=hl _ hm
  have ht:=xm hx
  obtain ⟨c0,c1,c2,c3,c4,c5,c6,c7,c8,c9,dz,er,eu,ew,ey,ez,eA,eB,eC,eD,eE,eF,eG,eH,eI,eJ,eK,eL,eM⟩:=lits
  have ih:=Fm hl hn r (e+1) (b++iE (l.getD e aC.z)) k (by omega) (by rw [List.length_append]; omega)
  rw [show k+(r+1)+1=(k+r+1)+1 from by omega,qM.eq_2,if_pos (by omega),if_pos (by omega),if_pos (by omega),Int.toNat_natCast,hd,bB]
  generalize l.getD e aC.z=x at *
  have h1:=fX hx.q
  have h3:=fX hx.p
  have h4:=hx.n
  have h5:=hx.f
  have h6:=hx.o
  have h7:=hx.t
  simp only [oA hx.q,oA hx.p,bE]
  iterate 12 rw [if_pos (by first | omega | (simp only [List.length_append]; omega))]
  rw [show ((((((((((((cT++x.Name)++aU)++x.aS)++bP)++x.Port)++aX)++x.To)++gU)++Lib.itoa x.Cap)++eX)++Lib.itoa x.Prio)++bQ)=iE x from rfl,nP (by omega),bE]
  dsimp only
  rw [cJ (by omega) (by omega),show (e:Int)+1=((e+1:Nat):Int) from by omega,ih,List.append_assoc]
theorem Fl {l:List aC} (hl: ∀ i ∈ l,mD i) (hn:l.length≤100):qL l=some (bB iE l):=iJ (l.length+1) fun k hk=>by
 obtain ⟨k,rfl⟩: ∃ j,k=j+l.length+1:=⟨k - l.length - 1,by omega⟩
 exact Fm hl hn l.length 0 [] k (by omega) (Nat.zero_le _)
theorem Ez {l:List aC} (hl: ∀ i ∈ l,mD i) (hn:l.length≤100): ∀ r e b k,e+r=l.length→b.length≤1000*e→qo (k+r+1) l b (e:Int)=some (b++bB iE (l.drop e))
 | 0,e,b,k,he,hb=>by
  rw [qo.eq_2,if_neg (by omega),List.drop_of_length_le (by omega),bB,List.append_nil]
 | r+1,e,b,k,he,hb=>by
  obtain ⟨hd,hm⟩:=drop_cons (l:=l) (e:=e) (by omega) aC.z
  have hx:=hl _ hm
  have ht:=xm hx
  obtain ⟨c0,c1,c2,c3,c4,c5,c6,c7,c8,c9,dz,er,eu,ew,ey,ez,eA,eB,eC,eD,eE,eF,eG,eH,eI,eJ,eK,eL,eM⟩:=lits
  have ih:=Ez hl hn r (e+1) (b++iE (l.getD e aC.z)) k (by omega) (by rw [List.length_append]; omega)
  rw [show k+(r+1)+1=(k+r+1)+1 from by omega,qo.eq_2,if_pos (by omega),if_pos (by omega),if_pos (by omega),Int.toNat_natCast,hd,bB]
  generalize l.getD e aC.z=x at *
  have h1:=fX hx.q
  have h3:=fX hx.p
  have h4:=hx.n
  have h5:=hx.f
  have h6:=hx.o
  have h7:=hx.t
  simp only [oG hx.q,oG hx.p,bE]
  iterate 13 rw [if_pos (by first | omega | (simp only [List.length_append]; omega))]
  rw [cJ (by omega) (by omega),show (e:Int)+1=((e+1:Nat):Int) from by omega]
  have e1:(((((((((((((b++cT)++x.Name)++aU)++x.aS)++bP)++x.Port)++aX)++x.To)++gU)++Lib.itoa x.Cap)++eX)++Lib.itoa x.Prio)++bQ)=b++iE x:=by unfold iE; simp only [List.append_assoc]
  rw [e1,ih,List.append_assoc]
theorem Ey {l:List aC} (hl: ∀ i ∈ l,mD i) (hn:l.length≤100):qn l=some (bB iE l):=iJ (l.length+1) fun k hk=>by
 obtain ⟨k,rfl⟩: ∃ j,k=j+l.length+1:=⟨k - l.length - 1,by omega⟩
 exact Ez hl hn l.length 0 [] k (by omega) (Nat.zero_le _)
end
end Go.Sy.Ex
namespace Go.Sy.Ex
open Go.Sy
noncomputable section
structure iy (c:bN):Prop where
 r:0≤c.lK∧c.lK≤65535
 s:c.Sets.length≤10∧ ∀ x ∈ c.Sets,NL 9 x
 m:c.dI.length≤10∧ ∀ x ∈ c.dI,NL 9 x
def iP (s:List (List UInt8)):List UInt8:=if (s.length:Int)=0 then nj else Lib.join s mh
def kZ (m:List (List UInt8)):List UInt8:=((bW++Lib.join m aG)++cx)
def jU (c:bN):List UInt8:=((((((ng++Lib.itoa c.lK)++lB)++Lib.join (c.Sets.map iP) dG)++bq)++bB kZ c.dI)++qH)
theorem M5 {s:List (List UInt8)} (h:NL 9 s):(iP s).length≤110:=by
 unfold iP
 split
 · decide
 · exact iI h (by decide)
theorem zw {s:List (List UInt8)} (h:NL 9 s):(kZ s).length≤120:=by
 have :=iI h (sep:=aG) (by decide)
 obtain ⟨c0,c1,c2,c3,c4,c5,c6,c7,c8,c9,dz,er,eu,ew,ey,ez,eA,eB,eC,eD,eE,eF,eG,eH,eI,eJ,eK,eL,eM⟩:=lits
 unfold kZ
 simp only [List.length_append]
 omega
theorem tL {l:List (List (List UInt8))} (h:l.length≤10∧ ∀ x ∈ l,NL 9 x):NL 110 (l.map iP):=⟨by rw [List.length_map]; exact h.1,fun x hx=>by
 obtain ⟨y,hy,rfl⟩:=List.mem_map.1 hx
 exact M5 (h.2 y hy)⟩
theorem BS {c:bN} (h:iy c):(jU c).length≤2400:=by
 have h1:=fX h.r
 have h2:=iI (tL h.s) (sep:=dG) (by decide)
 have h3:=qz (f:=kZ) (m:=120) (l:=c.dI) fun x hx=>zw (h.m.2 x hx)
 have h4:=h.m.1
 obtain ⟨c0,c1,c2,c3,c4,c5,c6,c7,c8,c9,dz,er,eu,ew,ey,ez,eA,eB,eC,eD,eE,eF,eG,eH,eI,eJ,eK,eL,eM⟩:=lits
 unfold jU
 simp only [List.length_append]
 omega
theorem map_take {α β:Type} (f:α→β) {l:List α} {e:Nat} (h:e<l.length) (z:α):(l.take (e+1)).map f=(l.take e).map f++ [f (l.getD e z)]:=by
 have :l.getD e z=l[e]:=by rw [List.getD_eq_getElem?_getD,List.getElem?_eq_getElem h]; rfl
 rw [this,List.take_add_one,List.getElem?_eq_getElem h,List.map_append]; rfl
theorem Fp {l:List (List (List UInt8))} (hl:l.length≤10∧ ∀ x ∈ l,NL 9 x): ∀ r e t k,e+r=l.length→t.length≤2000+120*e→qO (k+r+1) t l (l.length:Int) (e:Int)=some ((t++bB kZ (l.drop e))++qH)
 | 0,e,t,k,he,ht=>by
  obtain ⟨c0,c1,c2,c3,c4,c5,c6,c7,c8,c9,dz,er,eu,ew,ey,ez,eA,eB,eC,eD,eE,eF,eG,eH,eI,eJ,eK,eL,eM⟩:=lits
  have :=hl.1
  rw [qO.eq_2,if_neg (by omega),if_pos (by omega),List.drop_of_length_le (by omega),bB,List.append_nil]
 | r+1,e,t,k,he,ht=>by
  obtain ⟨hd,hm⟩:=drop_cons (l:=l) (e:=e) (by omega) []
  have hx:=hl.2 _ hm
  have hj:=iI hx (sep:=aG) (by decide)
  have hq:=zw hx
  have :=hl.1
  obtain ⟨c0,c1,c2,c3,c4,c5,c6,c7,c8,c9,dz,er,eu,ew,ey,ez,eA,eB,eC,eD,eE,eF,eG,eH,eI,eJ,eK,eL,eM⟩:=lits
  have ih:=Fp hl r (e+1) (t++kZ (l.getD e [])) k (by omega) (by rw [List.length_append]; omega)
  rw [show k+(r+1)+1=(k+r+1)+1 from by omega,qO.eq_2,if_pos (by omega),if_pos (by omega),if_pos (by omega),Int.toNat_natCast,hd,bB]
  generalize l.getD e []=x at *
  rw [s_ hx (by decide) (by decide),bE]
  iterate 3 rw [if_pos (by first | omega | (simp only [List.length_append]; omega))]
  rw [cJ (by omega) (by omega),show (e:Int)+1=((e+1:Nat):Int) from by omega]
  refine Eq.trans ih ?_
  rw [List.append_assoc t]
theorem EC {l:List (List (List UInt8))} (hl:l.length≤10∧ ∀ x ∈ l,NL 9 x) (R:Int) (Ss:List (List (List UInt8))) (A:Int): ∀ r e t k,e+r=l.length→t.length≤2000+120*e→qt (k+r+1) R Ss l A t (e:Int)=some ((t++bB kZ (l.drop e))++tH)
 | 0,e,t,k,he,ht=>by
  obtain ⟨c0,c1,c2,c3,c4,c5,c6,c7,c8,c9,dz,er,eu,ew,ey,ez,eA,eB,eC,eD,eE,eF,eG,eH,eI,eJ,eK,eL,eM⟩:=lits
  have :=hl.1
  rw [qt.eq_2,if_neg (by omega),if_pos (by omega),List.drop_of_length_le (by omega),bB,List.append_nil]
 | r+1,e,t,k,he,ht=>by
  obtain ⟨hd,hm⟩:=drop_cons (l:=l) (e:=e) (by omega) []
  have hx:=hl.2 _ hm
  have hj:=iI hx (sep:=aG) (by decide)
  have hq:=zw hx
  have :=hl.1
  obtain ⟨c0,c1,c2,c3,c4,c5,c6,c7,c8,c9,dz,er,eu,ew,ey,ez,eA,eB,eC,eD,eE,eF,eG,eH,eI,eJ,eK,eL,eM⟩:=lits
  have ih:=EC hl R Ss A r (e+1) (t++kZ (l.getD e [])) k (by omega) (by rw [List.length_append]; omega)
  rw [show k+(r+1)+1=(k+r+1)+1 from by omega,qt.eq_2,if_pos (by omega),if_pos (by omega),if_pos (by omega),if_pos (by omega),Int.toNat_natCast,hd,bB]
  generalize l.getD e []=x at *
  rw [sY hx (by decide) (by decide),bE]
  iterate 2 rw [if_pos (by first | omega | (simp only [List.length_append]; omega))]
  rw [cJ (by omega) (by omega),show (e:Int)+1=((e+1:Nat):Int) from by omega]
  have e1:((t++bW)++Lib.join x aG)++cx=t++kZ x:=by unfold kZ; simp only [List.append_assoc]
  rw [e1]
  refine Eq.trans ih ?_
  rw [List.append_assoc t]
theorem Fq {c:bN} (hc:iy c): ∀ r e k,e+r=c.Sets.length→oU (k+c.dI.length+2+r) c.lK c.Sets c.dI c.At ((c.Sets.take e).map iP) c.Sets (c.Sets.length:Int) (e:Int)=some (jU c)
 | 0,e,k,he=>by
  obtain ⟨c0,c1,c2,c3,c4,c5,c6,c7,c8,c9,dz,er,eu,ew,ey,ez,eA,eB,eC,eD,eE,eF,eG,eH,eI,eJ,eK,eL,eM⟩:=lits
  have h1:=fX hc.r
  have h2:=iI (tL hc.s) (sep:=dG) (by decide)
  rw [Nat.add_zero,show k+c.dI.length+2=(k+c.dI.length+1)+1 from rfl,oU.eq_2,if_neg (by omega),List.take_of_length_le (by omega)]
  simp only [oA hc.r,s_ (tL hc.s) (by decide) (show dG.length≤2 by decide),bE]
  iterate 4 rw [if_pos (by first | omega | (simp only [List.length_append]; omega))]
  exact Fp hc.m c.dI.length 0 _ k (by omega) (by simp only [List.length_append]; omega)
 | r+1,e,k,he=>by
  obtain ⟨hd,hm⟩:=drop_cons (l:=c.Sets) (e:=e) (by omega) []
  have hx:=hc.s.2 _ hm
  have hn:=hc.s.1
  have ih:=Fq hc r (e+1) k (by omega)
  rw [map_take iP (l:=c.Sets) (e:=e) (by omega) []] at ih
  have hl: ∀ y:List UInt8,(((c.Sets.take e).map iP).length+ [y].length)*16≤140737488355328:=fun y=>by
   rw [List.length_map,List.length_take,List.length_singleton]; omega
  rw [show k+c.dI.length+2+(r+1)=(k+c.dI.length+2+r)+1 from by omega,oU.eq_2,if_pos (by omega),if_pos (by omega),if_pos (by omega),Int.toNat_natCast]
  generalize c.Sets.getD e []=x at *
  by_cases hz:(x.length:Int)=0
  · rw [show iP x=nj from if_pos hz] at ih
    rw [if_pos hz,if_pos (hl _),cJ (by omega) (by omega),show (e:Int)+1=((e+1:Nat):Int) from by omega]
    exact ih
  · rw [show iP x=Lib.join x mh from if_neg hz] at ih
    rw [if_neg hz,s_ hx (by decide) (by decide),bE,if_pos (hl _),cJ (by omega) (by omega),show (e:Int)+1=((e+1:Nat):Int) from by omega]
    exact ih
theorem MP {c:bN} (hc:iy c):wo c=some (jU c):=iJ (c.dI.length+2+c.Sets.length) fun k hk=>by
 obtain ⟨k,rfl⟩: ∃ j,k=j+c.dI.length+2+c.Sets.length:=⟨k - (c.dI.length+2+c.Sets.length),by omega⟩
 exact Fq hc c.Sets.length 0 k (by omega)
theorem ED {c:bN} (hc:iy c): ∀ r e k,e+r=c.Sets.length→oI (k+c.dI.length+2+r) c.lK c.Sets c.dI c.At ((c.Sets.take e).map iP) (e:Int)=some ((cU++jU c)++eW)
 | 0,e,k,he=>by
  obtain ⟨c0,c1,c2,c3,c4,c5,c6,c7,c8,c9,dz,er,eu,ew,ey,ez,eA,eB,eC,eD,eE,eF,eG,eH,eI,eJ,eK,eL,eM⟩:=lits
  have h1:=fX hc.r
  have h2:=iI (tL hc.s) (sep:=dG) (by decide)
  rw [Nat.add_zero,show k+c.dI.length+2=(k+c.dI.length+1)+1 from rfl,oI.eq_2,if_neg (by omega),List.take_of_length_le (by omega)]
  simp only [oG hc.r,sY (tL hc.s) (by decide) (show dG.length≤2 by decide),bE]
  iterate 4 rw [if_pos (by first | omega | (simp only [List.length_append]; omega))]
  refine Eq.trans (EC hc.m c.lK c.Sets c.At c.dI.length 0 _ k (by omega) (by simp only [List.length_append]; omega)) ?_
  have e1:oP=cU++ng:=rfl
  have e2:tH=qH++eW:=rfl
  rw [e1,e2,List.drop_zero]
  unfold jU
  simp only [List.append_assoc]
 | r+1,e,k,he=>by
  obtain ⟨hd,hm⟩:=drop_cons (l:=c.Sets) (e:=e) (by omega) []
  have hx:=hc.s.2 _ hm
  have hn:=hc.s.1
  have ih:=ED hc r (e+1) k (by omega)
  rw [map_take iP (l:=c.Sets) (e:=e) (by omega) []] at ih
  have hl: ∀ y:List UInt8,(((c.Sets.take e).map iP).length+ [y].length)*16≤140737488355328:=fun y=>by
   rw [List.length_map,List.length_take,List.length_singleton]; omega
  rw [show k+c.dI.length+2+(r+1)=(k+c.dI.length+2+r)+1 from by omega,oI.eq_2,if_pos (by omega),if_pos (by omega),if_pos (by omega),Int.toNat_natCast]
  generalize c.Sets.getD e []=x at *
  by_cases hz:(x.length:Int)=0
  · rw [show iP x=nj from if_pos hz] at ih
    rw [if_pos hz,if_pos (hl _),cJ (by omega) (by omega),show (e:Int)+1=((e+1:Nat):Int) from by omega]
    exact ih
  · rw [show iP x=Lib.join x mh from if_neg hz] at ih
    rw [if_neg hz,if_pos (by omega),if_pos (by omega),sY hx (by decide) (by decide),bE,if_pos (hl _),cJ (by omega) (by omega),show (e:Int)+1=((e+1:Nat):Int) from by omega]
    exact ih
theorem LJ {c:bN} (hc:iy c):vN c=some ((cU++jU c)++eW):=iJ (c.dI.length+2+c.Sets.length) fun k hk=>by
 obtain ⟨k,rfl⟩: ∃ j,k=j+c.dI.length+2+c.Sets.length:=⟨k - (c.dI.length+2+c.Sets.length),by omega⟩
 exact ED hc c.Sets.length 0 k (by omega)
structure jS (x:an):Prop where
 n:x.Name.length≤9
 i:x.cW.length≤9
 q:x.dR.length≤9
 p:x.eZ.length≤9
 l:NL 9 x.Insts
 k:NL 9 x.fZ
 c:x.Cells.length≤40∧ ∀ y ∈ x.Cells,iy y
def iY (c:bN):List UInt8:=((cU++jU c)++eW)
def j5 (x:an):List UInt8:=((((((((((cS++x.Name)++aU)++x.cW)++bP)++x.dR)++aX)++x.eZ)++gX)++Lib.join x.Insts dG)++bQ)
def kT (x:an):List UInt8:=if 0<(x.fZ.length:Int) then ((lz++Lib.join x.fZ dG)++bQ) else []
def fy (x:an):List UInt8:=((j5 x++kT x)++bB iY x.Cells)++jF
theorem zn {c:bN} (h:iy c):(iY c).length≤2403:=by
 have :=BS h
 obtain ⟨c0,c1,c2,c3,c4,c5,c6,c7,c8,c9,dz,er,eu,ew,ey,ez,eA,eB,eC,eD,eE,eF,eG,eH,eI,eJ,eK,eL,eM⟩:=lits
 unfold iY
 simp only [List.length_append]
 omega
theorem yD {x:an} (h:jS x):(j5 x).length≤500∧(kT x).length≤300:=by
 have h1:=iI h.l (sep:=dG) (by decide)
 have h2:=iI h.k (sep:=dG) (by decide)
 have h3:=h.n
 have h4:=h.i
 have h5:=h.q
 have h6:=h.p
 obtain ⟨c0,c1,c2,c3,c4,c5,c6,c7,c8,c9,dz,er,eu,ew,ey,ez,eA,eB,eC,eD,eE,eF,eG,eH,eI,eJ,eK,eL,eM⟩:=lits
 constructor
 · unfold j5
   simp only [List.length_append]
   omega
 · unfold kT
   split
   · simp only [List.length_append]; omega
   · exact Nat.zero_le _
theorem xl {x:an} (h:jS x):(fy x).length≤100000:=by
 obtain ⟨h1,h2⟩:=yD h
 have h3:=qz (f:=iY) (m:=2403) (l:=x.Cells) fun y hy=>zn (h.c.2 y hy)
 have h4:=h.c.1
 obtain ⟨c0,c1,c2,c3,c4,c5,c6,c7,c8,c9,dz,er,eu,ew,ey,ez,eA,eB,eC,eD,eE,eF,eG,eH,eI,eJ,eK,eL,eM⟩:=lits
 unfold fy
 simp only [List.length_append]
 omega
theorem Fj {l:List bN} (hl:l.length≤40∧ ∀ y ∈ l,iy y) (X:List an) (a i:Int) (N:Nat) (hN:N≤10000000): ∀ r e b k,e+r=l.length→b.length≤N+2403*e→nu (k+r+1) b X a i l (l.length:Int) (e:Int)=oS k ((b++bB iY (l.drop e))++jF) X a (aj (i+1))
 | 0,e,b,k,he,hb=>by
  have :=hl.1
  obtain ⟨c0,c1,c2,c3,c4,c5,c6,c7,c8,c9,dz,er,eu,ew,ey,ez,eA,eB,eC,eD,eE,eF,eG,eH,eI,eJ,eK,eL,eM⟩:=lits
  rw [nu.eq_2,if_neg (by omega),nP (by omega),bE,List.drop_of_length_le (by omega),bB,List.append_nil]
 | r+1,e,b,k,he,hb=>by
  obtain ⟨hd,hm⟩:=drop_cons (l:=l) (e:=e) (by omega) bN.z
  have hx:=hl.2 _ hm
  have ht:=BS hx
  have hq:=zn hx
  have :=hl.1
  obtain ⟨c0,c1,c2,c3,c4,c5,c6,c7,c8,c9,dz,er,eu,ew,ey,ez,eA,eB,eC,eD,eE,eF,eG,eH,eI,eJ,eK,eL,eM⟩:=lits
  have ih:=Fj hl X a i N hN r (e+1) (b++iY (l.getD e bN.z)) k (by omega) (by rw [List.length_append]; omega)
  rw [show k+(r+1)+1=(k+r+1)+1 from by omega,nu.eq_2,if_pos (by omega),if_pos (by omega),if_pos (by omega),Int.toNat_natCast,hd,bB]
  generalize l.getD e bN.z=x at *
  rw [MP hx,bE]
  iterate 2 rw [if_pos (by first | omega | (simp only [List.length_append]; omega))]
  rw [show (cU++jU x)++eW=iY x from rfl,nP (by omega),bE]
  dsimp only
  rw [cJ (n:=(e:Int)+1) (by omega) (by omega),show (e:Int)+1=((e+1:Nat):Int) from by omega,ih,List.append_assoc b]
theorem Eu {l:List bN} (hl:l.length≤40∧ ∀ y ∈ l,iy y) (X:List an) (i:Int) (x1 x2 x3 x4:List UInt8) (x5 x6:List (List UInt8)) (x7:Int) (N:Nat) (hN:N≤10000000): ∀ r e b k,e+r=l.length→b.length≤N+2403*e→mX (k+r+1) X b i x1 x2 x3 x4 x5 x6 l x7 (e:Int)=oH k X ((b++bB iY (l.drop e))++jF) (aj (i+1))
 | 0,e,b,k,he,hb=>by
  have :=hl.1
  obtain ⟨c0,c1,c2,c3,c4,c5,c6,c7,c8,c9,dz,er,eu,ew,ey,ez,eA,eB,eC,eD,eE,eF,eG,eH,eI,eJ,eK,eL,eM⟩:=lits
  rw [mX.eq_2,if_neg (by omega),if_pos (by omega),List.drop_of_length_le (by omega),bB,List.append_nil]
 | r+1,e,b,k,he,hb=>by
  obtain ⟨hd,hm⟩:=drop_cons (l:=l) (e:=e) (by omega) bN.z
  have hx:=hl.2 _ hm
  have hq:=zn hx
  have :=hl.1
  have ih:=Eu hl X i x1 x2 x3 x4 x5 x6 x7 N hN r (e+1) (b++iY (l.getD e bN.z)) k (by omega) (by rw [List.length_append]; omega)
  rw [show k+(r+1)+1=(k+r+1)+1 from by omega,mX.eq_2,if_pos (by omega),if_pos (by omega),if_pos (by omega),Int.toNat_natCast,hd,bB]
  generalize l.getD e bN.z=x at *
  rw [LJ hx,bE,show (cU++jU x)++eW=iY x from rfl,if_pos (by omega),cJ (n:=(e:Int)+1) (by omega) (by omega),show (e:Int)+1=((e+1:Nat):Int) from by omega,ih,List.append_assoc b]
end
end Go.Sy.Ex
namespace Go.Sy.Ex
open Go.Sy
noncomputable section
theorem Fk {l:List an} (hl: ∀ i ∈ l,jS i) (hn:l.length≤10): ∀ r e b k,e+r=l.length→b.length≤100000*e→oS (k+42*r+1) b l (l.length:Int) (e:Int)=some (b++bB fy (l.drop e))
 | 0,e,b,k,he,hb=>by
  rw [Nat.mul_zero,Nat.add_zero,oS.eq_2,if_neg (by omega),uy,bE,List.drop_of_length_le (by omega),bB,List.append_nil]
 | r+1,e,b,k,he,hb=>by
  obtain ⟨hd,hm⟩:=drop_cons (l:=l) (e:=e) (by omega) an.z
  have hx:=hl _ hm
  have ht:=xl hx
  obtain ⟨c0,c1,c2,c3,c4,c5,c6,c7,c8,c9,dz,er,eu,ew,ey,ez,eA,eB,eC,eD,eE,eF,eG,eH,eI,eJ,eK,eL,eM⟩:=lits
  have ih:=fun j=>Fk hl hn r (e+1) (b++fy (l.getD e an.z)) j (by omega) (by rw [List.length_append]; omega)
  rw [show k+42*(r+1)+1=(k+42*r+42)+1 from by omega,oS.eq_2,if_pos (by omega),if_pos (by omega),if_pos (by omega),Int.toNat_natCast,hd,bB]
  generalize l.getD e an.z=x at *
  have h1:=iI hx.l (sep:=dG) (by decide)
  have h2:=iI hx.k (sep:=dG) (by decide)
  have h3:=hx.n
  have h4:=hx.i
  have h5:=hx.q
  have h6:=hx.p
  have h7:=hx.c.1
  obtain ⟨h8,h9⟩:=yD hx
  obtain ⟨k',hk'⟩: ∃ k',k+42*r+42=(k'+42*r+1)+x.Cells.length+1:=⟨k+40 - x.Cells.length,by omega⟩
  simp only [s_ hx.l (by decide) (show dG.length≤2 by decide),s_ hx.k (by decide) (show dG.length≤2 by decide),bE]
  iterate 10 rw [if_pos (by first | omega | (simp only [List.length_append]; omega))]
  rw [show ((((((((((cS++x.Name)++aU)++x.cW)++bP)++x.dR)++aX)++x.eZ)++gX)++Lib.join x.Insts dG)++bQ)=j5 x from rfl,nP (by omega),bE]
  dsimp only
  have fin: ∀ t,t=b++j5 x++kT x→nu (k+42*r+42) t l (l.length:Int) (e:Int) x.Cells (x.Cells.length:Int) 0=some (b++(fy x++bB fy (l.drop (e+1)))):=fun t ht=>by
   rw [hk']
   refine Eq.trans (Fj hx.c l (l.length:Int) (e:Int) 2000000 (by omega) x.Cells.length 0 t (k'+42*r+1) (by omega) (by rw [ht]; simp only [List.length_append]; omega)) ?_
   rw [cJ (by omega) (by omega),show (e:Int)+1=((e+1:Nat):Int) from by omega,List.drop_zero,ht]
   have e1:(b++j5 x++kT x++bB iY x.Cells)++jF=b++fy x:=by unfold fy; simp only [List.append_assoc]
   rw [e1,ih,List.append_assoc]
  by_cases hz:0<(x.fZ.length:Int)
  · rw [if_pos hz]
    iterate 2 rw [if_pos (by first | omega | (simp only [List.length_append]; omega))]
    have e2:((lz++Lib.join x.fZ dG)++bQ)=kT x:=by unfold kT; rw [if_pos hz]
    rw [e2,nP (by rw [List.length_append]; omega),bE]
    exact fin _ rfl
  · rw [if_neg hz]
    refine fin _ ?_
    unfold kT
    rw [if_neg hz,List.append_nil]
theorem Ar {l:List an} (hl: ∀ i ∈ l,jS i) (hn:l.length≤10):nr l=some (bB fy l):=iJ (42*l.length+1) fun k hk=>by
 obtain ⟨k,rfl⟩: ∃ j,k=j+42*l.length+1:=⟨k - 42*l.length - 1,by omega⟩
 exact Fk hl hn l.length 0 [] k (by omega) (Nat.zero_le _)
theorem Ew {l:List an} (hl: ∀ i ∈ l,jS i) (hn:l.length≤10): ∀ r e b k,e+r=l.length→b.length≤100000*e→oH (k+42*r+1) l b (e:Int)=some (b++bB fy (l.drop e))
 | 0,e,b,k,he,hb=>by
  rw [Nat.mul_zero,Nat.add_zero,oH.eq_2,if_neg (by omega),List.drop_of_length_le (by omega),bB,List.append_nil]
 | r+1,e,b,k,he,hb=>by
  obtain ⟨hd,hm⟩:=drop_cons (l:=l) (e:=e) (by omega) an.z
  have hx:=hl _ hm
  have ht:=xl hx
  obtain ⟨c0,c1,c2,c3,c4,c5,c6,c7,c8,c9,dz,er,eu,ew,ey,ez,eA,eB,eC,eD,eE,eF,eG,eH,eI,eJ,eK,eL,eM⟩:=lits
  have ih:=fun j=>Ew hl hn r (e+1) (b++fy (l.getD e an.z)) j (by omega) (by rw [List.length_append]; omega)
  rw [show k+42*(r+1)+1=(k+42*r+42)+1 from by omega,oH.eq_2,if_pos (by omega),if_pos (by omega),if_pos (by omega),Int.toNat_natCast,hd,bB]
  generalize l.getD e an.z=x at *
  have h1:=iI hx.l (sep:=dG) (by decide)
  have h2:=iI hx.k (sep:=dG) (by decide)
  have h3:=hx.n
  have h4:=hx.i
  have h5:=hx.q
  have h6:=hx.p
  have h7:=hx.c.1
  obtain ⟨h8,h9⟩:=yD hx
  obtain ⟨k',hk'⟩: ∃ k',k+42*r+42=(k'+42*r+1)+x.Cells.length+1:=⟨k+40 - x.Cells.length,by omega⟩
  simp only [sY hx.l (by decide) (show dG.length≤2 by decide),sY hx.k (by decide) (show dG.length≤2 by decide),bE]
  iterate 11 rw [if_pos (by first | omega | (simp only [List.length_append]; omega))]
  have e3:((((((((((((b++cS)++x.Name)++aU)++x.cW)++bP)++x.dR)++aX)++x.eZ)++gX)++Lib.join x.Insts dG)++bQ))=b++j5 x:=by unfold j5; simp only [List.append_assoc]
  rw [e3]
  have fin: ∀ t,t=b++j5 x++kT x→mX (k+42*r+42) l t (e:Int) x.Name x.cW x.dR x.eZ x.Insts x.fZ x.Cells x.At 0=some (b++(fy x++bB fy (l.drop (e+1)))):=fun t ht=>by
   rw [hk']
   refine Eq.trans (Eu hx.c l (e:Int) _ _ _ _ _ _ _ 2000000 (by omega) x.Cells.length 0 t (k'+42*r+1) (by omega) (by rw [ht]; simp only [List.length_append]; omega)) ?_
   rw [cJ (by omega) (by omega),show (e:Int)+1=((e+1:Nat):Int) from by omega,List.drop_zero,ht]
   have e1:(b++j5 x++kT x++bB iY x.Cells)++jF=b++fy x:=by unfold fy; simp only [List.append_assoc]
   rw [e1,ih,List.append_assoc]
  by_cases hz:0<(x.fZ.length:Int)
  · rw [if_pos hz]
    iterate 3 rw [if_pos (by first | omega | (simp only [List.length_append]; omega))]
    refine fin _ ?_
    unfold kT
    rw [if_pos hz]
    simp only [List.append_assoc]
  · rw [if_neg hz]
    refine fin _ ?_
    unfold kT
    rw [if_neg hz,List.append_nil]
theorem Ev {l:List an} (hl: ∀ i ∈ l,jS i) (hn:l.length≤10):qm l=some (bB fy l):=iJ (42*l.length+1) fun k hk=>by
 obtain ⟨k,rfl⟩: ∃ j,k=j+42*l.length+1:=⟨k - 42*l.length - 1,by omega⟩
 exact Ew hl hn l.length 0 [] k (by omega) (Nat.zero_le _)
def F0 (a:Int) (I:List aN) (C:List aC) (X:List an):List UInt8:=((((nq++Lib.itoa a)++bQ)++bB ij I)++bB iE C)++bB fy X
section
variable {a:Int} {I:List aN} {C:List aC} {X:List an} (ha:0≤a∧a≤65535) (hI: ∀ i ∈ I,mE i) (mP:I.length≤10) (hC: ∀ i ∈ C,mD i) (yl:C.length≤10) (hX: ∀ i ∈ X,jS i) (si:X.length≤10)
include ha hI mP hC yl hX si
theorem F1:(Lib.itoa a).length≤20∧(bB ij I).length≤10000∧(bB iE C).length≤10000∧(bB fy X).length≤1000000:=by
 have h1:=qz (f:=ij) (m:=1000) (l:=I) fun y hy=>zd (hI y hy)
 have h2:=qz (f:=iE) (m:=1000) (l:=C) fun y hy=>xm (hC y hy)
 have h3:=qz (f:=fy) (m:=100000) (l:=X) fun y hy=>xl (hX y hy)
 exact ⟨fX ha,by omega,by omega,by omega⟩
theorem MQ:wh (fG.mk a [] I C X)=some (F0 a I C X):=iJ 1 fun k hk=>by
 obtain ⟨k,rfl⟩: ∃ j,k=j+1:=⟨k - 1,by omega⟩
 obtain ⟨h1,h2,h3,h4⟩:=F1 ha hI mP hC yl hX si
 obtain ⟨c0,c1,c2,c3,c4,c5,c6,c7,c8,c9,dz,er,eu,ew,ey,ez,eA,eB,eC,eD,eE,eF,eG,eH,eI,eJ,eK,eL,eM⟩:=lits
 show wj (k+1) (fG.mk a [] I C X)=_
 unfold wj
 dsimp only
 rw [oA ha,bE]
 iterate 2 rw [if_pos (by first | omega | (simp only [List.length_append]; omega))]
 rw [nP (by simp only [List.length_append,List.length_nil]; omega),bE]
 dsimp only
 rw [wk.eq_2,if_neg (by decide),uy,bE,As hI (by omega),bE]
 dsimp only
 rw [List.nil_append,if_pos (by simp only [List.length_append]; omega),Fl hC (by omega),bE,if_pos (by simp only [List.length_append]; omega),Ar hX si,bE,if_pos (by simp only [List.length_append]; omega)]
 rfl
theorem LK:vK (fG.mk a [] I C X)=some (F0 a I C X):=iJ 1 fun k hk=>by
 obtain ⟨k,rfl⟩: ∃ j,k=j+1:=⟨k - 1,by omega⟩
 obtain ⟨h1,h2,h3,h4⟩:=F1 ha hI mP hC yl hX si
 obtain ⟨c0,c1,c2,c3,c4,c5,c6,c7,c8,c9,dz,er,eu,ew,ey,ez,eA,eB,eC,eD,eE,eF,eG,eH,eI,eJ,eK,eL,eM⟩:=lits
 show vL (k+1) (fG.mk a [] I C X)=_
 unfold vL
 dsimp only
 rw [oG ha,bE]
 iterate 2 rw [if_pos (by first | omega | (simp only [List.length_append]; omega))]
 rw [vM.eq_2,if_neg (by decide),EA hI (by omega),bE,if_pos (by simp only [List.length_append]; omega),Ey hC (by omega),bE,if_pos (by simp only [List.length_append]; omega),Ev hX si,bE,if_pos (by simp only [List.length_append]; omega)]
 rfl
end
theorem Kn:Lib.itoa 2= [50]:=by
 have :Lib.itoa ((2:Nat):Int)= [50]:=by rw [Lib.itoa_nonneg 2,xJ (by decide)]; rfl
 exact this
theorem vE {l:List (List UInt8)} (h:(decide (l.length≤10)&&l.all fun x=>decide (x.length≤9))=true):NL 9 l:=by
 rw [Bool.and_eq_true] at h
 exact ⟨of_decide_eq_true h.1,fun x hx=>of_decide_eq_true (List.all_eq_true.1 h.2 x hx)⟩
theorem zg:oz=some true:=by
 have hc:iy (bN.mk 2 [[tK,v_],[]] [[v7],[]] 0):=⟨⟨by decide,by decide⟩,⟨by decide,fun x hx=>by simp at hx; rcases hx with rfl | rfl <;> exact vE (by decide)⟩,⟨by decide,fun x hx=>by simp at hx; rcases hx with rfl | rfl <;> exact vE (by decide)⟩⟩
 have hx:jS (an.mk AG oO AK AL [oO,vY] [AB,AF] [bN.mk 2 [[tK,v_],[]] [[v7],[]] 0] 0):=⟨by decide,by decide,by decide,by decide,vE (by decide),vE (by decide),by decide,fun y hy=>by simp at hy; subst hy; exact hc⟩
 unfold oz
 rw [Ar (fun i hi=>by simp at hi; subst hi; exact hx) (by decide),bE]
 have :bB fy [an.mk AG oO AK AL [oO,vY] [AB,AF] [bN.mk 2 [[tK,v_],[]] [[v7],[]] 0] 0]=Fs:=by
  simp only [bB,fy,j5,kT,iY,jU,Kn]
  decide
 rw [decide_eq_true this]
theorem Lg (a:Int): ∃ p:Nat,p<6∧oJ a 6=some (p:Int):=by
 have h1: -6<a.tmod 6:=Int.lt_tmod_of_pos a (by decide)
 have h2:a.tmod 6<6:=Int.tmod_lt_of_pos a (by decide)
 unfold oJ
 rw [if_pos (by decide)]
 by_cases h:a.tmod 6<0
 · rw [if_pos h,cJ (by omega) (by omega)]
   exact ⟨(a.tmod 6+6).toNat,by omega,by congr 1; omega⟩
 · rw [if_neg h]
   exact ⟨(a.tmod 6).toNat,by omega,by congr 1; omega⟩
theorem G7: ∀ p,p<6→([b_.1,b_.2.1,b_.2.2.1,b_.2.2.2.1,b_.2.2.2.2.1,b_.2.2.2.2.2].getD p []).length≤9:=by decide
theorem zx (v:List Int): ∀ (r e k:Nat) (out:List (List UInt8)),e+r=9→out.length=e→(∀ x ∈ out,x.length≤9)→ ∃ l:List (List UInt8),l.length=9∧(∀ x ∈ l,x.length≤9)∧gD (k+r+1) v 9 b_ out (e:Int)=some l
 | 0,e,k,out,he,ho,hs=>⟨out,by omega,hs,by rw [gD.eq_2,if_neg (by omega)]⟩
 | r+1,e,k,out,he,ho,hs=>by
  have step: ∀ a:Int, ∃ l:List (List UInt8),l.length=9∧(∀ x ∈ l,x.length≤9)∧((oJ a 6).bind fun r1=>
   if 0≤r1 then
   if r1<([b_.1,b_.2.1,b_.2.2.1,b_.2.2.2.1,b_.2.2.2.2.1,b_.2.2.2.2.2].length:Int) then
   if (out.length+ [[b_.1,b_.2.1,b_.2.2.1,b_.2.2.2.1,b_.2.2.2.2.1,b_.2.2.2.2.2].getD r1.toNat []].length)*16≤140737488355328 then
   gD (k+r+1) v 9 b_ (out++ [[b_.1,b_.2.1,b_.2.2.1,b_.2.2.2.1,b_.2.2.2.2.1,b_.2.2.2.2.2].getD r1.toNat []]) (aj ((e:Int)+1)) else none else none else none)=some l:=fun a=>by
   obtain ⟨p,hp,hq⟩:=Lg a
   obtain ⟨l,h1,h2,h3⟩:=zx v r (e+1) k (out++ [[b_.1,b_.2.1,b_.2.2.1,b_.2.2.2.1,b_.2.2.2.2.1,b_.2.2.2.2.2].getD p []]) (by omega) (by rw [List.length_append,List.length_singleton]; omega) (fun x hx=>by
    rcases List.mem_append.1 hx with hx | hx
    · exact hs x hx
    · rw [List.mem_singleton.1 hx]; exact G7 p hp)
   refine ⟨l,h1,h2, ?_⟩
   rw [hq,bE,if_pos (by omega),if_pos (by show (p:Int)<((6:Nat):Int); omega),if_pos (by rw [List.length_singleton]; omega),Int.toNat_natCast,cJ (by omega) (by omega),show (e:Int)+1=((e+1:Nat):Int) from by omega]
   exact h3
  rw [show k+(r+1)+1=(k+r+1)+1 from by omega,gD.eq_2,if_pos (by omega)]
  by_cases hv:(e:Int)<(v.length:Int)
  · rw [if_pos hv,if_pos (by omega),if_pos hv]
    exact step _
  · rw [if_neg hv]
    exact step _
theorem D1 (v:List Int): ∀ (r e k k':Nat) (out:List (List UInt8)),e+r=9→gD (k+r+1) v 9 b_ out (e:Int)=gD (k'+r+1) v 9 b_ out (e:Int)
 | 0,e,k,k',out,he=>by
  rw [gD.eq_2,gD.eq_2,if_neg (by omega),if_neg (by omega)]
 | r+1,e,k,k',out,he=>by
  have ih:=fun o=>D1 v r (e+1) k k' o (by omega)
  have hw:aj ((e:Int)+1)=((e+1:Nat):Int):=by rw [cJ (by omega) (by omega)]; omega
  rw [show k+(r+1)+1=(k+r+1)+1 from by omega,show k'+(r+1)+1=(k'+r+1)+1 from by omega,gD.eq_2,gD.eq_2]
  simp only [hw,ih]
theorem K5 (v:List Int): ∃ l:List (List UInt8),l.length=9∧(∀ x ∈ l,x.length≤9)∧vv v 9=some l:=by
 obtain ⟨l,h1,h2,h3⟩:=zx v 9 0 0 [] (by omega) rfl (by simp)
 refine ⟨l,h1,h2,iJ 10 fun k hk=> ?_⟩
 obtain ⟨k,rfl⟩: ∃ j,k=j+9+1:=⟨k - 10,by omega⟩
 obtain ⟨l',nY,kR,CT⟩:=zx v 9 0 k [] (by omega) rfl (by simp)
 show gD (k+9+1) v 9 b_ [] 0=_
 have hm: ∀ k,gD (k+9+1) v 9 b_ [] 0=gD (0+9+1) v 9 b_ [] 0:=fun k=>D1 v 9 0 k 0 [] (by omega)
 rw [hm k]
 exact h3
end
end Go.Sy.Ex
namespace Go.Sy.Ex
open Go.Sy
noncomputable section
theorem uH {l:List (List UInt8)} (hl:l.length=9) (hs: ∀ x ∈ l,x.length≤9) (a b:Int):NL 9 (cut l a b):=by
 refine ⟨?_,fun x hx=>hs x (List.mem_of_mem_take (List.mem_of_mem_drop hx))⟩
 unfold cut
 rw [List.length_drop,List.length_take]
 omega
theorem k7 {l:List (List UInt8)} (hl:l.length=9) (hs: ∀ x ∈ l,x.length≤9) (j:Nat) (hj:j<9):(l.getD j []).length≤9:=(hs _ (drop_cons (l:=l) (e:=j) (by omega) []).2)
theorem cell_of {l:List (List UInt8)} (hl:l.length=9) (hs: ∀ x ∈ l,x.length≤9) {R:Int} (hR:0≤R∧R≤255) (a b c d e f g h:Int):iy (bN.mk R [cut l a b,cut l c d] [cut l e f,cut l g h] 0):=
 ⟨⟨hR.1,by show R≤65535; omega⟩,⟨by show 2≤10; decide,fun x hx=>by
  have :x=cut l a b∨x=cut l c d:=by simpa using hx
  rcases this with rfl | rfl <;> exact uH hl hs _ _⟩,⟨by show 2≤10; decide,fun x hx=>by
  have :x=cut l e f∨x=cut l g h:=by simpa using hx
  rcases this with rfl | rfl <;> exact uH hl hs _ _⟩⟩
section
variable {l:List (List UInt8)} (hl:l.length=9) (hs: ∀ x ∈ l,x.length≤9) {rows:List Int} (hr: ∀ y ∈ rows,0≤y∧y≤255) (hn:rows.length≤40)
 {n:Int×Int×Int} {i1 i2 c1 c2 c3 c4 x1 x2 x3 x4:List UInt8} {q e p cq cp:Int} {X5 X6:List (List UInt8)}
 (hi:mE (aN.mk i1 i2 q e p 0)) (hc:mD (aC.mk c1 c2 c3 c4 cq cp 0)) (hx: ∀ E:List bN,E.length≤40→(∀ y ∈ E,iy y)→jS (an.mk x1 x2 x3 x4 X5 X6 E 0)) (ha:0≤n.2.2∧n.2.2≤65535)
include hl hs hr hn hi hc hx ha
omit hl hs hr hn in
theorem KL (E:List bN) (hE:E.length≤40) (nZ: ∀ y ∈ E,iy y) (k:Nat):oy (k+1) rows n l i1 i2 q e p 0 c1 c2 c3 c4 cq cp 0 x1 x2 x3 x4 X5 X6 E 0 (rows.length:Int)=some true:=by
 have hx1:=hx E hE nZ
 have hx2:jS (an.mk x1 x2 x3 x4 X5 [] E 0):=⟨hx1.n,hx1.i,hx1.q,hx1.p,hx1.l,⟨by show 0≤10; decide,by simp⟩,hx1.c⟩
 have hI: ∀ i ∈ [aN.mk i1 i2 q e p 0,aN.mk i1 i2 q e p 0],mE i:=fun i h=>by
  have :i=aN.mk i1 i2 q e p 0:=by simpa using h
  rw [this]; exact hi
 have hC: ∀ i ∈ [aC.mk c1 c2 c3 c4 cq cp 0],mD i:=fun i h=>by
  rw [List.mem_singleton.1 h]; exact hc
 have hX: ∀ i ∈ [an.mk x1 x2 x3 x4 X5 X6 E 0,an.mk x1 x2 x3 x4 X5 [] E 0],jS i:=fun i h=>by
  have :i=an.mk x1 x2 x3 x4 X5 X6 E 0∨i=an.mk x1 x2 x3 x4 X5 [] E 0:=by simpa using h
  rcases this with rfl | rfl
  · exact hx1
  · exact hx2
 have hw:aj ([n.1,n.2.1,n.2.2].getD (2:Int).toNat 0)=n.2.2:=cJ (by show -9223372036854775808≤n.2.2; omega) (by show n.2.2≤9223372036854775807; omega)
 rw [oy.eq_2,if_neg (by omega),if_pos (by decide),if_pos (by show (2:Int)<((3:Nat):Int); decide),hw,
  As hI (by show 2≤100; decide),bE,EA hI (by show 2≤100; decide),bE,if_pos rfl,As (l:= []) (fun i h=>by cases h) (by decide),bE,if_pos (show bB ij []= [] from rfl),
  Fl hC (by show 1≤100; decide),bE,Ey hC (by show 1≤100; decide),bE,if_pos rfl,Ar hX (by show 2≤10; decide),bE,Ev hX (by show 2≤10; decide),bE,if_pos rfl,
  MQ ha hI (by show 2≤10; decide) hC (by show 1≤10; decide) hX (by show 2≤10; decide),bE,LK ha hI (by show 2≤10; decide) hC (by show 1≤10; decide) hX (by show 2≤10; decide),bE,if_pos rfl,zg,bE]
theorem DY: ∀ (r j k:Nat) (E:List bN),j+r=rows.length→E.length=j→(∀ y ∈ E,iy y)→oy (k+r+1) rows n l i1 i2 q e p 0 c1 c2 c3 c4 cq cp 0 x1 x2 x3 x4 X5 X6 E 0 (j:Int)=some true
 | 0,j,k,E,hj,hE,nZ=>by
  obtain rfl:j=rows.length:=by omega
  exact KL hi hc hx ha E (by omega) nZ k
 | r+1,j,k,E,hj,hE,nZ=>by
  obtain ⟨sg,IX⟩:=hr _ (drop_cons (l:=rows) (e:=j) (by omega) 0).2
  have ih:=fun E' h1 h2=>DY r (j+1) k E' (by omega) h1 h2
  rw [show k+(r+1)+1=(k+r+1)+1 from by omega,oy.eq_2,if_pos (by omega),if_pos (by omega),if_pos (by omega),Int.toNat_natCast]
  generalize rows.getD j 0=R at *
  have hw:aj R=R:=cJ (by omega) (by omega)
  have d3:R.tdiv 3=R / 3:=Int.tdiv_eq_ediv_of_nonneg sg
  have d9:R.tdiv 9=R / 9:=Int.tdiv_eq_ediv_of_nonneg sg
  have d36:R.tdiv 36=R / 36:=Int.tdiv_eq_ediv_of_nonneg sg
  have m3:R.tmod 3=R % 3:=Int.tmod_eq_emod_of_nonneg sg
  have w3:aj (R / 3)=R / 3:=cJ (by omega) (by omega)
  have w9:aj (R / 9)=R / 9:=cJ (by omega) (by omega)
  have Oo:aj (R / 36)=R / 36:=cJ (by omega) (by omega)
  have KU:(R / 3).tmod 3=R / 3 % 3:=Int.tmod_eq_emod_of_nonneg (by omega)
  have KW:(R / 9).tmod 4=R / 9 % 4:=Int.tmod_eq_emod_of_nonneg (by omega)
  have KV:(R / 36).tmod 3=R / 36 % 3:=Int.tmod_eq_emod_of_nonneg (by omega)
  have a1:aj (1+R / 3 % 3)=1+R / 3 % 3:=cJ (by omega) (by omega)
  have a2:aj (2+R / 36 % 3)=2+R / 36 % 3:=cJ (by omega) (by omega)
  simp only [hw,d3,d9,d36,m3,w3,w9,Oo,KU,KW,KV,a1,a2,hl]
  iterate 19 rw [if_pos (by first | decide | omega)]
  rw [if_pos (by rw [List.length_singleton]; omega),cJ (by omega) (by omega),show (j:Int)+1=((j+1:Nat):Int) from by omega]
  refine ih _ (by rw [List.length_append,List.length_singleton,hE]) fun y hy=> ?_
  rcases List.mem_append.1 hy with hy | hy
  · exact nZ y hy
  · rw [List.mem_singleton.1 hy]
    exact cell_of hl hs ⟨sg,IX⟩ _ _ _ _ _ _ _ _
end
theorem KM (v:List Int) (n:Int×Int×Int) (h1:0≤n.1∧n.1≤65535) (h2:0≤n.2.1∧n.2.1≤65535) (h3:0≤n.2.2∧n.2.2≤65535) {rows:List Int} (hr: ∀ y ∈ rows,0≤y∧y≤255):zh v n rows=some true:=iJ 50 fun k hk=>by
 show vu k v n rows=_
 unfold vu
 by_cases hv:100<(v.length:Int)
 · rw [if_pos hv,zg,bE]
 rw [if_neg hv]
 by_cases hq:40<(rows.length:Int)
 · rw [if_pos hq,zg,bE]
 rw [if_neg hq]
 obtain ⟨l,hl,hs,hn⟩:=K5 v
 rw [hn,bE]
 have w1:aj ([n.1,n.2.1,n.2.2].getD (0:Int).toNat 0)=n.1:=cJ (by show -9223372036854775808≤n.1; omega) (by show n.1≤9223372036854775807; omega)
 have w2:aj ([n.1,n.2.1,n.2.2].getD (1:Int).toNat 0)=n.2.1:=cJ (by show -9223372036854775808≤n.2.1; omega) (by show n.2.1≤9223372036854775807; omega)
 have w3:aj ([n.1,n.2.1,n.2.2].getD (2:Int).toNat 0)=n.2.2:=cJ (by show -9223372036854775808≤n.2.2; omega) (by show n.2.2≤9223372036854775807; omega)
 have JO:(([n.1,n.2.1,n.2.2].length:Nat):Int)=3:=rfl
 simp only [w1,w2,w3,hl,JO]
 iterate 38 rw [if_pos (by decide)]
 obtain ⟨k,rfl⟩: ∃ j,k=j+rows.length+1:=⟨k - rows.length - 1,by omega⟩
 exact DY hl hs hr (by omega) (n:=n) ⟨k7 hl hs 0 (by decide),k7 hl hs 1 (by decide),h1,h2,h3⟩ ⟨k7 hl hs 2 (by decide),k7 hl hs 3 (by decide),k7 hl hs 4 (by decide),k7 hl hs 5 (by decide),h1,h2⟩
  (fun E hE nZ=>⟨k7 hl hs 6 (by decide),k7 hl hs 7 (by decide),k7 hl hs 8 (by decide),k7 hl hs 0 (by decide),uH hl hs 1 3,uH hl hs 3 5,hE,nZ⟩) h3 rows.length 0 k [] (by omega) rfl (fun y hy=>by cases hy)
end
end Go.Sy.Ex
