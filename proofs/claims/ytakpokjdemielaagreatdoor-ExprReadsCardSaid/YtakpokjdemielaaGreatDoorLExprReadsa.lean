import Derived.Shelf.Strings.Builder1
import Derived.Shelf.Small.Strs
import Derived.Shelf.Strings.BuilderF
import Derived.Shelf.Strings.BuilderK
import Derived.Shelf.Strconv.Itoa0
import Derived.Shelf.Strconv.Itoa1
import Derived.Shelf.LaysM
import Derived.Shelf.Strconv.Itoa2
import Derived.Shelf.Strconv.Itoa3
import Derived.Shelf.Strconv.Itoa4
import Derived.Shelf.Strconv.ParseIntEmpty
import Derived.Shelf.Strconv.Clone
import Derived.Shelf.Strconv.SyntaxError
import Derived.Shelf.LaysC
import Derived.Shelf.Strconv.ToError
import Derived.Shelf.Strconv.Lower
import Derived.Shelf.Strconv.ParseUint10
import Derived.Shelf.Strconv.ParseUint10Empty
import Derived.Shelf.Strconv.ParseUint10Any
import Derived.Shelf.Strconv.ParseInt10
import Derived.Shelf.Strconv.RangeError
import Derived.Shelf.Strconv.ToErrorRange
import Derived.Shelf.Strconv.ParseUintEmpty
import Derived.Shelf.Strconv.ParseUint10b64
import Derived.Shelf.Strconv.ParseUint10b32
import Derived.Shelf.Strconv.ParseUint10b16
import Derived.Shelf.Strconv.ParseUint10b8
import Derived.Shelf.Strconv.ParseUint10At
import Derived.Shelf.Strconv.ParseInt10At64
import Derived.Shelf.Strconv.ParseInt10At32
import Derived.Shelf.Strconv.ParseInt10At16
import Derived.Shelf.Strconv.ParseInt10At8
import Derived.Shelf.Strconv.ParseInt10All
import Derived.Shelf.Strconv.ParseIntPublic10
import Derived.Shelf.Strings.Search1
import Derived.Shelf.Strings.Search2
import Derived.Shelf.Strings.Search3
import Derived.Shelf.Strings.Shaped
import Derived.Lib.ItoaMem
import Derived.Stop.LaidErr
import Derived.Shelf.Vars
import Derived.MakeChecks
import Derived.LaidHandle
import Derived.ChangeSame
import Derived.ChangeVars
import Derived.JoinedOf
import Derived.RowKit
import Derived.HandedShaped
import Derived.LaidMore
import Derived.LaidLaws
import Derived.Lay
import Derived.Test.YtakpokjdemielaaGreatDoorProg
import Derived.Test.YtakpokjdemielaaGreatDoorRows
import Derived.Test.YtakpokjdemielaaGreatDoorSc
set_option linter.unusedVariables false
set_option linter.unusedSimpArgs false
/-
  DERIVED: THE SHELF's CONTRACTS AT THIS DUMP, IN PLAIN WORDS (tools/lay-plain.mjs out of 'XEzL.lean', which tools/lay-shelf.mjs wrote): THE SAME DECLARATIONS UNDER THE SAME NAMES: 'import', 'namespace', 'open', 'def', 'theorem' AND NOTHING ELSE: no command of the shelf's: FOR A HAND-IN. Each laying: the table of numbers ('.._ren') and one theorem, a field a fact of the dump's own or the kernel's comparison; each contract: ONE APPLICATION.
-/
namespace Go.Proofs
open Go.Shelf
def Tryz.lays137_ren : Go.Shelf.Ren := ⟨fun | 137 => 47 | 217 => 65 | 266 => 76 | n => n, fun | 9 => 9 | 5 => 5 | 3 => 3 | n => n, fun | n => n⟩
theorem Tryz.lays137 : Go.Proofs.Lays.n137 Tryz.prog Tryz.lays137_ren := {
  mixed := by kernel_rfl
  f137 := Tryz.func47.trans (congrArg some (by kernel_rfl))
  f217 := Tryz.func65.trans (congrArg some (by kernel_rfl))
  f266 := Tryz.func76.trans (congrArg some (by kernel_rfl))
  t3 := Tryz.underlying3
  a3 := Tryz.isAgg3
  z3 := Tryz.sizeOf3
  v3 := Tryz.zeroValue3
  t5 := Tryz.underlying5
  a5 := Tryz.isAgg5
  z5 := Tryz.sizeOf5
  v5 := Tryz.zeroValue5
  t9 := Tryz.underlying9
  a9 := Tryz.isAgg9
  z9 := Tryz.sizeOf9
  v9 := Tryz.zeroValue9 }
open Go.RowKit in
/-- strings.IndexByte: "IndexByte returns the index of the first instance of c in s, or -1 if c is not present in s.": IT RETURNS 'Lib.indexByte s c'; the world is as it was. (LAID: no walk: one application.) -/
theorem Tryz.strings_IndexByte (s : ByteArray) (c : Int) (w : World) :
    Calls Tryz.prog 47 #[.string s, .int .u8 c] w fun e w' => e = .returned (.int .i64 (Lib.indexByte s.data.toList c.toNat.toUInt8)) ∧ w' = w := Any.strings_IndexByte Tryz.lays137 s c w
def Tryz.lays144_ren : Go.Shelf.Ren := ⟨fun | 144 => 67 | 143 => 79 | 219 => 90 | 217 => 65 | 225 => 98 | 224 => 99 | 267 => 100 | 266 => 76 | 314 => 102 | n => n, fun | 9 => 9 | 4 => 4 | 3 => 3 | 5 => 5 | 46 => 116 | 146 => 136 | 51 => 114 | n => n, fun | 1 => 1 | n => n⟩
theorem Tryz.lays144 : Go.Proofs.Lays.n144 Tryz.prog Tryz.lays144_ren := {
  mixed := by kernel_rfl
  f143 := Tryz.func79.trans (congrArg some (by kernel_rfl))
  f144 := Tryz.func67.trans (congrArg some (by kernel_rfl))
  f217 := Tryz.func65.trans (congrArg some (by kernel_rfl))
  f219 := Tryz.func90.trans (congrArg some (by kernel_rfl))
  f224 := Tryz.func99.trans (congrArg some (by kernel_rfl))
  f225 := Tryz.func98.trans (congrArg some (by kernel_rfl))
  f266 := Tryz.func76.trans (congrArg some (by kernel_rfl))
  f267 := Tryz.func100.trans (congrArg some (by kernel_rfl))
  f314 := Tryz.func102.trans (congrArg some (by kernel_rfl))
  t3 := Tryz.underlying3
  a3 := Tryz.isAgg3
  z3 := Tryz.sizeOf3
  v3 := Tryz.zeroValue3
  t4 := Tryz.underlying4
  a4 := Tryz.isAgg4
  z4 := Tryz.sizeOf4
  v4 := Tryz.zeroValue4
  t5 := Tryz.underlying5
  a5 := Tryz.isAgg5
  z5 := Tryz.sizeOf5
  v5 := Tryz.zeroValue5
  t9 := Tryz.underlying9
  a9 := Tryz.isAgg9
  z9 := Tryz.sizeOf9
  v9 := Tryz.zeroValue9
  t46 := Tryz.underlying116
  a46 := Tryz.isAgg116
  z46 := Tryz.sizeOf116
  v46 := Tryz.zeroValue116
  t51 := Tryz.underlying114
  a51 := Tryz.isAgg114
  z51 := Tryz.sizeOf114
  v51 := Tryz.zeroValue114
  t146 := Tryz.underlying136
  a146 := Tryz.isAgg136
  z146 := Tryz.sizeOf136
  v146 := Tryz.zeroValue136
  g1 := by kernel_rfl }
open Go.RowKit Go.Lib in
/-- strings.Contains: "Contains reports whether substr is within s.": IT RETURNS 'Lib.contains s substr'; the world is as it was. (LAID: no walk: one application.) -/
theorem Tryz.strings_Contains (s sub : ByteArray) (m : Int) (w : World) (hs : s.size < 4294967281) (hm : w.cell? ⟨1, 0, none⟩ = some (.int .i64 m)) :
    Calls Tryz.prog 67 #[.string s, .string sub] w fun e w' => e = .returned (.bool (Lib.contains s.data.toList sub.data.toList)) ∧ w' = w := Any.strings_Contains Tryz.lays144 s sub m w hs hm
def Tryz.laysC174_ren : Go.Shelf.Ren := ⟨fun | 174 => 66 | 247 => 77 | 245 => 78 | 287 => 85 | 279 => 86 | 280 => 87 | 281 => 88 | 282 => 89 | 321 => 93 | 322 => 94 | 316 => 95 | 171 => 97 | 205 => 96 | 243 => 101 | 246 => 53 | 283 => 69 | 284 => 70 | 285 => 71 | 286 => 72 | 129 => 81 | 317 => 80 | 318 => 82 | 319 => 83 | 320 => 84 | 337 => 91 | 338 => 92 | n => n, fun | 9 => 9 | 3 => 3 | 2 => 2 | 75 => 74 | 85 => 97 | 4 => 4 | 167 => 119 | 5 => 5 | 53 => 104 | 175 => 120 | 46 => 116 | 168 => 122 | 37 => 59 | 0 => 0 | 210 => 129 | 21 => 21 | 127 => 83 | 145 => 135 | 143 => 133 | 171 => 103 | 173 => 107 | 212 => 113 | 51 => 114 | 20 => 20 | 213 => 115 | 232 => 131 | 233 => 132 | 80 => 63 | n => n, fun | 15 => 2 | 16 => 3 | 17 => 0 | 18 => 4 | 19 => 5 | n => n⟩
theorem Tryz.laysC174 : Go.Proofs.LaysC.n174 Tryz.prog Tryz.laysC174_ren := {
  mixed := by kernel_rfl
  f129 := Tryz.func81.trans (congrArg some (by kernel_rfl))
  f171 := Tryz.func97.trans (congrArg some (by kernel_rfl))
  f174 := Tryz.func66.trans (congrArg some (by kernel_rfl))
  f205 := Tryz.func96.trans (congrArg some (by kernel_rfl))
  f243 := Tryz.func101.trans (congrArg some (by kernel_rfl))
  f245 := Tryz.func78.trans (congrArg some (by kernel_rfl))
  f246 := Tryz.func53.trans (congrArg some (by kernel_rfl))
  f247 := Tryz.func77.trans (congrArg some (by kernel_rfl))
  f279 := Tryz.func86.trans (congrArg some (by kernel_rfl))
  f280 := Tryz.func87.trans (congrArg some (by kernel_rfl))
  f281 := Tryz.func88.trans (congrArg some (by kernel_rfl))
  f282 := Tryz.func89.trans (congrArg some (by kernel_rfl))
  f283 := Tryz.func69.trans (congrArg some (by kernel_rfl))
  f284 := Tryz.func70.trans (congrArg some (by kernel_rfl))
  f285 := Tryz.func71.trans (congrArg some (by kernel_rfl))
  f286 := Tryz.func72.trans (congrArg some (by kernel_rfl))
  f287 := Tryz.func85.trans (congrArg some (by kernel_rfl))
  f316 := Tryz.func95.trans (congrArg some (by kernel_rfl))
  f317 := Tryz.func80.trans (congrArg some (by kernel_rfl))
  f318 := Tryz.func82.trans (congrArg some (by kernel_rfl))
  f319 := Tryz.func83.trans (congrArg some (by kernel_rfl))
  f320 := Tryz.func84.trans (congrArg some (by kernel_rfl))
  f321 := Tryz.func93.trans (congrArg some (by kernel_rfl))
  f322 := Tryz.func94.trans (congrArg some (by kernel_rfl))
  f337 := Tryz.func91.trans (congrArg some (by kernel_rfl))
  f338 := Tryz.func92.trans (congrArg some (by kernel_rfl))
  t0 := Tryz.underlying0
  a0 := Tryz.isAgg0
  z0 := Tryz.sizeOf0
  v0 := Tryz.zeroValue0
  t2 := Tryz.underlying2
  a2 := Tryz.isAgg2
  z2 := Tryz.sizeOf2
  v2 := Tryz.zeroValue2
  t3 := Tryz.underlying3
  a3 := Tryz.isAgg3
  z3 := Tryz.sizeOf3
  v3 := Tryz.zeroValue3
  t4 := Tryz.underlying4
  a4 := Tryz.isAgg4
  z4 := Tryz.sizeOf4
  v4 := Tryz.zeroValue4
  t5 := Tryz.underlying5
  a5 := Tryz.isAgg5
  z5 := Tryz.sizeOf5
  v5 := Tryz.zeroValue5
  t9 := Tryz.underlying9
  a9 := Tryz.isAgg9
  z9 := Tryz.sizeOf9
  v9 := Tryz.zeroValue9
  t20 := Tryz.underlying20
  a20 := Tryz.isAgg20
  z20 := Tryz.sizeOf20
  v20 := Tryz.zeroValue20
  t21 := Tryz.underlying21
  a21 := Tryz.isAgg21
  z21 := Tryz.sizeOf21
  v21 := Tryz.zeroValue21
  t37 := Tryz.underlying59
  a37 := Tryz.isAgg59
  z37 := Tryz.sizeOf59
  v37 := Tryz.zeroValue59
  t46 := Tryz.underlying116
  a46 := Tryz.isAgg116
  z46 := Tryz.sizeOf116
  v46 := Tryz.zeroValue116
  t51 := Tryz.underlying114
  a51 := Tryz.isAgg114
  z51 := Tryz.sizeOf114
  v51 := Tryz.zeroValue114
  t53 := Tryz.underlying104
  a53 := Tryz.isAgg104
  z53 := Tryz.sizeOf104
  v53 := Tryz.zeroValue104
  t75 := Tryz.underlying74
  a75 := Tryz.isAgg74
  z75 := Tryz.sizeOf74
  v75 := Tryz.zeroValue74
  t85 := Tryz.underlying97
  a85 := Tryz.isAgg97
  z85 := Tryz.sizeOf97
  v85 := Tryz.zeroValue97
  t127 := Tryz.underlying83
  a127 := Tryz.isAgg83
  z127 := Tryz.sizeOf83
  v127 := Tryz.zeroValue83
  t143 := Tryz.underlying133
  a143 := Tryz.isAgg133
  z143 := Tryz.sizeOf133
  v143 := Tryz.zeroValue133
  t145 := Tryz.underlying135
  a145 := Tryz.isAgg135
  z145 := Tryz.sizeOf135
  v145 := Tryz.zeroValue135
  t167 := Tryz.underlying119
  a167 := Tryz.isAgg119
  z167 := Tryz.sizeOf119
  v167 := Tryz.zeroValue119
  t168 := Tryz.underlying122
  a168 := Tryz.isAgg122
  z168 := Tryz.sizeOf122
  v168 := Tryz.zeroValue122
  t171 := Tryz.underlying103
  a171 := Tryz.isAgg103
  z171 := Tryz.sizeOf103
  v171 := Tryz.zeroValue103
  t173 := Tryz.underlying107
  a173 := Tryz.isAgg107
  z173 := Tryz.sizeOf107
  v173 := Tryz.zeroValue107
  t175 := Tryz.underlying120
  a175 := Tryz.isAgg120
  z175 := Tryz.sizeOf120
  v175 := Tryz.zeroValue120
  t210 := Tryz.underlying129
  a210 := Tryz.isAgg129
  z210 := Tryz.sizeOf129
  v210 := Tryz.zeroValue129
  t212 := Tryz.underlying113
  a212 := Tryz.isAgg113
  z212 := Tryz.sizeOf113
  v212 := Tryz.zeroValue113
  t213 := Tryz.underlying115
  a213 := Tryz.isAgg115
  z213 := Tryz.sizeOf115
  t232 := Tryz.underlying131
  a232 := Tryz.isAgg131
  z232 := Tryz.sizeOf131
  v232 := Tryz.zeroValue131
  t233 := Tryz.underlying132
  a233 := Tryz.isAgg132
  z233 := Tryz.sizeOf132
  v233 := Tryz.zeroValue132
  g15 := by kernel_rfl
  g16 := by kernel_rfl
  g17 := by kernel_rfl
  g18 := by kernel_rfl
  g19 := by kernel_rfl
  t80 := Tryz.underlying63
  a80 := Tryz.isAgg63
  z80 := Tryz.sizeOf63
  v80 := Tryz.zeroValue63
  i0 := by kernel_rfl
  i2 := by kernel_rfl
  i3 := by kernel_rfl
  i4 := by kernel_rfl
  i5 := by kernel_rfl
  i9 := by kernel_rfl
  i20 := by kernel_rfl
  i21 := by kernel_rfl
  i37 := by kernel_rfl
  i46 := by kernel_rfl
  i51 := by kernel_rfl
  i53 := by kernel_rfl
  i75 := by kernel_rfl
  i80 := by kernel_rfl
  i85 := by kernel_rfl
  i127 := by kernel_rfl
  i143 := by kernel_rfl
  i145 := by kernel_rfl
  i167 := by kernel_rfl
  i168 := by kernel_rfl
  i171 := by kernel_rfl
  i173 := by kernel_rfl
  i175 := by kernel_rfl
  i210 := by kernel_rfl
  i212 := by kernel_rfl
  i232 := by kernel_rfl
  i233 := by kernel_rfl
  m15 := by kernel_rfl
  m16 := by kernel_rfl
  m17 := by kernel_rfl
  m18 := by kernel_rfl
  m19 := by kernel_rfl
  c0 := by kernel_rfl
  c2 := by kernel_rfl
  c3 := by kernel_rfl
  c4 := by kernel_rfl
  c5 := by kernel_rfl
  c9 := by kernel_rfl
  c20 := by kernel_rfl
  c21 := by kernel_rfl
  c37 := by kernel_rfl
  c46 := by kernel_rfl
  c51 := by kernel_rfl
  c53 := by kernel_rfl
  c75 := by kernel_rfl
  c80 := by kernel_rfl
  c85 := by kernel_rfl
  c127 := by kernel_rfl
  c143 := by kernel_rfl
  c145 := by kernel_rfl
  c167 := by kernel_rfl
  c168 := by kernel_rfl
  c171 := by kernel_rfl
  c173 := by kernel_rfl
  c175 := by kernel_rfl
  c210 := by kernel_rfl
  c212 := by kernel_rfl
  c213 := by kernel_rfl
  c232 := by kernel_rfl
  c233 := by kernel_rfl }
open Go.RowKit in
/-- strconv.ParseInt(s, 10, 64), AT EVERY STRING THAT SPELLS AN int64 ('Lib.parseIntB 64 s.data.toList = .ok v'): v, AND NO ERROR. (LAID: no walk: one application.) -/
theorem Tryz.strconv_ParseInt_10_at64_ok (s : ByteArray) (hmax : s.size ≤ 9223372036854775806) (v : Int) (h : Lib.parseIntB 64 s.data.toList = .ok v) (w : World) :
    Calls Tryz.prog 66 #[.string s, .int .i64 10, .int .i64 64] w fun e w' => e = .returned (.tuple #[.int .i64 v, .nilIface]) ∧ (w' = w ∨ ∃ t, w' = Lib.bytesWorld w 5 t) := Any.strconv_ParseInt_10_at64_ok Tryz.laysC174 s hmax v h w
open Go.RowKit in
/-- strconv.ParseInt(s, 10, 64), AT EVERY NUMERAL THAT NO int64 HOLDS: THE GREATEST OR THE LEAST int64, BY THE SIGN ('Lib.intSat 64'), AND AN ERROR THAT IS NOT nil: a *NumError in a new block N: {Func: "ParseInt", Num: s's bytes, Err: what the variable ErrRange holds}. Of what was there nothing has turned. (LAID: no walk: one application.) -/
theorem Tryz.strconv_ParseInt_10_at64_range (s : ByteArray) (hlim : s.size ≤ 281474976710656) (h : Lib.parseIntB 64 s.data.toList = .range) (ev : Value) (w : World) (hv : w.cell? ⟨3, 0, none⟩ = some ev) (hev : ev = .nilIface ∨ ∃ te pe, ev = .iface te pe) :
    Calls Tryz.prog 66 #[.string s, .int .i64 10, .int .i64 64] w fun e w' => ∃ N, e = .returned (.tuple #[.int .i64 (Lib.intSat 64 s.data.toList), .iface 122 (.pointer (some ⟨N, 0, none⟩))]) ∧ w.heap.size ≤ N ∧ w'.heap[N]? = some (.cells #[.string ⟨#[80, 97, 114, 115, 101, 73, 110, 116]⟩, .string s, ev] 129 (0, 0)) ∧ Below w.heap.size w w' := Any.strconv_ParseInt_10_at64_range Tryz.laysC174 s hlim h ev w hv hev
def Tryz.laysM173_ren : Go.Shelf.Ren := ⟨fun | 173 => 36 | 246 => 53 | 283 => 69 | 284 => 70 | 285 => 71 | 286 => 72 | 129 => 81 | 317 => 80 | 318 => 82 | 319 => 83 | 320 => 84 | 337 => 91 | 338 => 92 | n => n, fun | 2 => 2 | 3 => 3 | 9 => 9 | 4 => 4 | 171 => 103 | 0 => 0 | 53 => 104 | 37 => 59 | 5 => 5 | 173 => 107 | 212 => 113 | 51 => 114 | 20 => 20 | 213 => 115 | 46 => 116 | 232 => 131 | 233 => 132 | n => n, fun | 17 => 0 | 18 => 4 | 19 => 5 | n => n⟩
theorem Tryz.laysM173 : Go.Proofs.LaysM.n173 Tryz.prog Tryz.laysM173_ren := {
  mixed := by kernel_rfl
  f129 := Tryz.func81.trans (congrArg some (by kernel_rfl))
  f173 := Tryz.func36.trans (congrArg some (by kernel_rfl))
  f246 := Tryz.func53.trans (congrArg some (by kernel_rfl))
  f283 := Tryz.func69.trans (congrArg some (by kernel_rfl))
  f284 := Tryz.func70.trans (congrArg some (by kernel_rfl))
  f285 := Tryz.func71.trans (congrArg some (by kernel_rfl))
  f286 := Tryz.func72.trans (congrArg some (by kernel_rfl))
  f317 := Tryz.func80.trans (congrArg some (by kernel_rfl))
  f318 := Tryz.func82.trans (congrArg some (by kernel_rfl))
  f319 := Tryz.func83.trans (congrArg some (by kernel_rfl))
  f320 := Tryz.func84.trans (congrArg some (by kernel_rfl))
  f337 := Tryz.func91.trans (congrArg some (by kernel_rfl))
  f338 := Tryz.func92.trans (congrArg some (by kernel_rfl))
  t0 := Tryz.underlying0
  a0 := Tryz.isAgg0
  z0 := Tryz.sizeOf0
  v0 := Tryz.zeroValue0
  t2 := Tryz.underlying2
  a2 := Tryz.isAgg2
  z2 := Tryz.sizeOf2
  v2 := Tryz.zeroValue2
  t3 := Tryz.underlying3
  a3 := Tryz.isAgg3
  z3 := Tryz.sizeOf3
  v3 := Tryz.zeroValue3
  t4 := Tryz.underlying4
  a4 := Tryz.isAgg4
  z4 := Tryz.sizeOf4
  v4 := Tryz.zeroValue4
  t5 := Tryz.underlying5
  a5 := Tryz.isAgg5
  z5 := Tryz.sizeOf5
  v5 := Tryz.zeroValue5
  t9 := Tryz.underlying9
  a9 := Tryz.isAgg9
  z9 := Tryz.sizeOf9
  v9 := Tryz.zeroValue9
  t20 := Tryz.underlying20
  a20 := Tryz.isAgg20
  z20 := Tryz.sizeOf20
  v20 := Tryz.zeroValue20
  t37 := Tryz.underlying59
  a37 := Tryz.isAgg59
  z37 := Tryz.sizeOf59
  v37 := Tryz.zeroValue59
  t46 := Tryz.underlying116
  a46 := Tryz.isAgg116
  z46 := Tryz.sizeOf116
  v46 := Tryz.zeroValue116
  t51 := Tryz.underlying114
  a51 := Tryz.isAgg114
  z51 := Tryz.sizeOf114
  v51 := Tryz.zeroValue114
  t53 := Tryz.underlying104
  a53 := Tryz.isAgg104
  z53 := Tryz.sizeOf104
  v53 := Tryz.zeroValue104
  t171 := Tryz.underlying103
  a171 := Tryz.isAgg103
  z171 := Tryz.sizeOf103
  v171 := Tryz.zeroValue103
  t173 := Tryz.underlying107
  a173 := Tryz.isAgg107
  z173 := Tryz.sizeOf107
  v173 := Tryz.zeroValue107
  t212 := Tryz.underlying113
  a212 := Tryz.isAgg113
  z212 := Tryz.sizeOf113
  v212 := Tryz.zeroValue113
  t213 := Tryz.underlying115
  a213 := Tryz.isAgg115
  z213 := Tryz.sizeOf115
  t232 := Tryz.underlying131
  a232 := Tryz.isAgg131
  z232 := Tryz.sizeOf131
  v232 := Tryz.zeroValue131
  t233 := Tryz.underlying132
  a233 := Tryz.isAgg132
  z233 := Tryz.sizeOf132
  v233 := Tryz.zeroValue132
  g17 := by kernel_rfl
  g18 := by kernel_rfl
  g19 := by kernel_rfl
  i0 := by kernel_rfl
  i2 := by kernel_rfl
  i3 := by kernel_rfl
  i4 := by kernel_rfl
  i5 := by kernel_rfl
  i9 := by kernel_rfl
  i20 := by kernel_rfl
  i37 := by kernel_rfl
  i46 := by kernel_rfl
  i51 := by kernel_rfl
  i53 := by kernel_rfl
  i171 := by kernel_rfl
  i173 := by kernel_rfl
  i212 := by kernel_rfl
  i232 := by kernel_rfl
  i233 := by kernel_rfl
  m17 := by kernel_rfl
  m18 := by kernel_rfl
  m19 := by kernel_rfl }
open Go.RowKit Go.Sort Go.Lib in
/-- strconv.FormatInt: "FormatInt returns the string representation of i in the given base": AT BASE 10: i's decimal numeral, for every int64. (LAID: no walk: one application.) -/
theorem Tryz.strconv_FormatInt_10 (n : Int) (h0 : -9223372036854775808 ≤ n) (h1 : n ≤ 9223372036854775807) (w : World) (htab : Lib.TabIs Tryz.prog w "internal/strconv.uint64pow10" .u64 Lib.pow10Tab) :
    Calls Tryz.prog 36 #[.int .i64 n, .int .i64 10] w fun e w' => e = .returned (.string ⟨(Lib.itoa n).toArray⟩) ∧ ∃ k os, w' = grow (w.drewN k) os := Any.strconv_FormatInt_10 Tryz.laysM173 n h0 h1 w htab
def Tryz.lays169_ren : Go.Shelf.Ren := ⟨fun | 169 => 24 | n => n, fun | 70 => 58 | 9 => 9 | 0 => 0 | 72 => 61 | 37 => 59 | 127 => 83 | 3 => 3 | 5 => 5 | n => n, fun | n => n⟩
theorem Tryz.lays169 : Go.Proofs.Lays.n169 Tryz.prog Tryz.lays169_ren := {
  mixed := by kernel_rfl
  f169 := Tryz.func24.trans (congrArg some (by kernel_rfl))
  t0 := Tryz.underlying0
  a0 := Tryz.isAgg0
  z0 := Tryz.sizeOf0
  v0 := Tryz.zeroValue0
  t3 := Tryz.underlying3
  a3 := Tryz.isAgg3
  z3 := Tryz.sizeOf3
  v3 := Tryz.zeroValue3
  t9 := Tryz.underlying9
  a9 := Tryz.isAgg9
  z9 := Tryz.sizeOf9
  v9 := Tryz.zeroValue9
  t37 := Tryz.underlying59
  a37 := Tryz.isAgg59
  z37 := Tryz.sizeOf59
  v37 := Tryz.zeroValue59
  t70 := Tryz.underlying58
  a70 := Tryz.isAgg58
  z70 := Tryz.sizeOf58
  v70 := Tryz.zeroValue58
  t72 := Tryz.underlying61
  a72 := Tryz.isAgg61
  z72 := Tryz.sizeOf61
  v72 := Tryz.zeroValue61
  t127 := Tryz.underlying83
  a127 := Tryz.isAgg83
  z127 := Tryz.sizeOf83
  v127 := Tryz.zeroValue83 }
theorem Tryz.Builder_Extra_169 : Builder.Extra Tryz.prog Tryz.lays169_ren := {
  sizeBuilder := by kernel_rfl
  liesBuilder := by kernel_rfl
  t5 := Tryz.underlying5
  a5 := Tryz.isAgg5
  z5 := Tryz.sizeOf5
  v5 := Tryz.zeroValue5
  infoByte := by kernel_rfl
  cellsByte := by kernel_rfl
  sizeByte := by kernel_rfl
  neB5 := by decide }
open Go.RowKit in
/-- (*strings.Builder).String: "String returns the accumulated string.": OF A BUILDER THAT HOLDS AT LEAST ONE BYTE. ✋ THE MODEL FREEZES THOSE BYTES IN THE BUFFER (unsafe.String): a later write INTO them ends the model's run without an answer; a later append BEHIND them goes on. The statement's order of evaluation is drawn: one draw. THE FORM '_k': OVER 'Lib.IsBuilderF' (a builder that 'String()' may have read), AND WITH THE FRAME THAT REACHES ABOVE THE BUILDER: 'Lib.OthersKept': every block that is not b and is no row of uint8's stands as it stood: the iterator of a range among them. (LAID: no walk: one application.) -/
theorem Tryz.Builder_String_k (B b : Nat) (l : List UInt8) (w : World) (h : Lib.IsBuilderF 61 5 B b (Lib.byteCells l) w) (h0 : l ≠ []) :
    Calls Tryz.prog 24 #[.pointer (some ⟨b, 0, none⟩)] w fun e w' => e = .returned (.string ⟨l.toArray⟩) ∧ (Lib.IsBuilderF 61 5 B b (Lib.byteCells l) w' ∧ Below B w w' ∧ Lib.OthersKept 5 (some b) w w') := Any.Builder_String_k Tryz.lays169 Tryz.Builder_Extra_169 B b l w h h0
end Go.Proofs
namespace Go.Proofs
open Go.Shelf
def Tryz.lays166_ren : Go.Shelf.Ren := ⟨fun | 166 => 35 | 240 => 52 | 276 => 68 | n => n, fun | 0 => 0 | 3 => 3 | 4 => 4 | 5 => 5 | 9 => 9 | 20 => 20 | 37 => 59 | 70 => 58 | 72 => 61 | 75 => 74 | 76 => 76 | 80 => 63 | 127 => 83 | 164 => 100 | n => n, fun | n => n⟩
theorem Tryz.lays166 : Go.Proofs.Lays.n166 Tryz.prog Tryz.lays166_ren := {
  mixed := by kernel_rfl
  f166 := Tryz.func35.trans (congrArg some (by kernel_rfl))
  f240 := Tryz.func52.trans (congrArg some (by kernel_rfl))
  f276 := Tryz.func68.trans (congrArg some (by kernel_rfl))
  t0 := Tryz.underlying0
  a0 := Tryz.isAgg0
  z0 := Tryz.sizeOf0
  v0 := Tryz.zeroValue0
  t3 := Tryz.underlying3
  a3 := Tryz.isAgg3
  z3 := Tryz.sizeOf3
  v3 := Tryz.zeroValue3
  t4 := Tryz.underlying4
  a4 := Tryz.isAgg4
  z4 := Tryz.sizeOf4
  v4 := Tryz.zeroValue4
  t9 := Tryz.underlying9
  a9 := Tryz.isAgg9
  z9 := Tryz.sizeOf9
  v9 := Tryz.zeroValue9
  t20 := Tryz.underlying20
  a20 := Tryz.isAgg20
  z20 := Tryz.sizeOf20
  v20 := Tryz.zeroValue20
  t37 := Tryz.underlying59
  a37 := Tryz.isAgg59
  z37 := Tryz.sizeOf59
  v37 := Tryz.zeroValue59
  t70 := Tryz.underlying58
  a70 := Tryz.isAgg58
  z70 := Tryz.sizeOf58
  v70 := Tryz.zeroValue58
  t72 := Tryz.underlying61
  a72 := Tryz.isAgg61
  z72 := Tryz.sizeOf61
  v72 := Tryz.zeroValue61
  t75 := Tryz.underlying74
  a75 := Tryz.isAgg74
  z75 := Tryz.sizeOf74
  v75 := Tryz.zeroValue74
  t164 := Tryz.underlying100
  a164 := Tryz.isAgg100
  z164 := Tryz.sizeOf100
  v164 := Tryz.zeroValue100 }
theorem Tryz.Builder_Extra_166 : Builder.Extra Tryz.prog Tryz.lays166_ren := {
  sizeBuilder := by kernel_rfl
  liesBuilder := by kernel_rfl
  t5 := Tryz.underlying5
  a5 := Tryz.isAgg5
  z5 := Tryz.sizeOf5
  v5 := Tryz.zeroValue5
  infoByte := by kernel_rfl
  cellsByte := by kernel_rfl
  sizeByte := by kernel_rfl
  neB5 := by decide }
def Tryz.lays167_ren : Go.Shelf.Ren := ⟨fun | 167 => 34 | 240 => 52 | 276 => 68 | n => n, fun | 0 => 0 | 3 => 3 | 4 => 4 | 5 => 5 | 9 => 9 | 20 => 20 | 37 => 59 | 70 => 58 | 72 => 61 | 75 => 74 | 76 => 76 | 80 => 63 | 127 => 83 | 164 => 100 | n => n, fun | n => n⟩
theorem Tryz.lays167 : Go.Proofs.Lays.n167 Tryz.prog Tryz.lays167_ren := {
  mixed := by kernel_rfl
  f167 := Tryz.func34.trans (congrArg some (by kernel_rfl))
  f240 := Tryz.func52.trans (congrArg some (by kernel_rfl))
  f276 := Tryz.func68.trans (congrArg some (by kernel_rfl))
  t0 := Tryz.underlying0
  a0 := Tryz.isAgg0
  z0 := Tryz.sizeOf0
  v0 := Tryz.zeroValue0
  t4 := Tryz.underlying4
  a4 := Tryz.isAgg4
  z4 := Tryz.sizeOf4
  v4 := Tryz.zeroValue4
  t5 := Tryz.underlying5
  a5 := Tryz.isAgg5
  z5 := Tryz.sizeOf5
  v5 := Tryz.zeroValue5
  t9 := Tryz.underlying9
  a9 := Tryz.isAgg9
  z9 := Tryz.sizeOf9
  v9 := Tryz.zeroValue9
  t20 := Tryz.underlying20
  a20 := Tryz.isAgg20
  z20 := Tryz.sizeOf20
  v20 := Tryz.zeroValue20
  t37 := Tryz.underlying59
  a37 := Tryz.isAgg59
  z37 := Tryz.sizeOf59
  v37 := Tryz.zeroValue59
  t70 := Tryz.underlying58
  a70 := Tryz.isAgg58
  z70 := Tryz.sizeOf58
  v70 := Tryz.zeroValue58
  t72 := Tryz.underlying61
  a72 := Tryz.isAgg61
  z72 := Tryz.sizeOf61
  v72 := Tryz.zeroValue61
  t75 := Tryz.underlying74
  a75 := Tryz.isAgg74
  z75 := Tryz.sizeOf74
  v75 := Tryz.zeroValue74
  t164 := Tryz.underlying100
  a164 := Tryz.isAgg100
  z164 := Tryz.sizeOf100
  v164 := Tryz.zeroValue100 }
theorem Tryz.Builder_Extra_167 : Builder.Extra Tryz.prog Tryz.lays167_ren := {
  sizeBuilder := by kernel_rfl
  liesBuilder := by kernel_rfl
  t5 := Tryz.underlying5
  a5 := Tryz.isAgg5
  z5 := Tryz.sizeOf5
  v5 := Tryz.zeroValue5
  infoByte := by kernel_rfl
  cellsByte := by kernel_rfl
  sizeByte := by kernel_rfl
  neB5 := by decide }
end Go.Proofs
set_option maxRecDepth 100000
namespace Go.Sy.Ex
open Go.Sy Go.Proofs
structure api_Token where
  Kind : Int
  At : Int
  End : Int
  Text : List UInt8
  N : Int
  deriving DecidableEq
def api_Token.z : api_Token := ⟨0, 0, 0, [], 0⟩
structure api_Fault where
  Code : Int
  At : Int
  deriving DecidableEq
def api_Fault.z : api_Fault := ⟨0, 0⟩
structure api_Expr where
  Kind : Int
  N : Int
  Name : List UInt8
  Kids : List api_Expr
  At : Int
def api_Expr.z : api_Expr := ⟨0, 0, [], [], 0⟩
structure read_Row where
  L : List api_Token
  At : Int
  Fault : api_Fault
  deriving DecidableEq
def read_Row.z : read_Row := ⟨[], 0, api_Fault.z⟩
structure expr_reader where
  Row : read_Row
  v_open : Int
  deriving DecidableEq
def expr_reader.z : expr_reader := ⟨read_Row.z, 0⟩
structure ref7_reader where
  l : List api_Token
  v_at : Int
  v_open : Int
  bad : api_Fault
  deriving DecidableEq
def ref7_reader.z : ref7_reader := ⟨[], 0, 0, api_Fault.z⟩
def C : Nat → Type
  | 0 => api_Token
  | 1 => api_Fault
  | 2 => List UInt8 × List UInt8 × List UInt8 × List UInt8 × List UInt8 × List UInt8 × List UInt8
  | 3 => api_Expr
  | 4 => read_Row
  | 5 => expr_reader
  | 6 => Unit
  | 7 => List UInt8 × List UInt8 × List UInt8 × List UInt8 × List UInt8 × List UInt8 × List UInt8 × List UInt8 × List UInt8 × List UInt8 × List UInt8 × List UInt8 × List UInt8
  | 8 => ref7_reader
  | 9 => List UInt8 × List UInt8 × List UInt8 × List UInt8 × List UInt8 × List UInt8 × List UInt8 × List UInt8 × List UInt8 × List UInt8 × List UInt8 × List UInt8 × List UInt8 × List UInt8 × List UInt8 × List UInt8 × List UInt8 × List UInt8 × List UInt8 × List UInt8 × List UInt8 × List UInt8 × List UInt8 × List UInt8 × List UInt8 × List UInt8 × List UInt8 × List UInt8 × List UInt8 × List UInt8 × List UInt8 × List UInt8 × List UInt8 × List UInt8 × List UInt8
  | _ + 10 => Unit
def F : Nat → List Ty
  | 0 => [.int .i64, .int .i64, .int .i64, .str, .int .i64]
  | 1 => [.int .i64, .int .i64]
  | 2 => [.str, .str, .str, .str, .str, .str, .str]
  | 3 => [.int .i64, .int .i64, .str, .sl (.st 3), .int .i64]
  | 4 => [.sl (.st 0), .int .i64, .int .i64, .int .i64]
  | 5 => [.sl (.st 0), .int .i64, .int .i64, .int .i64, .int .i64]
  | 6 => []
  | 7 => [.str, .str, .str, .str, .str, .str, .str, .str, .str, .str, .str, .str, .str]
  | 8 => [.sl (.st 0), .int .i64, .int .i64, .int .i64, .int .i64]
  | 9 => [.str, .str, .str, .str, .str, .str, .str, .str, .str, .str, .str, .str, .str, .str, .str, .str, .str, .str, .str, .str, .str, .str, .str, .str, .str, .str, .str, .str, .str, .str, .str, .str, .str, .str, .str]
  | _ + 10 => []
def ex : (t : Nat) → C t → Tup C (F t)
  | 0, (x : api_Token) => (x.Kind, x.At, x.End, x.Text, x.N)
  | 1, (x : api_Fault) => (x.Code, x.At)
  | 2, (x : List UInt8 × List UInt8 × List UInt8 × List UInt8 × List UInt8 × List UInt8 × List UInt8) => (x.1, x.2.1, x.2.2.1, x.2.2.2.1, x.2.2.2.2.1, x.2.2.2.2.2.1, x.2.2.2.2.2.2)
  | 3, (x : api_Expr) => (x.Kind, x.N, x.Name, x.Kids, x.At)
  | 4, (x : read_Row) => (x.L, x.At, x.Fault.Code, x.Fault.At)
  | 5, (x : expr_reader) => (x.Row.L, x.Row.At, x.Row.Fault.Code, x.Row.Fault.At, x.v_open)
  | 6, _ => ()
  | 7, (x : List UInt8 × List UInt8 × List UInt8 × List UInt8 × List UInt8 × List UInt8 × List UInt8 × List UInt8 × List UInt8 × List UInt8 × List UInt8 × List UInt8 × List UInt8) => (x.1, x.2.1, x.2.2.1, x.2.2.2.1, x.2.2.2.2.1, x.2.2.2.2.2.1, x.2.2.2.2.2.2.1, x.2.2.2.2.2.2.2.1, x.2.2.2.2.2.2.2.2.1, x.2.2.2.2.2.2.2.2.2.1, x.2.2.2.2.2.2.2.2.2.2.1, x.2.2.2.2.2.2.2.2.2.2.2.1, x.2.2.2.2.2.2.2.2.2.2.2.2)
  | 8, (x : ref7_reader) => (x.l, x.v_at, x.v_open, x.bad.Code, x.bad.At)
  | 9, (x : List UInt8 × List UInt8 × List UInt8 × List UInt8 × List UInt8 × List UInt8 × List UInt8 × List UInt8 × List UInt8 × List UInt8 × List UInt8 × List UInt8 × List UInt8 × List UInt8 × List UInt8 × List UInt8 × List UInt8 × List UInt8 × List UInt8 × List UInt8 × List UInt8 × List UInt8 × List UInt8 × List UInt8 × List UInt8 × List UInt8 × List UInt8 × List UInt8 × List UInt8 × List UInt8 × List UInt8 × List UInt8 × List UInt8 × List UInt8 × List UInt8) => (x.1, x.2.1, x.2.2.1, x.2.2.2.1, x.2.2.2.2.1, x.2.2.2.2.2.1, x.2.2.2.2.2.2.1, x.2.2.2.2.2.2.2.1, x.2.2.2.2.2.2.2.2.1, x.2.2.2.2.2.2.2.2.2.1, x.2.2.2.2.2.2.2.2.2.2.1, x.2.2.2.2.2.2.2.2.2.2.2.1, x.2.2.2.2.2.2.2.2.2.2.2.2.1, x.2.2.2.2.2.2.2.2.2.2.2.2.2.1, x.2.2.2.2.2.2.2.2.2.2.2.2.2.2.1, x.2.2.2.2.2.2.2.2.2.2.2.2.2.2.2.1, x.2.2.2.2.2.2.2.2.2.2.2.2.2.2.2.2.1, x.2.2.2.2.2.2.2.2.2.2.2.2.2.2.2.2.2.1, x.2.2.2.2.2.2.2.2.2.2.2.2.2.2.2.2.2.2.1, x.2.2.2.2.2.2.2.2.2.2.2.2.2.2.2.2.2.2.2.1, x.2.2.2.2.2.2.2.2.2.2.2.2.2.2.2.2.2.2.2.2.1, x.2.2.2.2.2.2.2.2.2.2.2.2.2.2.2.2.2.2.2.2.2.1, x.2.2.2.2.2.2.2.2.2.2.2.2.2.2.2.2.2.2.2.2.2.2.1, x.2.2.2.2.2.2.2.2.2.2.2.2.2.2.2.2.2.2.2.2.2.2.2.1, x.2.2.2.2.2.2.2.2.2.2.2.2.2.2.2.2.2.2.2.2.2.2.2.2.1, x.2.2.2.2.2.2.2.2.2.2.2.2.2.2.2.2.2.2.2.2.2.2.2.2.2.1, x.2.2.2.2.2.2.2.2.2.2.2.2.2.2.2.2.2.2.2.2.2.2.2.2.2.2.1, x.2.2.2.2.2.2.2.2.2.2.2.2.2.2.2.2.2.2.2.2.2.2.2.2.2.2.2.1, x.2.2.2.2.2.2.2.2.2.2.2.2.2.2.2.2.2.2.2.2.2.2.2.2.2.2.2.2.1, x.2.2.2.2.2.2.2.2.2.2.2.2.2.2.2.2.2.2.2.2.2.2.2.2.2.2.2.2.2.1, x.2.2.2.2.2.2.2.2.2.2.2.2.2.2.2.2.2.2.2.2.2.2.2.2.2.2.2.2.2.2.1, x.2.2.2.2.2.2.2.2.2.2.2.2.2.2.2.2.2.2.2.2.2.2.2.2.2.2.2.2.2.2.2.1, x.2.2.2.2.2.2.2.2.2.2.2.2.2.2.2.2.2.2.2.2.2.2.2.2.2.2.2.2.2.2.2.2.1, x.2.2.2.2.2.2.2.2.2.2.2.2.2.2.2.2.2.2.2.2.2.2.2.2.2.2.2.2.2.2.2.2.2.1, x.2.2.2.2.2.2.2.2.2.2.2.2.2.2.2.2.2.2.2.2.2.2.2.2.2.2.2.2.2.2.2.2.2.2)
  | _ + 10, _ => ()
def im : (t : Nat) → Tup C (F t) → C t
  | 0, (a0, a1, a2, a3, a4) => api_Token.mk a0 a1 a2 a3 a4
  | 1, (a0, a1) => api_Fault.mk a0 a1
  | 2, (a0, a1, a2, a3, a4, a5, a6) => (a0, a1, a2, a3, a4, a5, a6)
  | 3, (a0, a1, a2, a3, a4) => api_Expr.mk a0 a1 a2 a3 a4
  | 4, (a0, a1, a2, a3) => read_Row.mk a0 a1 (api_Fault.mk a2 a3)
  | 5, (a0, a1, a2, a3, a4) => expr_reader.mk (read_Row.mk a0 a1 (api_Fault.mk a2 a3)) a4
  | 6, _ => ()
  | 7, (a0, a1, a2, a3, a4, a5, a6, a7, a8, a9, a10, a11, a12) => (a0, a1, a2, a3, a4, a5, a6, a7, a8, a9, a10, a11, a12)
  | 8, (a0, a1, a2, a3, a4) => ref7_reader.mk a0 a1 a2 (api_Fault.mk a3 a4)
  | 9, (a0, a1, a2, a3, a4, a5, a6, a7, a8, a9, a10, a11, a12, a13, a14, a15, a16, a17, a18, a19, a20, a21, a22, a23, a24, a25, a26, a27, a28, a29, a30, a31, a32, a33, a34) => (a0, a1, a2, a3, a4, a5, a6, a7, a8, a9, a10, a11, a12, a13, a14, a15, a16, a17, a18, a19, a20, a21, a22, a23, a24, a25, a26, a27, a28, a29, a30, a31, a32, a33, a34)
  | _ + 10, _ => ()
def fldT : Nat → List (Nat × Ty)
  | 0 => [(0, .int .i64), (1, .int .i64), (2, .int .i64), (3, .str), (4, .int .i64)]
  | 1 => [(0, .int .i64), (1, .int .i64)]
  | 2 => rowFlds (.str) 7 0
  | 3 => [(0, .int .i64), (1, .int .i64), (2, .str), (3, .sl (.st 3)), (4, .int .i64)]
  | 4 => [(0, .sl (.st 0)), (1, .int .i64), (2, .st 1)]
  | 5 => [(0, .st 4), (4, .int .i64)]
  | 6 => []
  | 7 => rowFlds (.str) 13 0
  | 8 => [(0, .sl (.st 0)), (1, .int .i64), (2, .int .i64), (3, .st 1)]
  | 9 => rowFlds (.str) 35 0
  | _ + 10 => []
def z : (t : Nat) → C t
  | 0 => api_Token.z
  | 1 => api_Fault.z
  | 2 => ([], [], [], [], [], [], [])
  | 3 => api_Expr.z
  | 4 => read_Row.z
  | 5 => expr_reader.z
  | 6 => ()
  | 7 => ([], [], [], [], [], [], [], [], [], [], [], [], [])
  | 8 => ref7_reader.z
  | 9 => ([], [], [], [], [], [], [], [], [], [], [], [], [], [], [], [], [], [], [], [], [], [], [], [], [], [], [], [], [], [], [], [], [], [], [])
  | _ + 10 => ()
def tyT : List (Nat × Ty) := [(2, .int .i64), (3, .int .i64), (4, .bool), (5, .int .u8), (9, .str), (22, .sl (.st 0)), (23, .int .i64), (25, .st 1), (30, .sl (.st 3)), (32, .st 3), (39, .st 0), (48, .st 4), (50, .st 5), (54, .st 8), (71, .st 2), (79, .sl (.int .i64)), (92, .st 7), (118, .st 9)]
def arT : List (Nat × (Nat × Ty)) := [(71, 7, .str), (92, 13, .str), (118, 35, .str)]
def eqT : List (Nat × Unit) := [(25, ())]
def ifcT : List (Nat × Unit) := [(74, ())]
def ptT : List (Nat × Unit) := []
def spT : List (Nat × Unit) := []
abbrev S : Sen := ⟨C, F, ex, im, fun u f => (fldT u)[f]?, z, look tyT, fun t => (look ptT t).isSome, look arT, fun t => (look eqT t).isSome, fun t => (look ifcT t).isSome, [((1, 0), fun v => ∃ m, v = .int .i64 m), ((3, 0), fun v => v = .nilIface ∨ ∃ t p, v = .iface t p), ((2, 0), fun v => v = .nilIface ∨ ∃ t p, v = .iface t p)], [(0, fun ob => ∃ t f, ob = .cells (Go.Lib.pow10Tab.map fun z => Value.int .u64 z).toArray t f)], some (61, 5), fun t => (look spT t).isSome⟩
def bytT : List (Nat × Nat) := [(22, 48), (30, 64), (79, 8)]
def byt (t : Nat) : Nat := (look bytT t).getD 1
theorem senOk : SenOk S := ⟨fun | 0 => rfl | 1 => rfl | 2 => rfl | 3 => rfl | 4 => rfl | 5 => rfl | 6 => rfl | 7 => rfl | 8 => rfl | 9 => rfl | _ + 10 => rfl, fun | 0, _ => rfl | 1, _ => rfl | 2, _ => rfl | 3, _ => rfl | 4, _ => rfl | 5, _ => rfl | 6, _ => rfl | 7, _ => rfl | 8, _ => rfl | 9, _ => rfl | _ + 10, _ => rfl⟩
theorem ty2 : TyAt Tryz.prog S byt 2 (.int .i64) := tyAt_int rfl (by kernel_rfl) (by kernel_rfl) (by kernel_rfl)
theorem ty3 : TyAt Tryz.prog S byt 3 (.int .i64) := tyAt_int rfl (by kernel_rfl) (by kernel_rfl) (by kernel_rfl)
theorem ty4 : TyAt Tryz.prog S byt 4 (.bool) := tyAt_bool rfl (by kernel_rfl) (by kernel_rfl) (by kernel_rfl)
theorem ty5 : TyAt Tryz.prog S byt 5 (.int .u8) := tyAt_int rfl (by kernel_rfl) (by kernel_rfl) (by kernel_rfl)
theorem ty9 : TyAt Tryz.prog S byt 9 (.str) := tyAt_str rfl (by kernel_rfl) (by kernel_rfl) (by kernel_rfl)
theorem ty22 : TyAt Tryz.prog S byt 22 (.sl (.st 0)) := tyAt_sl rfl (by kernel_rfl) (by kernel_rfl) Tryz.underlying22 rfl rfl (by kernel_rfl) (by kernel_rfl)
theorem ty23 : TyAt Tryz.prog S byt 23 (.int .i64) := tyAt_int rfl (by kernel_rfl) (by kernel_rfl) (by kernel_rfl)
theorem ty25 : TyAt Tryz.prog S byt 25 (.st 1) := tyAt_st (l := fldT 1) rfl (by kernel_rfl) rfl (by kernel_rfl) (by kernel_rfl) rfl (by kernel_rfl) Tryz.underlying25 (by kernel_rfl) (fun _ => rfl) rfl
theorem ty30 : TyAt Tryz.prog S byt 30 (.sl (.st 3)) := tyAt_sl rfl (by kernel_rfl) (by kernel_rfl) Tryz.underlying30 rfl rfl (by kernel_rfl) (by kernel_rfl)
theorem ty32 : TyAt Tryz.prog S byt 32 (.st 3) := tyAt_st (l := fldT 3) rfl (by kernel_rfl) rfl (by kernel_rfl) (by kernel_rfl) rfl (by kernel_rfl) Tryz.underlying32 (by kernel_rfl) (fun _ => rfl) rfl
theorem ty39 : TyAt Tryz.prog S byt 39 (.st 0) := tyAt_st (l := fldT 0) rfl (by kernel_rfl) rfl (by kernel_rfl) (by kernel_rfl) rfl (by kernel_rfl) Tryz.underlying39 (by kernel_rfl) (fun _ => rfl) rfl
theorem ty48 : TyAt Tryz.prog S byt 48 (.st 4) := tyAt_st (l := fldT 4) rfl (by kernel_rfl) rfl (by kernel_rfl) (by kernel_rfl) rfl (by kernel_rfl) Tryz.underlying48 (by kernel_rfl) (fun _ => rfl) rfl
theorem ty50 : TyAt Tryz.prog S byt 50 (.st 5) := tyAt_st (l := fldT 5) rfl (by kernel_rfl) rfl (by kernel_rfl) (by kernel_rfl) rfl (by kernel_rfl) Tryz.underlying50 (by kernel_rfl) (fun _ => rfl) rfl
theorem ty54 : TyAt Tryz.prog S byt 54 (.st 8) := tyAt_st (l := fldT 8) rfl (by kernel_rfl) rfl (by kernel_rfl) (by kernel_rfl) rfl (by kernel_rfl) Tryz.underlying54 (by kernel_rfl) (fun _ => rfl) rfl
theorem ty71 : TyAt Tryz.prog S byt 71 (.st 2) := tyAt_ar rfl (by kernel_rfl) rfl (by kernel_rfl) (by kernel_rfl) rfl (by kernel_rfl) Tryz.underlying71 rfl rfl rfl (by kernel_rfl) (fun _ => rfl) rfl
theorem ty79 : TyAt Tryz.prog S byt 79 (.sl (.int .i64)) := tyAt_sl rfl (by kernel_rfl) (by kernel_rfl) Tryz.underlying79 rfl rfl (by kernel_rfl) (by kernel_rfl)
theorem ty92 : TyAt Tryz.prog S byt 92 (.st 7) := tyAt_ar rfl (by kernel_rfl) rfl (by kernel_rfl) (by kernel_rfl) rfl (by kernel_rfl) Tryz.underlying92 rfl rfl rfl (by kernel_rfl) (fun _ => rfl) rfl
theorem ty118 : TyAt Tryz.prog S byt 118 (.st 9) := tyAt_ar rfl (by kernel_rfl) rfl (by kernel_rfl) (by kernel_rfl) rfl (by kernel_rfl) Tryz.underlying118 rfl rfl rfl (by kernel_rfl) (fun _ => rfl) rfl
theorem progOk : ProgOk Tryz.prog S byt := ⟨senOk, fun t T h0 => by
  have h := look_mem (show look tyT t = some T from h0)
  simp only [tyT, List.mem_cons, Prod.mk.injEq, List.not_mem_nil, or_false] at h
  rcases h with ⟨rfl, rfl⟩ | ⟨rfl, rfl⟩ | ⟨rfl, rfl⟩ | ⟨rfl, rfl⟩ | ⟨rfl, rfl⟩ | ⟨rfl, rfl⟩ | ⟨rfl, rfl⟩ | ⟨rfl, rfl⟩ | ⟨rfl, rfl⟩ | ⟨rfl, rfl⟩ | ⟨rfl, rfl⟩ | ⟨rfl, rfl⟩ | ⟨rfl, rfl⟩ | ⟨rfl, rfl⟩ | ⟨rfl, rfl⟩ | ⟨rfl, rfl⟩ | ⟨rfl, rfl⟩ | ⟨rfl, rfl⟩
  · exact ty2
  · exact ty3
  · exact ty4
  · exact ty5
  · exact ty9
  · exact ty22
  · exact ty23
  · exact ty25
  · exact ty30
  · exact ty32
  · exact ty39
  · exact ty48
  · exact ty50
  · exact ty54
  · exact ty71
  · exact ty79
  · exact ty92
  · exact ty118, fun t h => by
  have h2 : ∃ u, look ptT t = some u := Option.isSome_iff_exists.1 h
  obtain ⟨u, h2⟩ := h2
  have h := look_mem h2
  simp [ptT] at h, fun t h => by
  have h2 : ∃ u, look eqT t = some u := Option.isSome_iff_exists.1 h
  obtain ⟨u, h2⟩ := h2
  have h := look_mem h2
  simp only [eqT, List.mem_cons, Prod.mk.injEq, List.not_mem_nil, or_false] at h
  rcases h with ⟨rfl, _⟩
  · exact ⟨1, rfl, ⟨_, Tryz.underlying25, eqFlds_of (by kernel_rfl)⟩, by kernel_rfl, by kernel_rfl⟩, fun t h => by
  have h2 : ∃ u, look ifcT t = some u := Option.isSome_iff_exists.1 h
  obtain ⟨u, h2⟩ := h2
  have h := look_mem h2
  simp only [ifcT, List.mem_cons, Prod.mk.injEq, List.not_mem_nil, or_false] at h
  rcases h with ⟨rfl, _⟩
  · exact ⟨_, Tryz.underlying74⟩, bt_of (by kernel_rfl) (by decide)⟩
theorem mixed : Tryz.prog.follows .mixedOrders = true := by kernel_rfl
def bz (e : Ty) : Nat := 1
def tyA : List (Nat × Ty) := [(3, .int .i64), (9, .str)]
/-- The arguments' types alone. -/
def arA : List (Nat × (Nat × Ty)) := []
abbrev SA : Sen := S.withT (look tyA) (fun _ => false) (look arA) (fun _ => false)
theorem tyA3 : TyAt Tryz.prog SA byt 3 (.int .i64) := tyAt_int rfl (by kernel_rfl) (by kernel_rfl) (by kernel_rfl)
theorem tyA9 : TyAt Tryz.prog SA byt 9 (.str) := tyAt_str rfl (by kernel_rfl) (by kernel_rfl) (by kernel_rfl)
theorem senOkA : SenOk SA := ⟨senOk.flat, senOk.exim⟩
theorem progOkA : ProgOk Tryz.prog SA byt := ⟨senOkA, fun t e h0 => by
  have h := look_mem (show look tyA t = some (e) from h0)
  simp only [tyA, List.mem_cons, Prod.mk.injEq, List.not_mem_nil, or_false] at h
  rcases h with ⟨rfl, h⟩ | ⟨rfl, h⟩
  · subst h; exact tyA3
  · subst h; exact tyA9, fun t h => (nomatch h), fun t h => (nomatch h), progOk.ifc, progOk.bt⟩
theorem hbz : ∀ t e, SA.ty t = some (.sl e) → byt t = bz e := fun t e h0 => by
  have h := look_mem (show look tyA t = some (.sl e) from h0)
  simp only [tyA, List.mem_cons, Prod.mk.injEq, List.not_mem_nil, or_false] at h
  rcases h with ⟨rfl, h⟩ | ⟨rfl, h⟩
  · exact (nomatch h)
  · exact (nomatch h)
theorem slOk : SlOk SA := ⟨fun t e h0 => by
  have h := look_mem (show look tyA t = some (.sl e) from h0)
  simp only [tyA, List.mem_cons, Prod.mk.injEq, List.not_mem_nil, or_false] at h
  rcases h with ⟨rfl, h⟩ | ⟨rfl, h⟩
  · exact (nomatch h)
  · exact (nomatch h), fun t h0 => by
  have h := look_mem (show look tyA t = some (.pt) from h0)
  simp only [tyA, List.mem_cons, Prod.mk.injEq, List.not_mem_nil, or_false] at h
  rcases h with ⟨rfl, h⟩ | ⟨rfl, h⟩
  · exact (nomatch h)
  · exact (nomatch h)⟩
theorem stOk : StOk Tryz.prog SA := fun t e h0 => by
  have h := look_mem (show look tyA t = some (.st e) from h0)
  simp only [tyA, List.mem_cons, Prod.mk.injEq, List.not_mem_nil, or_false] at h
  rcases h with ⟨rfl, h⟩ | ⟨rfl, h⟩
  · exact (nomatch h)
  · exact (nomatch h)
abbrev s_minus_gt : List UInt8 := [45, 62]
abbrev s_eq_eq : List UInt8 := [61, 61]
abbrev s_bang_eq : List UInt8 := [33, 61]
abbrev s_lt_eq : List UInt8 := [60, 61]
abbrev s_gt_eq : List UInt8 := [62, 61]
abbrev s_amp_amp : List UInt8 := [38, 38]
abbrev s_bar_bar : List UInt8 := [124, 124]
abbrev s_x5d46a : List UInt8 := [123, 125, 40, 41, 91, 93, 59, 44, 46, 58, 61, 60, 62, 43, 45, 42, 47, 37, 33, 36]
abbrev s_1_2_3_4_x666bb : List UInt8 := [49, 45, 40, 50, 45, 51, 41, 45, 40, 40, 52, 41, 41]
abbrev s_sp_tab_nl_cr : List UInt8 := [32, 9, 10, 13]
abbrev s_xe6575 : List UInt8 := [45, 62, 32, 61, 61, 32, 33, 61, 32, 60, 61, 32, 62, 61, 32, 38, 38, 32, 124, 124]
abbrev s_minus : List UInt8 := [45]
abbrev s_bang : List UInt8 := [33]
abbrev s_dollar : List UInt8 := [36]
abbrev s_system : List UInt8 := [115, 121, 115, 116, 101, 109]
abbrev s_age : List UInt8 := [97, 103, 101]
abbrev s_chart : List UInt8 := [99, 104, 97, 114, 116]
abbrev s_steps : List UInt8 := [115, 116, 101, 112, 115]
abbrev s_fuel : List UInt8 := [102, 117, 101, 108]
abbrev s_var : List UInt8 := [118, 97, 114]
abbrev s_port : List UInt8 := [112, 111, 114, 116]
abbrev s_timer : List UInt8 := [116, 105, 109, 101, 114]
abbrev s_state : List UInt8 := [115, 116, 97, 116, 101]
abbrev s_parallel : List UInt8 := [112, 97, 114, 97, 108, 108, 101, 108]
abbrev s_history : List UInt8 := [104, 105, 115, 116, 111, 114, 121]
abbrev s_deep : List UInt8 := [100, 101, 101, 112]
abbrev s_entry : List UInt8 := [101, 110, 116, 114, 121]
abbrev s_exit : List UInt8 := [101, 120, 105, 116]
abbrev s_on : List UInt8 := [111, 110]
abbrev s_auto : List UInt8 := [97, 117, 116, 111]
abbrev s_raise : List UInt8 := [114, 97, 105, 115, 101]
abbrev s_send : List UInt8 := [115, 101, 110, 100]
abbrev s_arm : List UInt8 := [97, 114, 109]
abbrev s_cancel : List UInt8 := [99, 97, 110, 99, 101, 108]
abbrev s_if : List UInt8 := [105, 102]
abbrev s_else : List UInt8 := [101, 108, 115, 101]
abbrev s_loop : List UInt8 := [108, 111, 111, 112]
abbrev s_in : List UInt8 := [105, 110]
abbrev s_inst : List UInt8 := [105, 110, 115, 116]
abbrev s_quantum : List UInt8 := [113, 117, 97, 110, 116, 117, 109]
abbrev s_ext : List UInt8 := [101, 120, 116]
abbrev s_prio : List UInt8 := [112, 114, 105, 111]
abbrev s_chan : List UInt8 := [99, 104, 97, 110]
abbrev s_cap : List UInt8 := [99, 97, 112]
abbrev s_cert : List UInt8 := [99, 101, 114, 116]
abbrev s_insts : List UInt8 := [105, 110, 115, 116, 115]
abbrev s_chans : List UInt8 := [99, 104, 97, 110, 115]
abbrev s_cell : List UInt8 := [99, 101, 108, 108]
abbrev s_off : List UInt8 := [111, 102, 102]
abbrev s_lp : List UInt8 := [40]
abbrev s_rp : List UInt8 := [41]
abbrev s_lt : List UInt8 := [60]
abbrev s_gt : List UInt8 := [62]
abbrev s_plus : List UInt8 := [43]
abbrev s_star : List UInt8 := [42]
abbrev s_slash : List UInt8 := [47]
abbrev s_pct : List UInt8 := [37]
abbrev s_x_y_x573a0 : List UInt8 := [45, 40, 45, 120, 41, 32, 42, 32, 40, 121, 41]
abbrev s_a_b_c_x6aaa8 : List UInt8 := [97, 32, 60, 32, 98, 32, 60, 32, 99]
abbrev s_in_xcc76e : List UInt8 := [105, 110, 40]
abbrev s_sp : List UInt8 := [32]
abbrev s_1_2_3_4_x693b6 : List UInt8 := [49, 32, 45, 32, 40, 50, 32, 45, 32, 51, 41, 32, 45, 32, 52]
abbrev s_x_y_x3bbf6 : List UInt8 := [45, 45, 120, 32, 42, 32, 121]
abbrev arr_xb6ce8 : List UInt8 × List UInt8 × List UInt8 × List UInt8 × List UInt8 × List UInt8 × List UInt8 := (s_minus_gt, s_eq_eq, s_bang_eq, s_lt_eq, s_gt_eq, s_amp_amp, s_bar_bar)
abbrev arr_x03b7b : List UInt8 × List UInt8 × List UInt8 × List UInt8 × List UInt8 × List UInt8 × List UInt8 × List UInt8 × List UInt8 × List UInt8 × List UInt8 × List UInt8 × List UInt8 := (s_bar_bar, s_amp_amp, s_lt, s_lt_eq, s_gt, s_gt_eq, s_eq_eq, s_bang_eq, s_plus, s_minus, s_star, s_slash, s_pct)
abbrev arr_x8304b : List UInt8 × List UInt8 × List UInt8 × List UInt8 × List UInt8 × List UInt8 × List UInt8 × List UInt8 × List UInt8 × List UInt8 × List UInt8 × List UInt8 × List UInt8 × List UInt8 × List UInt8 × List UInt8 × List UInt8 × List UInt8 × List UInt8 × List UInt8 × List UInt8 × List UInt8 × List UInt8 × List UInt8 × List UInt8 × List UInt8 × List UInt8 × List UInt8 × List UInt8 × List UInt8 × List UInt8 × List UInt8 × List UInt8 × List UInt8 × List UInt8 := (s_system, s_age, s_chart, s_steps, s_fuel, s_var, s_port, s_timer, s_state, s_parallel, s_history, s_deep, s_entry, s_exit, s_on, s_auto, s_raise, s_send, s_arm, s_cancel, s_if, s_else, s_loop, s_in, s_inst, s_quantum, s_ext, s_prio, s_chan, s_cap, s_cert, s_insts, s_chans, s_cell, s_off)
end Go.Sy.Ex
/-! Callees by their contracts. -/
namespace Go.Sy.Ex
open Go.Sy Go.Proofs
theorem glob_I {w : World} {M : St} (h : Glob S w M) : (∃ m, w.cell? ⟨1, 0, none⟩ = some (.int .i64 m)) := by
  obtain ⟨_, _, v0, c0, m, rfl⟩ := h.1 (((1, 0), fun v => ∃ m, v = .int .i64 m)) (by simp)
  exact ⟨m, c0⟩
theorem glob_R {w : World} {M : St} (h : Glob S w M) : (∃ e, w.cell? ⟨3, 0, none⟩ = some e ∧ (e = .nilIface ∨ ∃ t p, e = .iface t p)) := by
  obtain ⟨_, _, v1, c1, p1⟩ := h.1 (((3, 0), fun v => v = .nilIface ∨ ∃ t p, v = .iface t p)) (by simp)
  exact ⟨v1, c1, p1⟩
theorem glob_S {w : World} {M : St} (h : Glob S w M) : (∃ e, w.cell? ⟨2, 0, none⟩ = some e ∧ (e = .nilIface ∨ ∃ t p, e = .iface t p)) := by
  obtain ⟨_, _, v1, c1, p1⟩ := h.1 (((2, 0), fun v => v = .nilIface ∨ ∃ t p, v = .iface t p)) (by simp)
  exact ⟨v1, c1, p1⟩
theorem glob_P {w : World} {M : St} (h : Glob S w M) : Lib.TabIs Tryz.prog w "internal/strconv.uint64pow10" .u64 Lib.pow10Tab := by
  obtain ⟨_, _, ob, c3, t, f, rfl⟩ := h.2 ((0, fun ob => ∃ t f, ob = .cells (Go.Lib.pow10Tab.map fun z => Value.int .u64 z).toArray t f)) (by simp)
  unfold Lib.TabIs World.var?
  rw [show Tryz.prog.globalNamed "internal/strconv.uint64pow10" = some 0 from by kernel_rfl]
  show (match w.heap[0]? with | some (.cells cs _ _) => some cs | _ => none) = _
  rw [c3]
theorem chg_of {w w' : World} {M : St} (h : RowKit.Below w.heap.size w w') : Chg w w' M := by
  obtain ⟨a, b, c, d, e⟩ := h
  exact ⟨a, b, c, d, fun k hk _ => e k hk, fun k o hk _ => cell_of_heap (e k hk), fun k o hk hs => by rw [cell_of_heap (e k hk)]; exact hs, fun k o hk _ => frz_of_heap (e k hk)⟩
theorem str_len (l : List UInt8) : (⟨l.toArray⟩ : ByteArray).size = l.length := by show l.toArray.size = _; simp
theorem below_grow (w : World) (k : Nat) (os : Array Obj) : RowKit.Below w.heap.size w (Go.Sort.grow (w.drewN k) os) :=
  ⟨rfl, rfl, rfl, by simp [Go.Sort.grow, World.drewN], fun j hj => by simp [Go.Sort.grow, World.drewN, Array.getElem?_append, hj]⟩
theorem str_res {w : World} {s M : St} (hM : NoSt M) (r : List UInt8) : KsRel Tryz.prog S w s M [.val (.data .str)] r [.string ⟨r.toArray⟩] :=
  ⟨_, _, _, _, splitL M, rfl, ⟨⟨hM, 1, rfl⟩, rfl⟩, fun _ _ h => h, rfl⟩
noncomputable def p_IndexByte (s : List UInt8) (c : Int) : Option Int := some (Lib.indexByte s c.toNat.toUInt8)
theorem p_IndexByte_snd47 : Snd Tryz.prog S ⟨47, [.val (.data .str), .val (.data (.int .u8))], [.val (.data (.int .i64))], fun x => p_IndexByte x.1 x.2⟩ := by
  refine ⟨⟨Tryz.f47, Tryz.func47, by kernel_rfl, by kernel_rfl⟩, fun w s M (x : List UInt8 × Int) args r hx hs hG hr => ?_⟩
  obtain ⟨x, y⟩ := x
  obtain ⟨M1, M2, v, rr, _, rfl, ⟨⟨_, n, h1⟩, h2⟩, M3, M4, v', rr', _, rfl, ⟨⟨_, n', h3⟩, h4⟩, _, rfl⟩ := hx
  have hv := RepV_str (w := w) (s := s) ⟨h2, n, h1⟩
  have hv' := RepV_int (w := w) (s := s) ⟨h4, n', h3⟩
  subst hv hv'
  cases hr
  refine (Tryz.strings_IndexByte _ _ w).mono ?_
  rintro e w' ⟨rfl, rfl⟩
  exact ⟨[.int .i64 _], fun _ _ => False, fun _ _ => False, rfl, Chg.refl _ _, ⟨_, _, _, _, noSplit', rfl, ⟨⟨fun _ _ h => h, 1, rfl⟩, rfl⟩, fun _ _ h => h, rfl⟩, fun _ _ h => h.elim, fun _ _ h => h.elim⟩
noncomputable def p_Contains (s sub : List UInt8) : Option Bool := if s.length < 4294967281 then some (Lib.contains s sub) else none
theorem p_Contains_snd67 : Snd Tryz.prog S ⟨67, [.val (.data .str), .val (.data .str)], [.val (.data .bool)], fun x => p_Contains x.1 x.2⟩ := by
  refine ⟨⟨Tryz.f67, Tryz.func67, by kernel_rfl, by kernel_rfl⟩, fun w s M (x : List UInt8 × List UInt8) args r hx hs hG hr => ?_⟩
  obtain ⟨x, y⟩ := x
  obtain ⟨M1, M2, v, rr, _, rfl, ⟨⟨_, n, h1⟩, h2⟩, M3, M4, v', rr', _, rfl, ⟨⟨_, n', h3⟩, h4⟩, _, rfl⟩ := hx
  have hv := RepV_str (w := w) (s := s) ⟨h2, n, h1⟩
  have hv' := RepV_str (w := w) (s := s) ⟨h4, n', h3⟩
  subst hv hv'
  obtain ⟨m, hm⟩ := glob_I hG
  replace hr : p_Contains x y = some r := hr
  unfold p_Contains at hr
  split at hr
  · rename_i hl
    cases hr
    refine (Tryz.strings_Contains ⟨x.toArray⟩ ⟨y.toArray⟩ m w (Nat.lt_of_le_of_lt (Nat.le_of_eq (str_len _)) hl) hm).mono ?_
    rintro e w' ⟨rfl, rfl⟩
    exact ⟨[.bool _], fun _ _ => False, fun _ _ => False, rfl, Chg.refl _ _, ⟨_, _, _, _, noSplit', rfl, ⟨⟨fun _ _ h => h, 1, rfl⟩, rfl⟩, fun _ _ h => h, rfl⟩, fun _ _ h => h.elim, fun _ _ h => h.elim⟩
  · cases hr
noncomputable def p_ParseInt (s : List UInt8) (b z : Int) : Option (Int × Bool) := if s.length ≤ 281474976710656 ∧ b = 10 ∧ z = 64 then some (match Lib.parseIntB 64 s with
  | .ok v => (v, true)
  | .range => (Lib.intSat 64 s, false)
  | _ => (0, false)) else none
theorem int_err {w : World} {s M : St} (hM : NoSt M) (v : Int) (b : Bool) (e : Value) (he : ErrRel b e) : KsRel Tryz.prog S w s M [.val (.data (.int .i64)), .err] (v, b) [.int .i64 v, e] :=
  ⟨_, _, _, _, splitL M, rfl, ⟨⟨hM, 1, rfl⟩, rfl⟩, _, _, _, _, noSplit', rfl, ⟨fun _ _ h => h, he⟩, fun _ _ h => h, rfl⟩
theorem p_ParseInt_snd66 : Snd Tryz.prog S ⟨66, [.val (.data .str), .val (.data (.int .i64)), .val (.data (.int .i64))], [.val (.data (.int .i64)), .err], fun x => p_ParseInt x.1 x.2.1 x.2.2⟩ := by
  refine ⟨⟨Tryz.f66, Tryz.func66, by kernel_rfl, by kernel_rfl⟩, fun w s M (x : List UInt8 × Int × Int) args r hx hs hG hr => ?_⟩
  obtain ⟨x, y, z⟩ := x
  obtain ⟨M1, M2, v, rr, _, rfl, ⟨⟨_, n, h1⟩, h2⟩, M3, M4, v', rr', _, rfl, ⟨⟨_, n', h3⟩, h4⟩, M5, M6, v'', rr'', _, rfl, ⟨⟨_, n'', h5⟩, h6⟩, _, rfl⟩ := hx
  have hv := RepV_str (w := w) (s := s) ⟨h2, n, h1⟩
  have hv' := RepV_int (w := w) (s := s) ⟨h4, n', h3⟩
  have hv'' := RepV_int (w := w) (s := s) ⟨h6, n'', h5⟩
  subst hv hv' hv''
  obtain ⟨e1, c1, k1⟩ := glob_R hG
  obtain ⟨e0, c0, k0⟩ := glob_S hG
  replace hr : p_ParseInt x y z = some r := hr
  unfold p_ParseInt at hr
  split at hr
  · rename_i hl
    obtain ⟨hl, rfl, rfl⟩ := hl
    have hsz : (⟨x.toArray⟩ : ByteArray).size ≤ 281474976710656 := Nat.le_trans (Nat.le_of_eq (str_len x)) hl
    have hfin : ∀ (r0 : Int × Bool) (e : Value) (w' : World), ErrRel r0.2 e → RowKit.Below w.heap.size w w' → ∃ us s' M', Ending.returned (Value.tuple #[.int .i64 r0.1, e]) = .returned (retV us) ∧ Chg w w' M ∧ KsRel Tryz.prog S w' s' M' [.val (.data (.int .i64)), .err] r0 (us ++ []) ∧
        (∀ b o, s' b o → b < w'.heap.size ∧ ¬ M' b o ∧ (s b o ∨ M b o ∨ w.heap.size ≤ b)) ∧ ∀ b o, M' b o → M b o ∨ w.heap.size ≤ b := fun r0 e w' he hb =>
      ⟨[.int .i64 r0.1, e], fun _ _ => False, fun _ _ => False, rfl, chg_of hb, int_err (fun _ _ h => h) _ _ _ he, fun _ _ h => h.elim, fun _ _ h => h.elim⟩
    cases hp : Lib.parseIntB 64 x with
    | ok v =>
      rw [hp] at hr
      cases hr
      refine (Tryz.strconv_ParseInt_10_at64_ok ⟨x.toArray⟩ (by omega) v hp w).mono ?_
      rintro e w' ⟨rfl, hw⟩
      refine hfin (v, true) .nilIface w' rfl ?_
      rcases hw with rfl | ⟨t, rfl⟩
      · exact RowKit.Below.refl _ _
      · exact ⟨rfl, rfl, rfl, by rw [Lib.bytesWorld_size]; omega, fun j hj => Lib.bytesWorld_at_old w 5 t j hj⟩
    | range =>
      rw [hp] at hr
      cases hr
      refine (Tryz.strconv_ParseInt_10_at64_range ⟨x.toArray⟩ hsz hp e1 w c1 k1).mono ?_
      rintro e w' ⟨N, rfl, _, _, hb⟩
      exact hfin (_, false) _ w' ⟨_, _, rfl⟩ hb
    | _ =>
      rw [hp] at hr
      cases hr
      refine (Any.strconv_ParseInt_10_at64_syntax Tryz.laysC174 ⟨x.toArray⟩ hsz hp e0 w c0 k0).mono ?_
      rintro e w' ⟨N, rfl, _, _, hb⟩
      exact hfin (0, false) _ w' ⟨_, _, rfl⟩ hb
  · cases hr
noncomputable def p_FormatInt (n b : Int) : Option (List UInt8) := if b = 10 ∧ -9223372036854775808 ≤ n ∧ n ≤ 9223372036854775807 then some (Lib.itoa n) else none
theorem p_FormatInt_snd36 : Snd Tryz.prog S ⟨36, [.val (.data (.int .i64)), .val (.data (.int .i64))], [.val (.data .str)], fun x => p_FormatInt x.1 x.2⟩ := by
  refine ⟨⟨Tryz.f36, Tryz.func36, by kernel_rfl, by kernel_rfl⟩, fun w s M (x : Int × Int) args r hx hs hG hr => ?_⟩
  obtain ⟨x, y⟩ := x
  obtain ⟨M1, M2, v, rr, _, rfl, ⟨⟨_, n, h1⟩, h2⟩, M3, M4, v', rr', _, rfl, ⟨⟨_, n', h3⟩, h4⟩, _, rfl⟩ := hx
  have hv := RepV_int (w := w) (s := s) ⟨h2, n, h1⟩
  have hv' := RepV_int (w := w) (s := s) ⟨h4, n', h3⟩
  subst hv hv'
  have ht := glob_P hG
  replace hr : p_FormatInt x y = some r := hr
  unfold p_FormatInt at hr
  split at hr
  · rename_i hl
    obtain ⟨rfl, hl⟩ := hl
    cases hr
    refine (Tryz.strconv_FormatInt_10 x hl.1 hl.2 w ht).mono ?_
    rintro e w' ⟨rfl, k, os, rfl⟩
    exact ⟨[.string _], fun _ _ => False, fun _ _ => False, rfl, chg_of (below_grow w k os), str_res (fun _ _ h => h) _, fun _ _ h => h.elim, fun _ _ h => h.elim⟩
  · cases hr
theorem p_bldStr_snd35 : Snd Tryz.prog S ⟨35, [.bld, .val (.data .str)], [.val (.data (.int .i64)), .err], fun x => bldStr x.1 x.2⟩ :=
  bldStr_snd (ρ := Tryz.lays166_ren) Tryz.lays166 Tryz.Builder_Extra_166 rfl ⟨Tryz.f35, Tryz.func35, by kernel_rfl, by kernel_rfl⟩
theorem p_bldByte_snd34 : Snd Tryz.prog S ⟨34, [.bld, .val (.data (.int .u8))], [.err], fun x => bldByte x.1 x.2⟩ :=
  bldByte_snd (ρ := Tryz.lays167_ren) Tryz.lays167 Tryz.Builder_Extra_167 rfl ⟨Tryz.f34, Tryz.func34, by kernel_rfl, by kernel_rfl⟩
theorem p_bldByte_sndD34 : SndD Tryz.prog S ⟨34, [.bld, .val (.data (.int .u8))], [.err], fun x => bldByte x.1 x.2⟩ :=
  bldByte_sndD (ρ := Tryz.lays167_ren) Tryz.lays167 Tryz.Builder_Extra_167 rfl ⟨Tryz.f34, Tryz.func34, by kernel_rfl, by kernel_rfl⟩
noncomputable def bldRead (x : List UInt8) : Option (List UInt8 × List UInt8) := some (x, x)
theorem p_bldRead_snd24 : Snd Tryz.prog S ⟨24, [.bld], [.val (.data .str)], fun x => bldRead x⟩ :=
  bldRead_snd (ρ := Tryz.lays169_ren) Tryz.lays169 Tryz.Builder_Extra_169 rfl ⟨Tryz.f24, Tryz.func24, by kernel_rfl, by kernel_rfl⟩
end Go.Sy.Ex
set_option maxRecDepth 100000
namespace Go.Sy.Ex
open Go.Sy Go.Proofs
/-! ### 10 cotillion/cotillionref6.skip -/
mutual
noncomputable def ref6_skip_l0 : Nat → (List UInt8) → Int → Option Int
  | 0, _, _ => none
  | k + 1, s, i => if i < (s.length : Int) then
    if 0 ≤ i then
    if i < (s.length : Int) then
    if ((s.getD i.toNat 0).toNat : Int) = 32 then
    ref6_skip_l0 k s (w64 (i + 1)) else
    if 0 ≤ i then
    if i < (s.length : Int) then
    if ((s.getD i.toNat 0).toNat : Int) = 9 then
    ref6_skip_l0 k s (w64 (i + 1)) else
    if 0 ≤ i then
    if i < (s.length : Int) then
    if ((s.getD i.toNat 0).toNat : Int) = 10 then
    ref6_skip_l0 k s (w64 (i + 1)) else
    if 0 ≤ i then
    if i < (s.length : Int) then
    if ((s.getD i.toNat 0).toNat : Int) = 13 then
    ref6_skip_l0 k s (w64 (i + 1)) else
    if 0 ≤ i then
    if i < (s.length : Int) then
    if ((s.getD i.toNat 0).toNat : Int) = 35 then
    ref6_skip_l1 k s i else
    some i else none else none else none else none else none else none else none else none else none else none else
    some i
noncomputable def ref6_skip_l1 : Nat → (List UInt8) → Int → Option Int
  | 0, _, _ => none
  | k + 1, s, i => if i < (s.length : Int) then
    if 0 ≤ i then
    if i < (s.length : Int) then
    if ((s.getD i.toNat 0).toNat : Int) ≠ 10 then
    ref6_skip_l1 k s (w64 (i + 1)) else
    ref6_skip_l0 k s i else none else none else
    ref6_skip_l0 k s i
end
noncomputable def ref6_skip_f (k : Nat) (s : List UInt8) (i : Int) : Option Int := ref6_skip_l0 k s i
noncomputable def ref6_skip  (s : List UInt8) (i : Int) : Option Int := lim (fun k (x : List UInt8 × Int) => ref6_skip_f k x.1 x.2) (s, i)
noncomputable abbrev ref6_skip_T : Tab S := ⟨[], [], false, false, none, []⟩
noncomputable def ref6_skip_L (k : Nat) : Nat → List (Lab S Int)
  | 0 => [⟨[0, 1], [.val (.data .str), .val (.data (.int .i64))], fun x => ref6_skip_l0 k x.1 x.2, false⟩]
  | 1 => []
  | 2 => [⟨[0, 1], [.val (.data .str), .val (.data (.int .i64))], fun x => ref6_skip_l1 k x.1 x.2, false⟩]
  | _ + 3 => []
theorem ref6_skip_eq (k : Nat) (s : List UInt8) (i : Int) : ref6_skip_f k s i = exec S (ref6_skip_T) byt (labs S (ref6_skip_T) (ref6_skip_L k)) (ac [] Tryz.f10) (frame0 S [.val (.data .str), .val (.data (.int .i64))] (s, i)) (retK S (ref6_skip_T) Tryz.f10 [.val (.data .str), .val (.data (.int .i64))] [.val (.data (.int .i64))]) := by kernel_rfl
theorem ref6_skip_vc (k : Nat) : VC S (ref6_skip_T) byt (ref6_skip_L k) (ref6_skip_L (k + 1)) (ac [] Tryz.f10) (retK S (ref6_skip_T) Tryz.f10 [.val (.data .str), .val (.data (.int .i64))] [.val (.data (.int .i64))]) = [∀ x : List UInt8 × Int, ref6_skip_l1 (k + 1) x.1 x.2 = ref6_skip_l1 (k + 1) x.1 x.2, ∀ x : List UInt8 × Int, ref6_skip_l0 (k + 1) x.1 x.2 = ref6_skip_l0 (k + 1) x.1 x.2] := by kernel_rfl
theorem ref6_skip_sndk (k : Nat) : Snd Tryz.prog S ⟨10, [.val (.data .str), .val (.data (.int .i64))], [.val (.data (.int .i64))], fun x => ref6_skip_f k x.1 x.2⟩ :=
  fn_ok progOk (T := (ref6_skip_T)) (all_nil) (all_nil) (all_nil) mixed Tryz.func10 rfl (by kernel_rfl) (ac_code [] Tryz.f10 rfl) (L := ref6_skip_L)
    (fun n l h x => by match n, h with
        | 0, h => 
          rcases List.mem_cons.1 h with rfl | h
          · rfl
          cases h
        | 1, h => cases h
        | 2, h => 
          rcases List.mem_cons.1 h with rfl | h
          · rfl
          cases h
        | _ + 3, h => cases h) (fun k n l h => by match n, h with
        | 0, h => 
          rcases List.mem_cons.1 h with rfl | h
          · rfl
          cases h
        | 1, h => cases h
        | 2, h => 
          rcases List.mem_cons.1 h with rfl | h
          · rfl
          cases h
        | _ + 3, h => cases h)
    (fun k => All.mem (ref6_skip_vc k) ⟨fun _ => rfl, ⟨fun _ => rfl, trivial⟩⟩) (fun x r h => ⟨k, (ref6_skip_eq k x.1 x.2).symm.trans h⟩) (by kernel_rfl) (by kernel_rfl) (Nat.le_of_ble_eq_true (by kernel_rfl)) (by kernel_rfl)
theorem ref6_skip_snd : Snd Tryz.prog S ⟨10, [.val (.data .str), .val (.data (.int .i64))], [.val (.data (.int .i64))], fun x => ref6_skip x.1 x.2⟩ := Snd.lim (ref6_skip_sndk)
/-! ### 18 cotillion/cotillionref6.letter -/
noncomputable def ref6_letter  (x : Int) : Option Bool := if 97 ≤ x then
    if x ≤ 122 then
    some true else
    if 65 ≤ x then
    if x ≤ 90 then
    some true else
    some (decide (x = 95)) else
    some (decide (x = 95)) else
    if 65 ≤ x then
    if x ≤ 90 then
    some true else
    some (decide (x = 95)) else
    some (decide (x = 95))
noncomputable abbrev ref6_letter_T : Tab S := ⟨[], [], false, false, none, []⟩
noncomputable def ref6_letter_L (k : Nat) : Nat → List (Lab S Bool)
  | _ => []
theorem ref6_letter_eq (k : Nat) (x : Int) : ref6_letter x = exec S (ref6_letter_T) byt (labs S (ref6_letter_T) (ref6_letter_L k)) (ac [] Tryz.f18) (frame0 S [.val (.data (.int .u8))] x) (retK S (ref6_letter_T) Tryz.f18 [.val (.data (.int .u8))] [.val (.data .bool)]) := by kernel_rfl
theorem ref6_letter_vc (k : Nat) : VC S (ref6_letter_T) byt (ref6_letter_L k) (ref6_letter_L (k + 1)) (ac [] Tryz.f18) (retK S (ref6_letter_T) Tryz.f18 [.val (.data (.int .u8))] [.val (.data .bool)]) = [] := by kernel_rfl
theorem ref6_letter_snd : Snd Tryz.prog S ⟨18, [.val (.data (.int .u8))], [.val (.data .bool)], fun x => ref6_letter x⟩ :=
  fn_ok progOk (T := (ref6_letter_T)) (all_nil) (all_nil) (all_nil) mixed Tryz.func18 rfl (by kernel_rfl) (ac_code [] Tryz.f18 rfl) (L := ref6_letter_L)
    (fun n l h x => by cases h) (fun k n l h => by cases h)
    (fun k => All.mem (ref6_letter_vc k) trivial) (fun x r h => ⟨0, (ref6_letter_eq 0 x).symm.trans h⟩) (by kernel_rfl) (by kernel_rfl) (Nat.le_of_ble_eq_true (by kernel_rfl)) (by kernel_rfl)
/-! ### 19 cotillion/cotillionref6.digit -/
noncomputable def ref6_digit  (x : Int) : Option Bool := if 48 ≤ x then some (decide (x ≤ 57)) else some false
noncomputable abbrev ref6_digit_T : Tab S := ⟨[], [], false, false, none, []⟩
noncomputable def ref6_digit_L (k : Nat) : Nat → List (Lab S Bool)
  | _ => []
theorem ref6_digit_eq (k : Nat) (x : Int) : ref6_digit x = exec S (ref6_digit_T) byt (labs S (ref6_digit_T) (ref6_digit_L k)) (ac [] Tryz.f19) (frame0 S [.val (.data (.int .u8))] x) (retK S (ref6_digit_T) Tryz.f19 [.val (.data (.int .u8))] [.val (.data .bool)]) := by kernel_rfl
theorem ref6_digit_vc (k : Nat) : VC S (ref6_digit_T) byt (ref6_digit_L k) (ref6_digit_L (k + 1)) (ac [] Tryz.f19) (retK S (ref6_digit_T) Tryz.f19 [.val (.data (.int .u8))] [.val (.data .bool)]) = [] := by kernel_rfl
theorem ref6_digit_snd : Snd Tryz.prog S ⟨19, [.val (.data (.int .u8))], [.val (.data .bool)], fun x => ref6_digit x⟩ :=
  fn_ok progOk (T := (ref6_digit_T)) (all_nil) (all_nil) (all_nil) mixed Tryz.func19 rfl (by kernel_rfl) (ac_code [] Tryz.f19 rfl) (L := ref6_digit_L)
    (fun n l h x => by cases h) (fun k n l h => by cases h)
    (fun k => All.mem (ref6_digit_vc k) trivial) (fun x r h => ⟨0, (ref6_digit_eq 0 x).symm.trans h⟩) (by kernel_rfl) (by kernel_rfl) (Nat.le_of_ble_eq_true (by kernel_rfl)) (by kernel_rfl)
/-! ### 21 cotillion/cotillionref6.sign -/
noncomputable def ref6_sign_l1 : Nat → (List UInt8) → Int → (List UInt8) → Int → Option Int
  | 0, _, _, _, _ => none
  | k + 1, s, i, one, k_ => if k_ < (one.length : Int) then
    if 0 ≤ i then
    if i < (s.length : Int) then
    if 0 ≤ k_ then
    if k_ < (one.length : Int) then
    if ((s.getD i.toNat 0).toNat : Int) = ((one.getD k_.toNat 0).toNat : Int) then
    some 1 else
    ref6_sign_l1 k s i one (w64 (k_ + 1)) else none else none else none else none else
    some 0
noncomputable def ref6_sign_l0 : Nat → (List UInt8) → Int → (List UInt8 × List UInt8 × List UInt8 × List UInt8 × List UInt8 × List UInt8 × List UInt8) → Int → Option Int
  | 0, _, _, _, _ => none
  | k + 1, s, i, two, k_ => if k_ < 7 then
    if (w64 (i + 1)) < (s.length : Int) then
    if 0 ≤ (w64 (i + 2)) then
    if (w64 (i + 2)) ≤ (s.length : Int) then
    if 0 ≤ i then
    if i ≤ (w64 (i + 2)) then
    if 0 ≤ k_ then
    if k_ < ([two.1, two.2.1, two.2.2.1, two.2.2.2.1, two.2.2.2.2.1, two.2.2.2.2.2.1, two.2.2.2.2.2.2].length : Int) then
    if (cut s i (w64 (i + 2))) = ([two.1, two.2.1, two.2.2.1, two.2.2.2.1, two.2.2.2.2.1, two.2.2.2.2.2.1, two.2.2.2.2.2.2].getD k_.toNat []) then
    some 2 else
    ref6_sign_l0 k s i two (w64 (k_ + 1)) else none else none else none else none else none else none else
    ref6_sign_l0 k s i two (w64 (k_ + 1)) else
    ref6_sign_l1 k s i s_x5d46a 0
noncomputable def ref6_sign_f (k : Nat) (s : List UInt8) (i : Int) : Option Int := ref6_sign_l0 k s i arr_xb6ce8 0
noncomputable def ref6_sign  (s : List UInt8) (i : Int) : Option Int := lim (fun k (x : List UInt8 × Int) => ref6_sign_f k x.1 x.2) (s, i)
noncomputable abbrev ref6_sign_T : Tab S := ⟨[], [], false, false, none, []⟩
noncomputable def ref6_sign_L (k : Nat) : Nat → List (Lab S Int)
  | 0 => [⟨[0, 1, 5, 6], [.val (.data .str), .val (.data (.int .i64)), .ro (.st 2), .val (.data (.int .i64))], fun x => ref6_sign_l0 k x.1 x.2.1 x.2.2.1 x.2.2.2, false⟩]
  | 1 => []
  | 2 => [⟨[0, 1, 7, 8], [.val (.data .str), .val (.data (.int .i64)), .val (.data .str), .val (.data (.int .i64))], fun x => ref6_sign_l1 k x.1 x.2.1 x.2.2.1 x.2.2.2, false⟩]
  | _ + 3 => []
theorem ref6_sign_eq (k : Nat) (s : List UInt8) (i : Int) : ref6_sign_f k s i = exec S (ref6_sign_T) byt (labs S (ref6_sign_T) (ref6_sign_L k)) (ac [] Tryz.f21) (frame0 S [.val (.data .str), .val (.data (.int .i64))] (s, i)) (retK S (ref6_sign_T) Tryz.f21 [.val (.data .str), .val (.data (.int .i64))] [.val (.data (.int .i64))]) := by kernel_rfl
theorem ref6_sign_vc (k : Nat) : VC S (ref6_sign_T) byt (ref6_sign_L k) (ref6_sign_L (k + 1)) (ac [] Tryz.f21) (retK S (ref6_sign_T) Tryz.f21 [.val (.data .str), .val (.data (.int .i64))] [.val (.data (.int .i64))]) = [∀ x : List UInt8 × Int × (List UInt8 × List UInt8 × List UInt8 × List UInt8 × List UInt8 × List UInt8 × List UInt8) × Int, ref6_sign_l0 (k + 1) x.1 x.2.1 x.2.2.1 x.2.2.2 = ref6_sign_l0 (k + 1) x.1 x.2.1 x.2.2.1 x.2.2.2, ∀ x : List UInt8 × Int × List UInt8 × Int, ref6_sign_l1 (k + 1) x.1 x.2.1 x.2.2.1 x.2.2.2 = ref6_sign_l1 (k + 1) x.1 x.2.1 x.2.2.1 x.2.2.2] := by kernel_rfl
theorem ref6_sign_sndk (k : Nat) : Snd Tryz.prog S ⟨21, [.val (.data .str), .val (.data (.int .i64))], [.val (.data (.int .i64))], fun x => ref6_sign_f k x.1 x.2⟩ :=
  fn_ok progOk (T := (ref6_sign_T)) (all_nil) (all_nil) (all_nil) mixed Tryz.func21 rfl (by kernel_rfl) (ac_code [] Tryz.f21 rfl) (L := ref6_sign_L)
    (fun n l h x => by match n, h with
        | 0, h => 
          rcases List.mem_cons.1 h with rfl | h
          · rfl
          cases h
        | 1, h => cases h
        | 2, h => 
          rcases List.mem_cons.1 h with rfl | h
          · rfl
          cases h
        | _ + 3, h => cases h) (fun k n l h => by match n, h with
        | 0, h => 
          rcases List.mem_cons.1 h with rfl | h
          · rfl
          cases h
        | 1, h => cases h
        | 2, h => 
          rcases List.mem_cons.1 h with rfl | h
          · rfl
          cases h
        | _ + 3, h => cases h)
    (fun k => All.mem (ref6_sign_vc k) ⟨fun _ => rfl, ⟨fun _ => rfl, trivial⟩⟩) (fun x r h => ⟨k, (ref6_sign_eq k x.1 x.2).symm.trans h⟩) (by kernel_rfl) (by kernel_rfl) (Nat.le_of_ble_eq_true (by kernel_rfl)) (by kernel_rfl)
theorem ref6_sign_snd : Snd Tryz.prog S ⟨21, [.val (.data .str), .val (.data (.int .i64))], [.val (.data (.int .i64))], fun x => ref6_sign x.1 x.2⟩ := Snd.lim (ref6_sign_sndk)
/-! ### 20 cotillion/cotillionref6.value -/
noncomputable def ref6_value_l0 : Nat → (List UInt8) → Int → Int → Option (Int × Bool)
  | 0, _, _, _ => none
  | k + 1, s, n, i => if i < (s.length : Int) then
    if 0 ≤ i then
    if i < (s.length : Int) then
    if ¬ (10 : Int) = 0 then
    if (w64 ((w64 (9223372036854775807 - (w64 (wu8 (((s.getD i.toNat 0).toNat : Int) - 48))))).tdiv 10)) < n then
    some (0, false) else
    ref6_value_l0 k s (w64 ((w64 (10 * n)) + (w64 (wu8 (((s.getD i.toNat 0).toNat : Int) - 48))))) (w64 (i + 1)) else none else none else none else
    some (n, true)
noncomputable def ref6_value_f (k : Nat) (s : List UInt8) : Option (Int × Bool) := ref6_value_l0 k s 0 0
noncomputable def ref6_value  (s : List UInt8) : Option (Int × Bool) := lim (fun k (x : List UInt8) => ref6_value_f k x) s
noncomputable abbrev ref6_value_T : Tab S := ⟨[], [], false, false, none, []⟩
noncomputable def ref6_value_L (k : Nat) : Nat → List (Lab S (Int × Bool))
  | 0 => [⟨[0, 4, 5], [.val (.data .str), .val (.data (.int .i64)), .val (.data (.int .i64))], fun x => ref6_value_l0 k x.1 x.2.1 x.2.2, false⟩]
  | _ + 1 => []
theorem ref6_value_eq (k : Nat) (s : List UInt8) : ref6_value_f k s = exec S (ref6_value_T) byt (labs S (ref6_value_T) (ref6_value_L k)) (ac [] Tryz.f20) (frame0 S [.val (.data .str)] s) (retK S (ref6_value_T) Tryz.f20 [.val (.data .str)] [.val (.data (.int .i64)), .val (.data .bool)]) := by kernel_rfl
theorem ref6_value_vc (k : Nat) : VC S (ref6_value_T) byt (ref6_value_L k) (ref6_value_L (k + 1)) (ac [] Tryz.f20) (retK S (ref6_value_T) Tryz.f20 [.val (.data .str)] [.val (.data (.int .i64)), .val (.data .bool)]) = [∀ x : List UInt8 × Int × Int, ref6_value_l0 (k + 1) x.1 x.2.1 x.2.2 = ref6_value_l0 (k + 1) x.1 x.2.1 x.2.2] := by kernel_rfl
theorem ref6_value_sndk (k : Nat) : Snd Tryz.prog S ⟨20, [.val (.data .str)], [.val (.data (.int .i64)), .val (.data .bool)], fun x => ref6_value_f k x⟩ :=
  fn_ok progOk (T := (ref6_value_T)) (all_nil) (all_nil) (all_nil) mixed Tryz.func20 rfl (by kernel_rfl) (ac_code [] Tryz.f20 rfl) (L := ref6_value_L)
    (fun n l h x => by match n, h with
        | 0, h => 
          rcases List.mem_cons.1 h with rfl | h
          · rfl
          cases h
        | _ + 1, h => cases h) (fun k n l h => by match n, h with
        | 0, h => 
          rcases List.mem_cons.1 h with rfl | h
          · rfl
          cases h
        | _ + 1, h => cases h)
    (fun k => All.mem (ref6_value_vc k) ⟨fun _ => rfl, trivial⟩) (fun x r h => ⟨k, (ref6_value_eq k x).symm.trans h⟩) (by kernel_rfl) (by kernel_rfl) (Nat.le_of_ble_eq_true (by kernel_rfl)) (by kernel_rfl)
theorem ref6_value_snd : Snd Tryz.prog S ⟨20, [.val (.data .str)], [.val (.data (.int .i64)), .val (.data .bool)], fun x => ref6_value x⟩ := Snd.lim (ref6_value_sndk)
/-! ### 11 cotillion/cotillionref6.one -/
noncomputable def ref6_one_l0 : Nat → (List UInt8) → Int → Int → Int → Int → (List UInt8) → Int → Int → Int → Int → Int → (List UInt8) → Int → Option (api_Token × Int)
  | 0, _, _, _, _, _, _, _, _, _, _, _, _, _ => none
  | k + 1, s, i, x4_Kind, x4_At, x4_End, x4_Text, x4_N, j, t_Kind, t_At, t_End, t_Text, t_N => if j < (s.length : Int) then
    if 0 ≤ j then
    if j < (s.length : Int) then
    (ref6_letter ((s.getD j.toNat 0).toNat : Int)).bind fun r4 =>
    bif r4 then
    ref6_one_l0 k s i x4_Kind x4_At x4_End x4_Text x4_N (w64 (j + 1)) t_Kind t_At t_End t_Text t_N else
    if 0 ≤ j then
    if j < (s.length : Int) then
    (ref6_digit ((s.getD j.toNat 0).toNat : Int)).bind fun r5 =>
    bif r5 then
    ref6_one_l0 k s i x4_Kind x4_At x4_End x4_Text x4_N (w64 (j + 1)) t_Kind t_At t_End t_Text t_N else
    if 24 < (w64 (j - i)) then
    some (api_Token.mk 0 0 0 [] 0, 13) else
    if 0 ≤ j then
    if j ≤ (s.length : Int) then
    if 0 ≤ i then
    if i ≤ j then
    some (api_Token.mk 1 t_At j (cut s i j) t_N, 0) else none else none else none else none else none else none else none else none else
    if 24 < (w64 (j - i)) then
    some (api_Token.mk 0 0 0 [] 0, 13) else
    if 0 ≤ j then
    if j ≤ (s.length : Int) then
    if 0 ≤ i then
    if i ≤ j then
    some (api_Token.mk 1 t_At j (cut s i j) t_N, 0) else none else none else none else none
noncomputable def ref6_one_l1 : Nat → (List UInt8) → Int → Int → Int → Int → (List UInt8) → Int → Int → Int → Int → Int → (List UInt8) → Int → Option (api_Token × Int)
  | 0, _, _, _, _, _, _, _, _, _, _, _, _, _ => none
  | k + 1, s, i, x4_Kind, x4_At, x4_End, x4_Text, x4_N, j, t_Kind, t_At, t_End, t_Text, t_N => if j < (s.length : Int) then
    if 0 ≤ j then
    if j < (s.length : Int) then
    (ref6_digit ((s.getD j.toNat 0).toNat : Int)).bind fun r6 =>
    bif r6 then
    ref6_one_l1 k s i x4_Kind x4_At x4_End x4_Text x4_N (w64 (j + 1)) t_Kind t_At t_End t_Text t_N else
    if 1 < (w64 (j - i)) then
    if 0 ≤ i then
    if i < (s.length : Int) then
    if ((s.getD i.toNat 0).toNat : Int) = 48 then
    some (api_Token.mk 0 0 0 [] 0, 11) else
    if 0 ≤ j then
    if j ≤ (s.length : Int) then
    if 0 ≤ i then
    if i ≤ j then
    (ref6_value (cut s i j)).bind fun r7 =>
    bif !r7.2 then
    some (api_Token.mk 0 0 0 [] 0, 16) else
    if 0 ≤ j then
    if j ≤ (s.length : Int) then
    if 0 ≤ i then
    if i ≤ j then
    some (api_Token.mk 2 t_At j (cut s i j) r7.1, 0) else none else none else none else none else none else none else none else none else none else none else
    if 0 ≤ j then
    if j ≤ (s.length : Int) then
    if 0 ≤ i then
    if i ≤ j then
    (ref6_value (cut s i j)).bind fun r8 =>
    bif !r8.2 then
    some (api_Token.mk 0 0 0 [] 0, 16) else
    if 0 ≤ j then
    if j ≤ (s.length : Int) then
    if 0 ≤ i then
    if i ≤ j then
    some (api_Token.mk 2 t_At j (cut s i j) r8.1, 0) else none else none else none else none else none else none else none else none else none else none else
    if 1 < (w64 (j - i)) then
    if 0 ≤ i then
    if i < (s.length : Int) then
    if ((s.getD i.toNat 0).toNat : Int) = 48 then
    some (api_Token.mk 0 0 0 [] 0, 11) else
    if 0 ≤ j then
    if j ≤ (s.length : Int) then
    if 0 ≤ i then
    if i ≤ j then
    (ref6_value (cut s i j)).bind fun r9 =>
    bif !r9.2 then
    some (api_Token.mk 0 0 0 [] 0, 16) else
    if 0 ≤ j then
    if j ≤ (s.length : Int) then
    if 0 ≤ i then
    if i ≤ j then
    some (api_Token.mk 2 t_At j (cut s i j) r9.1, 0) else none else none else none else none else none else none else none else none else none else none else
    if 0 ≤ j then
    if j ≤ (s.length : Int) then
    if 0 ≤ i then
    if i ≤ j then
    (ref6_value (cut s i j)).bind fun r10 =>
    bif !r10.2 then
    some (api_Token.mk 0 0 0 [] 0, 16) else
    if 0 ≤ j then
    if j ≤ (s.length : Int) then
    if 0 ≤ i then
    if i ≤ j then
    some (api_Token.mk 2 t_At j (cut s i j) r10.1, 0) else none else none else none else none else none else none else none else none
noncomputable def ref6_one_f (k : Nat) (s : List UInt8) (i : Int) : Option (api_Token × Int) := if 0 ≤ i then
    if i < (s.length : Int) then
    (ref6_letter ((s.getD i.toNat 0).toNat : Int)).bind fun r1 =>
    bif r1 then
    ref6_one_l0 k s i 0 0 0 [] 0 i 0 i 0 [] 0 else
    if 0 ≤ i then
    if i < (s.length : Int) then
    (ref6_digit ((s.getD i.toNat 0).toNat : Int)).bind fun r2 =>
    bif r2 then
    ref6_one_l1 k s i 0 0 0 [] 0 i 0 i 0 [] 0 else
    (ref6_sign s i).bind fun r3 =>
    if r3 = 0 then
    some (api_Token.mk 0 0 0 [] 0, 10) else
    if 0 ≤ (w64 (i + r3)) then
    if (w64 (i + r3)) ≤ (s.length : Int) then
    if 0 ≤ i then
    if i ≤ (w64 (i + r3)) then
    some (api_Token.mk 3 i (w64 (i + r3)) (cut s i (w64 (i + r3))) 0, 0) else none else none else none else none else none else none else none else none
noncomputable def ref6_one  (s : List UInt8) (i : Int) : Option (api_Token × Int) := lim (fun k (x : List UInt8 × Int) => ref6_one_f k x.1 x.2) (s, i)
noncomputable abbrev ref6_one_T : Tab S := ⟨[⟨18, [.val (.data (.int .u8))], [.val (.data .bool)], fun x => ref6_letter x⟩, ⟨19, [.val (.data (.int .u8))], [.val (.data .bool)], fun x => ref6_digit x⟩, ⟨21, [.val (.data .str), .val (.data (.int .i64))], [.val (.data (.int .i64))], fun x => ref6_sign x.1 x.2⟩, ⟨20, [.val (.data .str)], [.val (.data (.int .i64)), .val (.data .bool)], fun x => ref6_value x⟩], [], false, false, none, []⟩
noncomputable def ref6_one_L (k : Nat) : Nat → List (Lab S (api_Token × Int))
  | 0 => [⟨[0, 1, 4, 6, 7], [.val (.data .str), .val (.data (.int .i64)), .obj [.data (.int .i64), .data (.int .i64), .data (.int .i64), .data .str, .data (.int .i64)], .val (.data (.int .i64)), .obj [.data (.int .i64), .data (.int .i64), .data (.int .i64), .data .str, .data (.int .i64)]], fun x => ref6_one_l0 k x.1 x.2.1 x.2.2.1.1 x.2.2.1.2.1 x.2.2.1.2.2.1 x.2.2.1.2.2.2.1 x.2.2.1.2.2.2.2 x.2.2.2.1 x.2.2.2.2.1 x.2.2.2.2.2.1 x.2.2.2.2.2.2.1 x.2.2.2.2.2.2.2.1 x.2.2.2.2.2.2.2.2, false⟩]
  | 1 => []
  | 2 => [⟨[0, 1, 4, 6, 7], [.val (.data .str), .val (.data (.int .i64)), .obj [.data (.int .i64), .data (.int .i64), .data (.int .i64), .data .str, .data (.int .i64)], .val (.data (.int .i64)), .obj [.data (.int .i64), .data (.int .i64), .data (.int .i64), .data .str, .data (.int .i64)]], fun x => ref6_one_l1 k x.1 x.2.1 x.2.2.1.1 x.2.2.1.2.1 x.2.2.1.2.2.1 x.2.2.1.2.2.2.1 x.2.2.1.2.2.2.2 x.2.2.2.1 x.2.2.2.2.1 x.2.2.2.2.2.1 x.2.2.2.2.2.2.1 x.2.2.2.2.2.2.2.1 x.2.2.2.2.2.2.2.2, false⟩]
  | _ + 3 => []
theorem ref6_one_eq (k : Nat) (s : List UInt8) (i : Int) : ref6_one_f k s i = exec S (ref6_one_T) byt (labs S (ref6_one_T) (ref6_one_L k)) (ac [] Tryz.f11) (frame0 S [.val (.data .str), .val (.data (.int .i64))] (s, i)) (retK S (ref6_one_T) Tryz.f11 [.val (.data .str), .val (.data (.int .i64))] [.val (.data (.st 0)), .val (.data (.int .i64))]) := by kernel_rfl
theorem ref6_one_vc (k : Nat) : VC S (ref6_one_T) byt (ref6_one_L k) (ref6_one_L (k + 1)) (ac [] Tryz.f11) (retK S (ref6_one_T) Tryz.f11 [.val (.data .str), .val (.data (.int .i64))] [.val (.data (.st 0)), .val (.data (.int .i64))]) = [∀ x : List UInt8 × Int × (Int × Int × Int × List UInt8 × Int) × Int × (Int × Int × Int × List UInt8 × Int), ref6_one_l0 (k + 1) x.1 x.2.1 x.2.2.1.1 x.2.2.1.2.1 x.2.2.1.2.2.1 x.2.2.1.2.2.2.1 x.2.2.1.2.2.2.2 x.2.2.2.1 x.2.2.2.2.1 x.2.2.2.2.2.1 x.2.2.2.2.2.2.1 x.2.2.2.2.2.2.2.1 x.2.2.2.2.2.2.2.2 = ref6_one_l0 (k + 1) x.1 x.2.1 x.2.2.1.1 x.2.2.1.2.1 x.2.2.1.2.2.1 x.2.2.1.2.2.2.1 x.2.2.1.2.2.2.2 x.2.2.2.1 x.2.2.2.2.1 x.2.2.2.2.2.1 x.2.2.2.2.2.2.1 x.2.2.2.2.2.2.2.1 x.2.2.2.2.2.2.2.2, ∀ x : List UInt8 × Int × (Int × Int × Int × List UInt8 × Int) × Int × (Int × Int × Int × List UInt8 × Int), ref6_one_l1 (k + 1) x.1 x.2.1 x.2.2.1.1 x.2.2.1.2.1 x.2.2.1.2.2.1 x.2.2.1.2.2.2.1 x.2.2.1.2.2.2.2 x.2.2.2.1 x.2.2.2.2.1 x.2.2.2.2.2.1 x.2.2.2.2.2.2.1 x.2.2.2.2.2.2.2.1 x.2.2.2.2.2.2.2.2 = ref6_one_l1 (k + 1) x.1 x.2.1 x.2.2.1.1 x.2.2.1.2.1 x.2.2.1.2.2.1 x.2.2.1.2.2.2.1 x.2.2.1.2.2.2.2 x.2.2.2.1 x.2.2.2.2.1 x.2.2.2.2.2.1 x.2.2.2.2.2.2.1 x.2.2.2.2.2.2.2.1 x.2.2.2.2.2.2.2.2] := by kernel_rfl
theorem ref6_one_sndk (k : Nat) : Snd Tryz.prog S ⟨11, [.val (.data .str), .val (.data (.int .i64))], [.val (.data (.st 0)), .val (.data (.int .i64))], fun x => ref6_one_f k x.1 x.2⟩ :=
  fn_ok progOk (T := (ref6_one_T)) (all_cons ref6_letter_snd (all_cons ref6_digit_snd (all_cons ref6_sign_snd (all_cons ref6_value_snd (all_nil))))) (all_nil) (all_nil) mixed Tryz.func11 rfl (by kernel_rfl) (ac_code [] Tryz.f11 rfl) (L := ref6_one_L)
    (fun n l h x => by match n, h with
        | 0, h => 
          rcases List.mem_cons.1 h with rfl | h
          · rfl
          cases h
        | 1, h => cases h
        | 2, h => 
          rcases List.mem_cons.1 h with rfl | h
          · rfl
          cases h
        | _ + 3, h => cases h) (fun k n l h => by match n, h with
        | 0, h => 
          rcases List.mem_cons.1 h with rfl | h
          · rfl
          cases h
        | 1, h => cases h
        | 2, h => 
          rcases List.mem_cons.1 h with rfl | h
          · rfl
          cases h
        | _ + 3, h => cases h)
    (fun k => All.mem (ref6_one_vc k) ⟨fun _ => rfl, ⟨fun _ => rfl, trivial⟩⟩) (fun x r h => ⟨k, (ref6_one_eq k x.1 x.2).symm.trans h⟩) (by kernel_rfl) (by kernel_rfl) (Nat.le_of_ble_eq_true (by kernel_rfl)) (by kernel_rfl)
theorem ref6_one_snd : Snd Tryz.prog S ⟨11, [.val (.data .str), .val (.data (.int .i64))], [.val (.data (.st 0)), .val (.data (.int .i64))], fun x => ref6_one x.1 x.2⟩ := Snd.lim (ref6_one_sndk)
/-! ### 4 cotillion/cotillionref6.All -/
noncomputable def ref6_All_l0 : Nat → (List UInt8) → Int → Int → (List api_Token) → Int → Option (List api_Token × api_Fault)
  | 0, _, _, _, _, _ => none
  | k + 1, s, x3_Code, x3_At, out, i => if i < (s.length : Int) then
    (ref6_one s i).bind fun r2 =>
    if r2.2 ≠ 0 then
    some ([], api_Fault.mk r2.2 i) else
    if (out.length + [r2.1].length) * 48 ≤ 140737488355328 then
    (ref6_skip s r2.1.End).bind fun r3 =>
    ref6_All_l0 k s x3_Code x3_At (out ++ [r2.1]) r3 else none else
    if (out.length + [api_Token.mk 4 (s.length : Int) (s.length : Int) [] 0].length) * 48 ≤ 140737488355328 then
    some (out ++ [api_Token.mk 4 (s.length : Int) (s.length : Int) [] 0], api_Fault.mk 0 0) else none
noncomputable def ref6_All_f (k : Nat) (s : List UInt8) : Option (List api_Token × api_Fault) := if 16384 < (s.length : Int) then
    some ([], api_Fault.mk 13 16384) else
    (ref6_skip s 0).bind fun r1 =>
    ref6_All_l0 k s 0 0 [] r1
noncomputable def ref6_All  (s : List UInt8) : Option (List api_Token × api_Fault) := lim (fun k (x : List UInt8) => ref6_All_f k x) s
noncomputable abbrev ref6_All_T : Tab S := ⟨[⟨10, [.val (.data .str), .val (.data (.int .i64))], [.val (.data (.int .i64))], fun x => ref6_skip x.1 x.2⟩, ⟨11, [.val (.data .str), .val (.data (.int .i64))], [.val (.data (.st 0)), .val (.data (.int .i64))], fun x => ref6_one x.1 x.2⟩], [], false, false, none, []⟩
noncomputable def ref6_All_L (k : Nat) : Nat → List (Lab S (List api_Token × api_Fault))
  | 0 => [⟨[0, 3, 4, 5], [.val (.data .str), .obj [.data (.int .i64), .data (.int .i64)], .val (.town (.st 0)), .val (.data (.int .i64))], fun x => ref6_All_l0 k x.1 x.2.1.1 x.2.1.2 x.2.2.1 x.2.2.2, false⟩]
  | _ + 1 => []
theorem ref6_All_eq (k : Nat) (s : List UInt8) : ref6_All_f k s = exec S (ref6_All_T) byt (labs S (ref6_All_T) (ref6_All_L k)) (ac [] Tryz.f4) (frame0 S [.val (.data .str)] s) (retK S (ref6_All_T) Tryz.f4 [.val (.data .str)] [.val (.town (.st 0)), .val (.data (.st 1))]) := by kernel_rfl
theorem ref6_All_vc (k : Nat) : VC S (ref6_All_T) byt (ref6_All_L k) (ref6_All_L (k + 1)) (ac [] Tryz.f4) (retK S (ref6_All_T) Tryz.f4 [.val (.data .str)] [.val (.town (.st 0)), .val (.data (.st 1))]) = [∀ x : List UInt8 × (Int × Int) × List api_Token × Int, ref6_All_l0 (k + 1) x.1 x.2.1.1 x.2.1.2 x.2.2.1 x.2.2.2 = ref6_All_l0 (k + 1) x.1 x.2.1.1 x.2.1.2 x.2.2.1 x.2.2.2] := by kernel_rfl
theorem ref6_All_sndk (k : Nat) : Snd Tryz.prog S ⟨4, [.val (.data .str)], [.val (.town (.st 0)), .val (.data (.st 1))], fun x => ref6_All_f k x⟩ :=
  fn_ok progOk (T := (ref6_All_T)) (all_cons ref6_skip_snd (all_cons ref6_one_snd (all_nil))) (all_nil) (all_nil) mixed Tryz.func4 rfl (by kernel_rfl) (ac_code [] Tryz.f4 rfl) (L := ref6_All_L)
    (fun n l h x => by match n, h with
        | 0, h => 
          rcases List.mem_cons.1 h with rfl | h
          · rfl
          cases h
        | _ + 1, h => cases h) (fun k n l h => by match n, h with
        | 0, h => 
          rcases List.mem_cons.1 h with rfl | h
          · rfl
          cases h
        | _ + 1, h => cases h)
    (fun k => All.mem (ref6_All_vc k) ⟨fun _ => rfl, trivial⟩) (fun x r h => ⟨k, (ref6_All_eq k x).symm.trans h⟩) (by kernel_rfl) (by kernel_rfl) (Nat.le_of_ble_eq_true (by kernel_rfl)) (by kernel_rfl)
theorem ref6_All_snd : Snd Tryz.prog S ⟨4, [.val (.data .str)], [.val (.town (.st 0)), .val (.data (.st 1))], fun x => ref6_All x⟩ := Snd.lim (ref6_All_sndk)
/-! ### 31 cotillion/lex.skip -/
mutual
noncomputable def lex_skip_l0 : Nat → (List UInt8) → Int → Option Int
  | 0, _, _ => none
  | k + 1, text, v_at => if v_at < (text.length : Int) then
    if 0 ≤ v_at then
    if v_at < (text.length : Int) then
    (p_IndexByte s_sp_tab_nl_cr ((text.getD v_at.toNat 0).toNat : Int)).bind fun r1 =>
    if 0 ≤ r1 then
    lex_skip_l0 k text (w64 (v_at + 1)) else
    if 0 ≤ v_at then
    if v_at < (text.length : Int) then
    if ((text.getD v_at.toNat 0).toNat : Int) = 35 then
    lex_skip_l1 k text v_at else
    some v_at else none else none else none else none else
    some v_at
noncomputable def lex_skip_l1 : Nat → (List UInt8) → Int → Option Int
  | 0, _, _ => none
  | k + 1, text, v_at => if v_at < (text.length : Int) then
    if 0 ≤ v_at then
    if v_at < (text.length : Int) then
    if ((text.getD v_at.toNat 0).toNat : Int) ≠ 10 then
    lex_skip_l1 k text (w64 (v_at + 1)) else
    lex_skip_l0 k text v_at else none else none else
    lex_skip_l0 k text v_at
end
noncomputable def lex_skip_f (k : Nat) (text : List UInt8) (v_at : Int) : Option Int := lex_skip_l0 k text v_at
noncomputable def lex_skip  (text : List UInt8) (v_at : Int) : Option Int := lim (fun k (x : List UInt8 × Int) => lex_skip_f k x.1 x.2) (text, v_at)
noncomputable abbrev lex_skip_T : Tab S := ⟨[⟨47, [.val (.data .str), .val (.data (.int .u8))], [.val (.data (.int .i64))], fun x => p_IndexByte x.1 x.2⟩], [], false, false, none, []⟩
noncomputable def lex_skip_L (k : Nat) : Nat → List (Lab S Int)
  | 0 => [⟨[0, 1], [.val (.data .str), .val (.data (.int .i64))], fun x => lex_skip_l0 k x.1 x.2, false⟩]
  | 1 => []
  | 2 => [⟨[0, 1], [.val (.data .str), .val (.data (.int .i64))], fun x => lex_skip_l1 k x.1 x.2, false⟩]
  | _ + 3 => []
theorem lex_skip_eq (k : Nat) (text : List UInt8) (v_at : Int) : lex_skip_f k text v_at = exec S (lex_skip_T) byt (labs S (lex_skip_T) (lex_skip_L k)) (ac [] Tryz.f31) (frame0 S [.val (.data .str), .val (.data (.int .i64))] (text, v_at)) (retK S (lex_skip_T) Tryz.f31 [.val (.data .str), .val (.data (.int .i64))] [.val (.data (.int .i64))]) := by kernel_rfl
theorem lex_skip_vc (k : Nat) : VC S (lex_skip_T) byt (lex_skip_L k) (lex_skip_L (k + 1)) (ac [] Tryz.f31) (retK S (lex_skip_T) Tryz.f31 [.val (.data .str), .val (.data (.int .i64))] [.val (.data (.int .i64))]) = [∀ x : List UInt8 × Int, lex_skip_l1 (k + 1) x.1 x.2 = lex_skip_l1 (k + 1) x.1 x.2, ∀ x : List UInt8 × Int, lex_skip_l0 (k + 1) x.1 x.2 = lex_skip_l0 (k + 1) x.1 x.2] := by kernel_rfl
theorem lex_skip_sndk (k : Nat) : Snd Tryz.prog S ⟨31, [.val (.data .str), .val (.data (.int .i64))], [.val (.data (.int .i64))], fun x => lex_skip_f k x.1 x.2⟩ :=
  fn_ok progOk (T := (lex_skip_T)) (all_cons p_IndexByte_snd47 (all_nil)) (all_nil) (all_nil) mixed Tryz.func31 rfl (by kernel_rfl) (ac_code [] Tryz.f31 rfl) (L := lex_skip_L)
    (fun n l h x => by match n, h with
        | 0, h => 
          rcases List.mem_cons.1 h with rfl | h
          · rfl
          cases h
        | 1, h => cases h
        | 2, h => 
          rcases List.mem_cons.1 h with rfl | h
          · rfl
          cases h
        | _ + 3, h => cases h) (fun k n l h => by match n, h with
        | 0, h => 
          rcases List.mem_cons.1 h with rfl | h
          · rfl
          cases h
        | 1, h => cases h
        | 2, h => 
          rcases List.mem_cons.1 h with rfl | h
          · rfl
          cases h
        | _ + 3, h => cases h)
    (fun k => All.mem (lex_skip_vc k) ⟨fun _ => rfl, ⟨fun _ => rfl, trivial⟩⟩) (fun x r h => ⟨k, (lex_skip_eq k x.1 x.2).symm.trans h⟩) (by kernel_rfl) (by kernel_rfl) (Nat.le_of_ble_eq_true (by kernel_rfl)) (by kernel_rfl)
theorem lex_skip_snd : Snd Tryz.prog S ⟨31, [.val (.data .str), .val (.data (.int .i64))], [.val (.data (.int .i64))], fun x => lex_skip x.1 x.2⟩ := Snd.lim (lex_skip_sndk)
/-! ### 48 cotillion/lex.kind -/
noncomputable def lex_kind  (c : Int) : Option (Bool × Bool) := if 48 ≤ c then
    if c ≤ 57 then
    some (true, true) else
    if 97 ≤ c then
    if c ≤ 122 then
    if c ≤ 122 then
    some (true, false) else
    some (false, false) else
    if 65 ≤ c then
    if c ≤ 90 then
    if c ≤ 90 then
    some (true, false) else
    some (false, false) else
    if c = 95 then
    some (true, false) else
    some (false, false) else
    if c = 95 then
    some (true, false) else
    some (false, false) else
    if 65 ≤ c then
    if c ≤ 90 then
    if c ≤ 90 then
    some (true, false) else
    some (false, false) else
    if c = 95 then
    some (true, false) else
    some (false, false) else
    if c = 95 then
    some (true, false) else
    some (false, false) else
    if 97 ≤ c then
    if c ≤ 122 then
    if c ≤ 122 then
    some (true, false) else
    some (false, false) else
    if 65 ≤ c then
    if c ≤ 90 then
    if c ≤ 90 then
    some (true, false) else
    some (false, false) else
    if c = 95 then
    some (true, false) else
    some (false, false) else
    if c = 95 then
    some (true, false) else
    some (false, false) else
    if 65 ≤ c then
    if c ≤ 90 then
    if c ≤ 90 then
    some (true, false) else
    some (false, false) else
    if c = 95 then
    some (true, false) else
    some (false, false) else
    if c = 95 then
    some (true, false) else
    some (false, false)
noncomputable abbrev lex_kind_T : Tab S := ⟨[], [], false, false, none, []⟩
noncomputable def lex_kind_L (k : Nat) : Nat → List (Lab S (Bool × Bool))
  | _ => []
theorem lex_kind_eq (k : Nat) (c : Int) : lex_kind c = exec S (lex_kind_T) byt (labs S (lex_kind_T) (lex_kind_L k)) (ac [] Tryz.f48) (frame0 S [.val (.data (.int .u8))] c) (retK S (lex_kind_T) Tryz.f48 [.val (.data (.int .u8))] [.val (.data .bool), .val (.data .bool)]) := by kernel_rfl
theorem lex_kind_vc (k : Nat) : VC S (lex_kind_T) byt (lex_kind_L k) (lex_kind_L (k + 1)) (ac [] Tryz.f48) (retK S (lex_kind_T) Tryz.f48 [.val (.data (.int .u8))] [.val (.data .bool), .val (.data .bool)]) = [] := by kernel_rfl
theorem lex_kind_snd : Snd Tryz.prog S ⟨48, [.val (.data (.int .u8))], [.val (.data .bool), .val (.data .bool)], fun x => lex_kind x⟩ :=
  fn_ok progOk (T := (lex_kind_T)) (all_nil) (all_nil) (all_nil) mixed Tryz.func48 rfl (by kernel_rfl) (ac_code [] Tryz.f48 rfl) (L := lex_kind_L)
    (fun n l h x => by cases h) (fun k n l h => by cases h)
    (fun k => All.mem (lex_kind_vc k) trivial) (fun x r h => ⟨0, (lex_kind_eq 0 x).symm.trans h⟩) (by kernel_rfl) (by kernel_rfl) (Nat.le_of_ble_eq_true (by kernel_rfl)) (by kernel_rfl)
/-! ### 49 cotillion/lex.end -/
noncomputable def lex_end_l0 : Nat → (List UInt8) → Int → Bool → Option Int
  | 0, _, _, _ => none
  | k + 1, text, v_at, number => if v_at < (text.length : Int) then
    if 0 ≤ v_at then
    if v_at < (text.length : Int) then
    (lex_kind ((text.getD v_at.toNat 0).toNat : Int)).bind fun r2 =>
    bif !r2.1 then
    some v_at else
    bif number then
    bif !r2.2 then
    some v_at else
    lex_end_l0 k text (w64 (v_at + 1)) number else
    lex_end_l0 k text (w64 (v_at + 1)) number else none else none else
    some v_at
noncomputable def lex_end_f (k : Nat) (text : List UInt8) (v_at : Int) : Option Int := if 0 ≤ v_at then
    if v_at < (text.length : Int) then
    (lex_kind ((text.getD v_at.toNat 0).toNat : Int)).bind fun r1 =>
    lex_end_l0 k text v_at r1.2 else none else none
noncomputable def lex_end  (text : List UInt8) (v_at : Int) : Option Int := lim (fun k (x : List UInt8 × Int) => lex_end_f k x.1 x.2) (text, v_at)
noncomputable abbrev lex_end_T : Tab S := ⟨[⟨48, [.val (.data (.int .u8))], [.val (.data .bool), .val (.data .bool)], fun x => lex_kind x⟩], [], false, false, none, []⟩
noncomputable def lex_end_L (k : Nat) : Nat → List (Lab S Int)
  | 0 => [⟨[0, 1, 6], [.val (.data .str), .val (.data (.int .i64)), .val (.data .bool)], fun x => lex_end_l0 k x.1 x.2.1 x.2.2, false⟩]
  | _ + 1 => []
theorem lex_end_eq (k : Nat) (text : List UInt8) (v_at : Int) : lex_end_f k text v_at = exec S (lex_end_T) byt (labs S (lex_end_T) (lex_end_L k)) (ac [] Tryz.f49) (frame0 S [.val (.data .str), .val (.data (.int .i64))] (text, v_at)) (retK S (lex_end_T) Tryz.f49 [.val (.data .str), .val (.data (.int .i64))] [.val (.data (.int .i64))]) := by kernel_rfl
theorem lex_end_vc (k : Nat) : VC S (lex_end_T) byt (lex_end_L k) (lex_end_L (k + 1)) (ac [] Tryz.f49) (retK S (lex_end_T) Tryz.f49 [.val (.data .str), .val (.data (.int .i64))] [.val (.data (.int .i64))]) = [∀ x : List UInt8 × Int × Bool, lex_end_l0 (k + 1) x.1 x.2.1 x.2.2 = lex_end_l0 (k + 1) x.1 x.2.1 x.2.2] := by kernel_rfl
theorem lex_end_sndk (k : Nat) : Snd Tryz.prog S ⟨49, [.val (.data .str), .val (.data (.int .i64))], [.val (.data (.int .i64))], fun x => lex_end_f k x.1 x.2⟩ :=
  fn_ok progOk (T := (lex_end_T)) (all_cons lex_kind_snd (all_nil)) (all_nil) (all_nil) mixed Tryz.func49 rfl (by kernel_rfl) (ac_code [] Tryz.f49 rfl) (L := lex_end_L)
    (fun n l h x => by match n, h with
        | 0, h => 
          rcases List.mem_cons.1 h with rfl | h
          · rfl
          cases h
        | _ + 1, h => cases h) (fun k n l h => by match n, h with
        | 0, h => 
          rcases List.mem_cons.1 h with rfl | h
          · rfl
          cases h
        | _ + 1, h => cases h)
    (fun k => All.mem (lex_end_vc k) ⟨fun _ => rfl, trivial⟩) (fun x r h => ⟨k, (lex_end_eq k x.1 x.2).symm.trans h⟩) (by kernel_rfl) (by kernel_rfl) (Nat.le_of_ble_eq_true (by kernel_rfl)) (by kernel_rfl)
theorem lex_end_snd : Snd Tryz.prog S ⟨49, [.val (.data .str), .val (.data (.int .i64))], [.val (.data (.int .i64))], fun x => lex_end x.1 x.2⟩ := Snd.lim (lex_end_sndk)
/-! ### 50 cotillion/lex.number -/
noncomputable def lex_number  (s : List UInt8) : Option (Int × Int) := if 1 < (s.length : Int) then
    if (0 : Int) ≤ 0 then
    if 0 < (s.length : Int) then
    if ((s.getD (0 : Int).toNat 0).toNat : Int) = 48 then
    some (0, 11) else
    (p_ParseInt s 10 64).bind fun r1 =>
    bif !r1.2 then
    some (0, 16) else
    some (r1.1, 0) else none else none else
    (p_ParseInt s 10 64).bind fun r2 =>
    bif !r2.2 then
    some (0, 16) else
    some (r2.1, 0)
noncomputable abbrev lex_number_T : Tab S := ⟨[⟨66, [.val (.data .str), .val (.data (.int .i64)), .val (.data (.int .i64))], [.val (.data (.int .i64)), .err], fun x => p_ParseInt x.1 x.2.1 x.2.2⟩], [], false, false, none, []⟩
noncomputable def lex_number_L (k : Nat) : Nat → List (Lab S (Int × Int))
  | _ => []
theorem lex_number_eq (k : Nat) (s : List UInt8) : lex_number s = exec S (lex_number_T) byt (labs S (lex_number_T) (lex_number_L k)) (ac [] Tryz.f50) (frame0 S [.val (.data .str)] s) (retK S (lex_number_T) Tryz.f50 [.val (.data .str)] [.val (.data (.int .i64)), .val (.data (.int .i64))]) := by kernel_rfl
theorem lex_number_vc (k : Nat) : VC S (lex_number_T) byt (lex_number_L k) (lex_number_L (k + 1)) (ac [] Tryz.f50) (retK S (lex_number_T) Tryz.f50 [.val (.data .str)] [.val (.data (.int .i64)), .val (.data (.int .i64))]) = [] := by kernel_rfl
theorem lex_number_snd : Snd Tryz.prog S ⟨50, [.val (.data .str)], [.val (.data (.int .i64)), .val (.data (.int .i64))], fun x => lex_number x⟩ :=
  fn_ok progOk (T := (lex_number_T)) (all_cons p_ParseInt_snd66 (all_nil)) (all_nil) (all_nil) mixed Tryz.func50 rfl (by kernel_rfl) (ac_code [] Tryz.f50 rfl) (L := lex_number_L)
    (fun n l h x => by cases h) (fun k n l h => by cases h)
    (fun k => All.mem (lex_number_vc k) trivial) (fun x r h => ⟨0, (lex_number_eq 0 x).symm.trans h⟩) (by kernel_rfl) (by kernel_rfl) (Nat.le_of_ble_eq_true (by kernel_rfl)) (by kernel_rfl)
/-! ### 51 cotillion/lex.sign -/
noncomputable def lex_sign  (text : List UInt8) (v_at : Int) : Option Int := if (w64 (v_at + 1)) < (text.length : Int) then
    if 0 ≤ (w64 (v_at + 1)) then
    if (w64 (v_at + 1)) < (text.length : Int) then
    if ((text.getD (w64 (v_at + 1)).toNat 0).toNat : Int) ≠ 32 then
    if 0 ≤ (w64 (v_at + 2)) then
    if (w64 (v_at + 2)) ≤ (text.length : Int) then
    if 0 ≤ v_at then
    if v_at ≤ (w64 (v_at + 2)) then
    (p_Contains s_xe6575 (cut text v_at (w64 (v_at + 2)))).bind fun r1 =>
    bif r1 then
    some (w64 (v_at + 2)) else
    if 0 ≤ v_at then
    if v_at < (text.length : Int) then
    (p_IndexByte s_x5d46a ((text.getD v_at.toNat 0).toNat : Int)).bind fun r2 =>
    if 0 ≤ r2 then
    some (w64 (v_at + 1)) else
    some v_at else none else none else none else none else none else none else
    if 0 ≤ v_at then
    if v_at < (text.length : Int) then
    (p_IndexByte s_x5d46a ((text.getD v_at.toNat 0).toNat : Int)).bind fun r3 =>
    if 0 ≤ r3 then
    some (w64 (v_at + 1)) else
    some v_at else none else none else none else none else
    if 0 ≤ v_at then
    if v_at < (text.length : Int) then
    (p_IndexByte s_x5d46a ((text.getD v_at.toNat 0).toNat : Int)).bind fun r4 =>
    if 0 ≤ r4 then
    some (w64 (v_at + 1)) else
    some v_at else none else none
noncomputable abbrev lex_sign_T : Tab S := ⟨[⟨67, [.val (.data .str), .val (.data .str)], [.val (.data .bool)], fun x => p_Contains x.1 x.2⟩, ⟨47, [.val (.data .str), .val (.data (.int .u8))], [.val (.data (.int .i64))], fun x => p_IndexByte x.1 x.2⟩], [], false, false, none, []⟩
noncomputable def lex_sign_L (k : Nat) : Nat → List (Lab S Int)
  | _ => []
theorem lex_sign_eq (k : Nat) (text : List UInt8) (v_at : Int) : lex_sign text v_at = exec S (lex_sign_T) byt (labs S (lex_sign_T) (lex_sign_L k)) (ac [] Tryz.f51) (frame0 S [.val (.data .str), .val (.data (.int .i64))] (text, v_at)) (retK S (lex_sign_T) Tryz.f51 [.val (.data .str), .val (.data (.int .i64))] [.val (.data (.int .i64))]) := by kernel_rfl
theorem lex_sign_vc (k : Nat) : VC S (lex_sign_T) byt (lex_sign_L k) (lex_sign_L (k + 1)) (ac [] Tryz.f51) (retK S (lex_sign_T) Tryz.f51 [.val (.data .str), .val (.data (.int .i64))] [.val (.data (.int .i64))]) = [] := by kernel_rfl
theorem lex_sign_snd : Snd Tryz.prog S ⟨51, [.val (.data .str), .val (.data (.int .i64))], [.val (.data (.int .i64))], fun x => lex_sign x.1 x.2⟩ :=
  fn_ok progOk (T := (lex_sign_T)) (all_cons p_Contains_snd67 (all_cons p_IndexByte_snd47 (all_nil))) (all_nil) (all_nil) mixed Tryz.func51 rfl (by kernel_rfl) (ac_code [] Tryz.f51 rfl) (L := lex_sign_L)
    (fun n l h x => by cases h) (fun k n l h => by cases h)
    (fun k => All.mem (lex_sign_vc k) trivial) (fun x r h => ⟨0, (lex_sign_eq 0 x.1 x.2).symm.trans h⟩) (by kernel_rfl) (by kernel_rfl) (Nat.le_of_ble_eq_true (by kernel_rfl)) (by kernel_rfl)
/-! ### 32 cotillion/lex.token -/
noncomputable def lex_token  (text : List UInt8) (v_at : Int) : Option (api_Token × Int) := if 0 ≤ v_at then
    if v_at < (text.length : Int) then
    (lex_kind ((text.getD v_at.toNat 0).toNat : Int)).bind fun r1 =>
    bif r1.2 then
    (lex_end text v_at).bind fun r2 =>
    if 0 ≤ r2 then
    if r2 ≤ (text.length : Int) then
    if 0 ≤ v_at then
    if v_at ≤ r2 then
    (lex_number (cut text v_at r2)).bind fun r3 =>
    if r3.2 ≠ 0 then
    some (api_Token.mk 0 0 0 [] 0, r3.2) else
    if 0 ≤ r2 then
    if r2 ≤ (text.length : Int) then
    if 0 ≤ v_at then
    if v_at ≤ r2 then
    some (api_Token.mk 2 v_at r2 (cut text v_at r2) r3.1, 0) else none else none else none else none else none else none else none else none else
    bif r1.1 then
    (lex_end text v_at).bind fun r4 =>
    if 24 < (w64 (r4 - v_at)) then
    some (api_Token.mk 0 0 0 [] 0, 13) else
    if 0 ≤ r4 then
    if r4 ≤ (text.length : Int) then
    if 0 ≤ v_at then
    if v_at ≤ r4 then
    some (api_Token.mk 1 v_at r4 (cut text v_at r4) 0, 0) else none else none else none else none else
    (lex_sign text v_at).bind fun r5 =>
    if r5 = v_at then
    some (api_Token.mk 0 0 0 [] 0, 10) else
    if 0 ≤ r5 then
    if r5 ≤ (text.length : Int) then
    if 0 ≤ v_at then
    if v_at ≤ r5 then
    some (api_Token.mk 3 v_at r5 (cut text v_at r5) 0, 0) else none else none else none else none else none else none
noncomputable abbrev lex_token_T : Tab S := ⟨[⟨48, [.val (.data (.int .u8))], [.val (.data .bool), .val (.data .bool)], fun x => lex_kind x⟩, ⟨49, [.val (.data .str), .val (.data (.int .i64))], [.val (.data (.int .i64))], fun x => lex_end x.1 x.2⟩, ⟨50, [.val (.data .str)], [.val (.data (.int .i64)), .val (.data (.int .i64))], fun x => lex_number x⟩, ⟨51, [.val (.data .str), .val (.data (.int .i64))], [.val (.data (.int .i64))], fun x => lex_sign x.1 x.2⟩], [], false, false, none, []⟩
noncomputable def lex_token_L (k : Nat) : Nat → List (Lab S (api_Token × Int))
  | _ => []
theorem lex_token_eq (k : Nat) (text : List UInt8) (v_at : Int) : lex_token text v_at = exec S (lex_token_T) byt (labs S (lex_token_T) (lex_token_L k)) (ac [] Tryz.f32) (frame0 S [.val (.data .str), .val (.data (.int .i64))] (text, v_at)) (retK S (lex_token_T) Tryz.f32 [.val (.data .str), .val (.data (.int .i64))] [.val (.data (.st 0)), .val (.data (.int .i64))]) := by kernel_rfl
theorem lex_token_vc (k : Nat) : VC S (lex_token_T) byt (lex_token_L k) (lex_token_L (k + 1)) (ac [] Tryz.f32) (retK S (lex_token_T) Tryz.f32 [.val (.data .str), .val (.data (.int .i64))] [.val (.data (.st 0)), .val (.data (.int .i64))]) = [] := by kernel_rfl
theorem lex_token_snd : Snd Tryz.prog S ⟨32, [.val (.data .str), .val (.data (.int .i64))], [.val (.data (.st 0)), .val (.data (.int .i64))], fun x => lex_token x.1 x.2⟩ :=
  fn_ok progOk (T := (lex_token_T)) (all_cons lex_kind_snd (all_cons lex_end_snd (all_cons lex_number_snd (all_cons lex_sign_snd (all_nil))))) (all_nil) (all_nil) mixed Tryz.func32 rfl (by kernel_rfl) (ac_code [] Tryz.f32 rfl) (L := lex_token_L)
    (fun n l h x => by cases h) (fun k n l h => by cases h)
    (fun k => All.mem (lex_token_vc k) trivial) (fun x r h => ⟨0, (lex_token_eq 0 x.1 x.2).symm.trans h⟩) (by kernel_rfl) (by kernel_rfl) (Nat.le_of_ble_eq_true (by kernel_rfl)) (by kernel_rfl)
/-! ### 22 cotillion/lex.All -/
noncomputable def lex_All_l0 : Nat → (List UInt8) → Int → Int → (List api_Token) → Int → Option (List api_Token × api_Fault)
  | 0, _, _, _, _, _ => none
  | k + 1, text, x3_Code, x3_At, l, v_at => if v_at < (text.length : Int) then
    (lex_token text v_at).bind fun r2 =>
    if r2.2 ≠ 0 then
    some ([], api_Fault.mk r2.2 v_at) else
    if (l.length + [r2.1].length) * 48 ≤ 140737488355328 then
    (lex_skip text r2.1.End).bind fun r3 =>
    lex_All_l0 k text x3_Code x3_At (l ++ [r2.1]) r3 else none else
    if (l.length + [api_Token.mk 4 v_at v_at [] 0].length) * 48 ≤ 140737488355328 then
    some (l ++ [api_Token.mk 4 v_at v_at [] 0], api_Fault.mk 0 0) else none
noncomputable def lex_All_f (k : Nat) (text : List UInt8) : Option (List api_Token × api_Fault) := if 16384 < (text.length : Int) then
    some ([], api_Fault.mk 13 16384) else
    (lex_skip text 0).bind fun r1 =>
    lex_All_l0 k text 0 0 [] r1
noncomputable def lex_All  (text : List UInt8) : Option (List api_Token × api_Fault) := lim (fun k (x : List UInt8) => lex_All_f k x) text
noncomputable abbrev lex_All_T : Tab S := ⟨[⟨31, [.val (.data .str), .val (.data (.int .i64))], [.val (.data (.int .i64))], fun x => lex_skip x.1 x.2⟩, ⟨32, [.val (.data .str), .val (.data (.int .i64))], [.val (.data (.st 0)), .val (.data (.int .i64))], fun x => lex_token x.1 x.2⟩], [], false, false, none, []⟩
noncomputable def lex_All_L (k : Nat) : Nat → List (Lab S (List api_Token × api_Fault))
  | 0 => [⟨[0, 3, 4, 5], [.val (.data .str), .obj [.data (.int .i64), .data (.int .i64)], .val (.town (.st 0)), .val (.data (.int .i64))], fun x => lex_All_l0 k x.1 x.2.1.1 x.2.1.2 x.2.2.1 x.2.2.2, false⟩]
  | _ + 1 => []
theorem lex_All_eq (k : Nat) (text : List UInt8) : lex_All_f k text = exec S (lex_All_T) byt (labs S (lex_All_T) (lex_All_L k)) (ac [] Tryz.f22) (frame0 S [.val (.data .str)] text) (retK S (lex_All_T) Tryz.f22 [.val (.data .str)] [.val (.town (.st 0)), .val (.data (.st 1))]) := by kernel_rfl
theorem lex_All_vc (k : Nat) : VC S (lex_All_T) byt (lex_All_L k) (lex_All_L (k + 1)) (ac [] Tryz.f22) (retK S (lex_All_T) Tryz.f22 [.val (.data .str)] [.val (.town (.st 0)), .val (.data (.st 1))]) = [∀ x : List UInt8 × (Int × Int) × List api_Token × Int, lex_All_l0 (k + 1) x.1 x.2.1.1 x.2.1.2 x.2.2.1 x.2.2.2 = lex_All_l0 (k + 1) x.1 x.2.1.1 x.2.1.2 x.2.2.1 x.2.2.2] := by kernel_rfl
theorem lex_All_sndk (k : Nat) : Snd Tryz.prog S ⟨22, [.val (.data .str)], [.val (.town (.st 0)), .val (.data (.st 1))], fun x => lex_All_f k x⟩ :=
  fn_ok progOk (T := (lex_All_T)) (all_cons lex_skip_snd (all_cons lex_token_snd (all_nil))) (all_nil) (all_nil) mixed Tryz.func22 rfl (by kernel_rfl) (ac_code [] Tryz.f22 rfl) (L := lex_All_L)
    (fun n l h x => by match n, h with
        | 0, h => 
          rcases List.mem_cons.1 h with rfl | h
          · rfl
          cases h
        | _ + 1, h => cases h) (fun k n l h => by match n, h with
        | 0, h => 
          rcases List.mem_cons.1 h with rfl | h
          · rfl
          cases h
        | _ + 1, h => cases h)
    (fun k => All.mem (lex_All_vc k) ⟨fun _ => rfl, trivial⟩) (fun x r h => ⟨k, (lex_All_eq k x).symm.trans h⟩) (by kernel_rfl) (by kernel_rfl) (Nat.le_of_ble_eq_true (by kernel_rfl)) (by kernel_rfl)
theorem lex_All_snd : Snd Tryz.prog S ⟨22, [.val (.data .str)], [.val (.town (.st 0)), .val (.data (.st 1))], fun x => lex_All x⟩ := Snd.lim (lex_All_sndk)
/-! ### 16 (*cotillion/read.Row).OK -/
noncomputable def read_Row_OK  (r_ : expr_reader) : Option (Bool × expr_reader) := some (decide (r_.Row.Fault.Code = 0), r_)
noncomputable abbrev read_Row_OK_T : Tab S := ⟨[], [], false, false, none, []⟩
noncomputable def read_Row_OK_L (k : Nat) : Nat → List (Lab S (Bool × expr_reader))
  | _ => []
theorem read_Row_OK_eq (k : Nat) (r_ : expr_reader) : read_Row_OK r_ = exec S (read_Row_OK_T) byt (labs S (read_Row_OK_T) (read_Row_OK_L k)) (ac [] Tryz.f16) (frame0 S [.obj [.data (.st 5)]] r_) (retK S (read_Row_OK_T) Tryz.f16 [.obj [.data (.st 5)]] [.val (.data .bool)]) := by kernel_rfl
theorem read_Row_OK_vc (k : Nat) : VC S (read_Row_OK_T) byt (read_Row_OK_L k) (read_Row_OK_L (k + 1)) (ac [] Tryz.f16) (retK S (read_Row_OK_T) Tryz.f16 [.obj [.data (.st 5)]] [.val (.data .bool)]) = [] := by kernel_rfl
theorem read_Row_OK_snd : Snd Tryz.prog S ⟨16, [.obj [.data (.st 5)]], [.val (.data .bool)], fun x => read_Row_OK x⟩ :=
  fn_ok progOk (T := (read_Row_OK_T)) (all_nil) (all_nil) (all_nil) mixed Tryz.func16 rfl (by kernel_rfl) (ac_code [] Tryz.f16 rfl) (L := read_Row_OK_L)
    (fun n l h x => by cases h) (fun k n l h => by cases h)
    (fun k => All.mem (read_Row_OK_vc k) trivial) (fun x r h => ⟨0, (read_Row_OK_eq 0 x).symm.trans h⟩) (by kernel_rfl) (by kernel_rfl) (Nat.le_of_ble_eq_true (by kernel_rfl)) (by kernel_rfl)
/-! ### 27 (*cotillion/read.Row).Look -/
noncomputable def read_Row_Look  (r_ : expr_reader) : Option (api_Token × expr_reader) := (read_Row_OK r_).bind fun r1 =>
    bif !r1.1 then
    some (api_Token.mk 4 0 0 [] 0, r1.2) else
    if r1.2.Row.At < 0 then
    some (api_Token.mk 4 0 0 [] 0, r1.2) else
    if (r1.2.Row.L.length : Int) ≤ r1.2.Row.At then
    some (api_Token.mk 4 0 0 [] 0, r1.2) else
    if 0 ≤ r1.2.Row.At then
    if r1.2.Row.At < (r1.2.Row.L.length : Int) then
    some (r1.2.Row.L.getD r1.2.Row.At.toNat api_Token.z, r1.2) else none else none
noncomputable abbrev read_Row_Look_T : Tab S := ⟨[⟨16, [.obj [.data (.st 5)]], [.val (.data .bool)], fun x => read_Row_OK x⟩], [], false, false, none, []⟩
noncomputable def read_Row_Look_L (k : Nat) : Nat → List (Lab S (api_Token × expr_reader))
  | _ => []
theorem read_Row_Look_eq (k : Nat) (r_ : expr_reader) : read_Row_Look r_ = exec S (read_Row_Look_T) byt (labs S (read_Row_Look_T) (read_Row_Look_L k)) (ac [] Tryz.f27) (frame0 S [.obj [.data (.st 5)]] r_) (retK S (read_Row_Look_T) Tryz.f27 [.obj [.data (.st 5)]] [.val (.data (.st 0))]) := by kernel_rfl
theorem read_Row_Look_vc (k : Nat) : VC S (read_Row_Look_T) byt (read_Row_Look_L k) (read_Row_Look_L (k + 1)) (ac [] Tryz.f27) (retK S (read_Row_Look_T) Tryz.f27 [.obj [.data (.st 5)]] [.val (.data (.st 0))]) = [] := by kernel_rfl
theorem read_Row_Look_snd : Snd Tryz.prog S ⟨27, [.obj [.data (.st 5)]], [.val (.data (.st 0))], fun x => read_Row_Look x⟩ :=
  fn_ok progOk (T := (read_Row_Look_T)) (all_cons read_Row_OK_snd (all_nil)) (all_nil) (all_nil) mixed Tryz.func27 rfl (by kernel_rfl) (ac_code [] Tryz.f27 rfl) (L := read_Row_Look_L)
    (fun n l h x => by cases h) (fun k n l h => by cases h)
    (fun k => All.mem (read_Row_Look_vc k) trivial) (fun x r h => ⟨0, (read_Row_Look_eq 0 x).symm.trans h⟩) (by kernel_rfl) (by kernel_rfl) (Nat.le_of_ble_eq_true (by kernel_rfl)) (by kernel_rfl)
/-! ### 40 (*cotillion/read.Row).Is -/
noncomputable def read_Row_Is  (r_ : expr_reader) (s : List UInt8) : Option (Bool × expr_reader) := (read_Row_Look r_).bind fun r1 =>
    if r1.1.Kind = 3 then
    some (decide (r1.1.Text = s), r1.2) else
    if r1.1.Kind = 1 then
    some (decide (r1.1.Text = s), r1.2) else
    some (false, r1.2)
noncomputable abbrev read_Row_Is_T : Tab S := ⟨[⟨27, [.obj [.data (.st 5)]], [.val (.data (.st 0))], fun x => read_Row_Look x⟩], [], false, false, none, []⟩
noncomputable def read_Row_Is_L (k : Nat) : Nat → List (Lab S (Bool × expr_reader))
  | _ => []
theorem read_Row_Is_eq (k : Nat) (r_ : expr_reader) (s : List UInt8) : read_Row_Is r_ s = exec S (read_Row_Is_T) byt (labs S (read_Row_Is_T) (read_Row_Is_L k)) (ac [] Tryz.f40) (frame0 S [.obj [.data (.st 5)], .val (.data .str)] (r_, s)) (retK S (read_Row_Is_T) Tryz.f40 [.obj [.data (.st 5)], .val (.data .str)] [.val (.data .bool)]) := by kernel_rfl
theorem read_Row_Is_vc (k : Nat) : VC S (read_Row_Is_T) byt (read_Row_Is_L k) (read_Row_Is_L (k + 1)) (ac [] Tryz.f40) (retK S (read_Row_Is_T) Tryz.f40 [.obj [.data (.st 5)], .val (.data .str)] [.val (.data .bool)]) = [] := by kernel_rfl
theorem read_Row_Is_snd : Snd Tryz.prog S ⟨40, [.obj [.data (.st 5)], .val (.data .str)], [.val (.data .bool)], fun x => read_Row_Is x.1 x.2⟩ :=
  fn_ok progOk (T := (read_Row_Is_T)) (all_cons read_Row_Look_snd (all_nil)) (all_nil) (all_nil) mixed Tryz.func40 rfl (by kernel_rfl) (ac_code [] Tryz.f40 rfl) (L := read_Row_Is_L)
    (fun n l h x => by cases h) (fun k n l h => by cases h)
    (fun k => All.mem (read_Row_Is_vc k) trivial) (fun x r h => ⟨0, (read_Row_Is_eq 0 x.1 x.2).symm.trans h⟩) (by kernel_rfl) (by kernel_rfl) (Nat.le_of_ble_eq_true (by kernel_rfl)) (by kernel_rfl)
/-! ### 60 (*cotillion/read.Row).Fail -/
noncomputable def read_Row_Fail  (r_ : expr_reader) (code : Int) (v_at : Int) : Option expr_reader := (read_Row_OK r_).bind fun r1 =>
    bif r1.1 then
    some (expr_reader.mk (read_Row.mk r1.2.Row.L r1.2.Row.At (api_Fault.mk code v_at)) r1.2.v_open) else
    some r1.2
noncomputable abbrev read_Row_Fail_T : Tab S := ⟨[⟨16, [.obj [.data (.st 5)]], [.val (.data .bool)], fun x => read_Row_OK x⟩], [], false, false, none, []⟩
noncomputable def read_Row_Fail_L (k : Nat) : Nat → List (Lab S expr_reader)
  | _ => []
theorem read_Row_Fail_eq (k : Nat) (r_ : expr_reader) (code : Int) (v_at : Int) : read_Row_Fail r_ code v_at = exec S (read_Row_Fail_T) byt (labs S (read_Row_Fail_T) (read_Row_Fail_L k)) (ac [] Tryz.f60) (frame0 S [.obj [.data (.st 5)], .val (.data (.int .i64)), .val (.data (.int .i64))] (r_, code, v_at)) (retK S (read_Row_Fail_T) Tryz.f60 [.obj [.data (.st 5)], .val (.data (.int .i64)), .val (.data (.int .i64))] []) := by kernel_rfl
theorem read_Row_Fail_vc (k : Nat) : VC S (read_Row_Fail_T) byt (read_Row_Fail_L k) (read_Row_Fail_L (k + 1)) (ac [] Tryz.f60) (retK S (read_Row_Fail_T) Tryz.f60 [.obj [.data (.st 5)], .val (.data (.int .i64)), .val (.data (.int .i64))] []) = [] := by kernel_rfl
theorem read_Row_Fail_snd : Snd Tryz.prog S ⟨60, [.obj [.data (.st 5)], .val (.data (.int .i64)), .val (.data (.int .i64))], [], fun x => read_Row_Fail x.1 x.2.1 x.2.2⟩ :=
  fn_ok progOk (T := (read_Row_Fail_T)) (all_cons read_Row_OK_snd (all_nil)) (all_nil) (all_nil) mixed Tryz.func60 rfl (by kernel_rfl) (ac_code [] Tryz.f60 rfl) (L := read_Row_Fail_L)
    (fun n l h x => by cases h) (fun k n l h => by cases h)
    (fun k => All.mem (read_Row_Fail_vc k) trivial) (fun x r h => ⟨0, (read_Row_Fail_eq 0 x.1 x.2.1 x.2.2).symm.trans h⟩) (by kernel_rfl) (by kernel_rfl) (Nat.le_of_ble_eq_true (by kernel_rfl)) (by kernel_rfl)
/-! ### 42 (*cotillion/expr.reader).deep -/
noncomputable def expr_reader_deep  (r_ : expr_reader) (v_at : Int) : Option (Bool × expr_reader) := if r_.v_open = 12 then
    (read_Row_Fail r_ 14 v_at).bind fun r1 =>
    some (false, r1) else
    some (true, expr_reader.mk (read_Row.mk r_.Row.L (w64 (r_.Row.At + 1)) r_.Row.Fault) (w64 (r_.v_open + 1)))
noncomputable abbrev expr_reader_deep_T : Tab S := ⟨[⟨60, [.obj [.data (.st 5)], .val (.data (.int .i64)), .val (.data (.int .i64))], [], fun x => read_Row_Fail x.1 x.2.1 x.2.2⟩], [], false, false, none, []⟩
noncomputable def expr_reader_deep_L (k : Nat) : Nat → List (Lab S (Bool × expr_reader))
  | _ => []
theorem expr_reader_deep_eq (k : Nat) (r_ : expr_reader) (v_at : Int) : expr_reader_deep r_ v_at = exec S (expr_reader_deep_T) byt (labs S (expr_reader_deep_T) (expr_reader_deep_L k)) (ac [] Tryz.f42) (frame0 S [.obj [.data (.st 5)], .val (.data (.int .i64))] (r_, v_at)) (retK S (expr_reader_deep_T) Tryz.f42 [.obj [.data (.st 5)], .val (.data (.int .i64))] [.val (.data .bool)]) := by kernel_rfl
theorem expr_reader_deep_vc (k : Nat) : VC S (expr_reader_deep_T) byt (expr_reader_deep_L k) (expr_reader_deep_L (k + 1)) (ac [] Tryz.f42) (retK S (expr_reader_deep_T) Tryz.f42 [.obj [.data (.st 5)], .val (.data (.int .i64))] [.val (.data .bool)]) = [] := by kernel_rfl
theorem expr_reader_deep_snd : Snd Tryz.prog S ⟨42, [.obj [.data (.st 5)], .val (.data (.int .i64))], [.val (.data .bool)], fun x => expr_reader_deep x.1 x.2⟩ :=
  fn_ok progOk (T := (expr_reader_deep_T)) (all_cons read_Row_Fail_snd (all_nil)) (all_nil) (all_nil) mixed Tryz.func42 rfl (by kernel_rfl) (ac_code [] Tryz.f42 rfl) (L := expr_reader_deep_L)
    (fun n l h x => by cases h) (fun k n l h => by cases h)
    (fun k => All.mem (expr_reader_deep_vc k) trivial) (fun x r h => ⟨0, (expr_reader_deep_eq 0 x.1 x.2).symm.trans h⟩) (by kernel_rfl) (by kernel_rfl) (Nat.le_of_ble_eq_true (by kernel_rfl)) (by kernel_rfl)
/-! ### 55 (*cotillion/read.Row).Take -/
noncomputable def read_Row_Take  (r_ : expr_reader) (s : List UInt8) : Option (Bool × expr_reader) := (read_Row_Is r_ s).bind fun r1 =>
    bif r1.1 then
    some (r1.1, expr_reader.mk (read_Row.mk r1.2.Row.L (w64 (r1.2.Row.At + 1)) r1.2.Row.Fault) r1.2.v_open) else
    some (r1.1, r1.2)
noncomputable abbrev read_Row_Take_T : Tab S := ⟨[⟨40, [.obj [.data (.st 5)], .val (.data .str)], [.val (.data .bool)], fun x => read_Row_Is x.1 x.2⟩], [], false, false, none, []⟩
noncomputable def read_Row_Take_L (k : Nat) : Nat → List (Lab S (Bool × expr_reader))
  | _ => []
theorem read_Row_Take_eq (k : Nat) (r_ : expr_reader) (s : List UInt8) : read_Row_Take r_ s = exec S (read_Row_Take_T) byt (labs S (read_Row_Take_T) (read_Row_Take_L k)) (ac [] Tryz.f55) (frame0 S [.obj [.data (.st 5)], .val (.data .str)] (r_, s)) (retK S (read_Row_Take_T) Tryz.f55 [.obj [.data (.st 5)], .val (.data .str)] [.val (.data .bool)]) := by kernel_rfl
theorem read_Row_Take_vc (k : Nat) : VC S (read_Row_Take_T) byt (read_Row_Take_L k) (read_Row_Take_L (k + 1)) (ac [] Tryz.f55) (retK S (read_Row_Take_T) Tryz.f55 [.obj [.data (.st 5)], .val (.data .str)] [.val (.data .bool)]) = [] := by kernel_rfl
theorem read_Row_Take_snd : Snd Tryz.prog S ⟨55, [.obj [.data (.st 5)], .val (.data .str)], [.val (.data .bool)], fun x => read_Row_Take x.1 x.2⟩ :=
  fn_ok progOk (T := (read_Row_Take_T)) (all_cons read_Row_Is_snd (all_nil)) (all_nil) (all_nil) mixed Tryz.func55 rfl (by kernel_rfl) (ac_code [] Tryz.f55 rfl) (L := read_Row_Take_L)
    (fun n l h x => by cases h) (fun k n l h => by cases h)
    (fun k => All.mem (read_Row_Take_vc k) trivial) (fun x r h => ⟨0, (read_Row_Take_eq 0 x.1 x.2).symm.trans h⟩) (by kernel_rfl) (by kernel_rfl) (Nat.le_of_ble_eq_true (by kernel_rfl)) (by kernel_rfl)
/-! ### 73 cotillion/lex.Reserved -/
noncomputable def lex_Reserved  (s : List UInt8) : Option Bool := if s = s_system then
    if s = s_system then
    some true else
    some false else
    if s = s_age then
    if s = s_age then
    some true else
    some false else
    if s = s_chart then
    if s = s_chart then
    some true else
    some false else
    if s = s_steps then
    if s = s_steps then
    some true else
    some false else
    if s = s_fuel then
    if s = s_fuel then
    some true else
    some false else
    if s = s_var then
    if s = s_var then
    some true else
    some false else
    if s = s_port then
    if s = s_port then
    some true else
    some false else
    if s = s_timer then
    if s = s_timer then
    some true else
    some false else
    if s = s_state then
    if s = s_state then
    some true else
    some false else
    if s = s_parallel then
    if s = s_parallel then
    some true else
    some false else
    if s = s_history then
    if s = s_history then
    some true else
    some false else
    if s = s_deep then
    if s = s_deep then
    some true else
    some false else
    if s = s_entry then
    if s = s_entry then
    some true else
    some false else
    if s = s_exit then
    if s = s_exit then
    some true else
    some false else
    if s = s_on then
    if s = s_on then
    some true else
    some false else
    if s = s_auto then
    if s = s_auto then
    some true else
    some false else
    if s = s_raise then
    if s = s_raise then
    some true else
    some false else
    if s = s_send then
    if s = s_send then
    some true else
    some false else
    if s = s_arm then
    if s = s_arm then
    some true else
    some false else
    if s = s_cancel then
    if s = s_cancel then
    some true else
    some false else
    if s = s_if then
    if s = s_if then
    some true else
    some false else
    if s = s_else then
    if s = s_else then
    some true else
    some false else
    if s = s_loop then
    if s = s_loop then
    some true else
    some false else
    if s = s_in then
    if s = s_in then
    some true else
    some false else
    if s = s_inst then
    if s = s_inst then
    some true else
    some false else
    if s = s_quantum then
    if s = s_quantum then
    some true else
    some false else
    if s = s_ext then
    if s = s_ext then
    some true else
    some false else
    if s = s_prio then
    if s = s_prio then
    some true else
    some false else
    if s = s_chan then
    if s = s_chan then
    some true else
    some false else
    if s = s_cap then
    if s = s_cap then
    some true else
    some false else
    if s = s_cert then
    if s = s_cert then
    some true else
    some false else
    if s = s_insts then
    if s = s_insts then
    some true else
    some false else
    if s = s_chans then
    if s = s_chans then
    some true else
    some false else
    if s = s_cell then
    if s = s_cell then
    some true else
    some false else
    if s = s_off then
    some true else
    some false
noncomputable abbrev lex_Reserved_T : Tab S := ⟨[], [], false, false, none, []⟩
noncomputable def lex_Reserved_L (k : Nat) : Nat → List (Lab S Bool)
  | _ => []
theorem lex_Reserved_eq (k : Nat) (s : List UInt8) : lex_Reserved s = exec S (lex_Reserved_T) byt (labs S (lex_Reserved_T) (lex_Reserved_L k)) (ac [] Tryz.f73) (frame0 S [.val (.data .str)] s) (retK S (lex_Reserved_T) Tryz.f73 [.val (.data .str)] [.val (.data .bool)]) := by kernel_rfl
theorem lex_Reserved_vc (k : Nat) : VC S (lex_Reserved_T) byt (lex_Reserved_L k) (lex_Reserved_L (k + 1)) (ac [] Tryz.f73) (retK S (lex_Reserved_T) Tryz.f73 [.val (.data .str)] [.val (.data .bool)]) = [] := by kernel_rfl
theorem lex_Reserved_snd : Snd Tryz.prog S ⟨73, [.val (.data .str)], [.val (.data .bool)], fun x => lex_Reserved x⟩ :=
  fn_ok progOk (T := (lex_Reserved_T)) (all_nil) (all_nil) (all_nil) mixed Tryz.func73 rfl (by kernel_rfl) (ac_code [] Tryz.f73 rfl) (L := lex_Reserved_L)
    (fun n l h x => by cases h) (fun k n l h => by cases h)
    (fun k => All.mem (lex_Reserved_vc k) trivial) (fun x r h => ⟨0, (lex_Reserved_eq 0 x).symm.trans h⟩) (by kernel_rfl) (by kernel_rfl) (Nat.le_of_ble_eq_true (by kernel_rfl)) (by kernel_rfl)
/-! ### 56 (*cotillion/read.Row).IsName -/
noncomputable def read_Row_IsName  (r_ : expr_reader) : Option (Bool × expr_reader) := (read_Row_Look r_).bind fun r1 =>
    if r1.1.Kind = 1 then
    (lex_Reserved r1.1.Text).bind fun r2 =>
    some (!r2, r1.2) else
    some (false, r1.2)
noncomputable abbrev read_Row_IsName_T : Tab S := ⟨[⟨27, [.obj [.data (.st 5)]], [.val (.data (.st 0))], fun x => read_Row_Look x⟩, ⟨73, [.val (.data .str)], [.val (.data .bool)], fun x => lex_Reserved x⟩], [], false, false, none, []⟩
noncomputable def read_Row_IsName_L (k : Nat) : Nat → List (Lab S (Bool × expr_reader))
  | _ => []
theorem read_Row_IsName_eq (k : Nat) (r_ : expr_reader) : read_Row_IsName r_ = exec S (read_Row_IsName_T) byt (labs S (read_Row_IsName_T) (read_Row_IsName_L k)) (ac [] Tryz.f56) (frame0 S [.obj [.data (.st 5)]] r_) (retK S (read_Row_IsName_T) Tryz.f56 [.obj [.data (.st 5)]] [.val (.data .bool)]) := by kernel_rfl
theorem read_Row_IsName_vc (k : Nat) : VC S (read_Row_IsName_T) byt (read_Row_IsName_L k) (read_Row_IsName_L (k + 1)) (ac [] Tryz.f56) (retK S (read_Row_IsName_T) Tryz.f56 [.obj [.data (.st 5)]] [.val (.data .bool)]) = [] := by kernel_rfl
theorem read_Row_IsName_snd : Snd Tryz.prog S ⟨56, [.obj [.data (.st 5)]], [.val (.data .bool)], fun x => read_Row_IsName x⟩ :=
  fn_ok progOk (T := (read_Row_IsName_T)) (all_cons read_Row_Look_snd (all_cons lex_Reserved_snd (all_nil))) (all_nil) (all_nil) mixed Tryz.func56 rfl (by kernel_rfl) (ac_code [] Tryz.f56 rfl) (L := read_Row_IsName_L)
    (fun n l h x => by cases h) (fun k n l h => by cases h)
    (fun k => All.mem (read_Row_IsName_vc k) trivial) (fun x r h => ⟨0, (read_Row_IsName_eq 0 x).symm.trans h⟩) (by kernel_rfl) (by kernel_rfl) (Nat.le_of_ble_eq_true (by kernel_rfl)) (by kernel_rfl)
/-! ### 59 (*cotillion/read.Row).Wrong -/
noncomputable def read_Row_Wrong  (r_ : expr_reader) : Option expr_reader := (read_Row_Look r_).bind fun r1 =>
    if r1.1.Kind = 4 then
    (read_Row_Fail r1.2 12 r1.1.At).bind fun r2 =>
    some r2 else
    (read_Row_Fail r1.2 11 r1.1.At).bind fun r3 =>
    some r3
noncomputable abbrev read_Row_Wrong_T : Tab S := ⟨[⟨27, [.obj [.data (.st 5)]], [.val (.data (.st 0))], fun x => read_Row_Look x⟩, ⟨60, [.obj [.data (.st 5)], .val (.data (.int .i64)), .val (.data (.int .i64))], [], fun x => read_Row_Fail x.1 x.2.1 x.2.2⟩], [], false, false, none, []⟩
noncomputable def read_Row_Wrong_L (k : Nat) : Nat → List (Lab S expr_reader)
  | _ => []
theorem read_Row_Wrong_eq (k : Nat) (r_ : expr_reader) : read_Row_Wrong r_ = exec S (read_Row_Wrong_T) byt (labs S (read_Row_Wrong_T) (read_Row_Wrong_L k)) (ac [] Tryz.f59) (frame0 S [.obj [.data (.st 5)]] r_) (retK S (read_Row_Wrong_T) Tryz.f59 [.obj [.data (.st 5)]] []) := by kernel_rfl
theorem read_Row_Wrong_vc (k : Nat) : VC S (read_Row_Wrong_T) byt (read_Row_Wrong_L k) (read_Row_Wrong_L (k + 1)) (ac [] Tryz.f59) (retK S (read_Row_Wrong_T) Tryz.f59 [.obj [.data (.st 5)]] []) = [] := by kernel_rfl
theorem read_Row_Wrong_snd : Snd Tryz.prog S ⟨59, [.obj [.data (.st 5)]], [], fun x => read_Row_Wrong x⟩ :=
  fn_ok progOk (T := (read_Row_Wrong_T)) (all_cons read_Row_Look_snd (all_cons read_Row_Fail_snd (all_nil))) (all_nil) (all_nil) mixed Tryz.func59 rfl (by kernel_rfl) (ac_code [] Tryz.f59 rfl) (L := read_Row_Wrong_L)
    (fun n l h x => by cases h) (fun k n l h => by cases h)
    (fun k => All.mem (read_Row_Wrong_vc k) trivial) (fun x r h => ⟨0, (read_Row_Wrong_eq 0 x).symm.trans h⟩) (by kernel_rfl) (by kernel_rfl) (Nat.le_of_ble_eq_true (by kernel_rfl)) (by kernel_rfl)
/-! ### 57 (*cotillion/read.Row).Name -/
noncomputable def read_Row_Name  (r_ : expr_reader) : Option (List UInt8 × expr_reader) := (read_Row_IsName r_).bind fun r1 =>
    bif !r1.1 then
    (read_Row_Wrong r1.2).bind fun r2 =>
    some ([], r2) else
    if 0 ≤ (w64 ((w64 (r1.2.Row.At + 1)) - 1)) then
    if (w64 ((w64 (r1.2.Row.At + 1)) - 1)) < (r1.2.Row.L.length : Int) then
    some ((r1.2.Row.L.getD (w64 ((w64 (r1.2.Row.At + 1)) - 1)).toNat api_Token.z).Text, expr_reader.mk (read_Row.mk r1.2.Row.L (w64 (r1.2.Row.At + 1)) r1.2.Row.Fault) r1.2.v_open) else none else none
noncomputable abbrev read_Row_Name_T : Tab S := ⟨[⟨56, [.obj [.data (.st 5)]], [.val (.data .bool)], fun x => read_Row_IsName x⟩, ⟨59, [.obj [.data (.st 5)]], [], fun x => read_Row_Wrong x⟩], [], false, false, none, []⟩
noncomputable def read_Row_Name_L (k : Nat) : Nat → List (Lab S (List UInt8 × expr_reader))
  | _ => []
theorem read_Row_Name_eq (k : Nat) (r_ : expr_reader) : read_Row_Name r_ = exec S (read_Row_Name_T) byt (labs S (read_Row_Name_T) (read_Row_Name_L k)) (ac [] Tryz.f57) (frame0 S [.obj [.data (.st 5)]] r_) (retK S (read_Row_Name_T) Tryz.f57 [.obj [.data (.st 5)]] [.val (.data .str)]) := by kernel_rfl
theorem read_Row_Name_vc (k : Nat) : VC S (read_Row_Name_T) byt (read_Row_Name_L k) (read_Row_Name_L (k + 1)) (ac [] Tryz.f57) (retK S (read_Row_Name_T) Tryz.f57 [.obj [.data (.st 5)]] [.val (.data .str)]) = [] := by kernel_rfl
theorem read_Row_Name_snd : Snd Tryz.prog S ⟨57, [.obj [.data (.st 5)]], [.val (.data .str)], fun x => read_Row_Name x⟩ :=
  fn_ok progOk (T := (read_Row_Name_T)) (all_cons read_Row_IsName_snd (all_cons read_Row_Wrong_snd (all_nil))) (all_nil) (all_nil) mixed Tryz.func57 rfl (by kernel_rfl) (ac_code [] Tryz.f57 rfl) (L := read_Row_Name_L)
    (fun n l h x => by cases h) (fun k n l h => by cases h)
    (fun k => All.mem (read_Row_Name_vc k) trivial) (fun x r h => ⟨0, (read_Row_Name_eq 0 x).symm.trans h⟩) (by kernel_rfl) (by kernel_rfl) (Nat.le_of_ble_eq_true (by kernel_rfl)) (by kernel_rfl)
/-! ### 58 (*cotillion/read.Row).Want -/
noncomputable def read_Row_Want  (r_ : expr_reader) (s : List UInt8) : Option expr_reader := (read_Row_Take r_ s).bind fun r1 =>
    bif !r1.1 then
    (read_Row_Wrong r1.2).bind fun r2 =>
    some r2 else
    some r1.2
noncomputable abbrev read_Row_Want_T : Tab S := ⟨[⟨55, [.obj [.data (.st 5)], .val (.data .str)], [.val (.data .bool)], fun x => read_Row_Take x.1 x.2⟩, ⟨59, [.obj [.data (.st 5)]], [], fun x => read_Row_Wrong x⟩], [], false, false, none, []⟩
noncomputable def read_Row_Want_L (k : Nat) : Nat → List (Lab S expr_reader)
  | _ => []
theorem read_Row_Want_eq (k : Nat) (r_ : expr_reader) (s : List UInt8) : read_Row_Want r_ s = exec S (read_Row_Want_T) byt (labs S (read_Row_Want_T) (read_Row_Want_L k)) (ac [] Tryz.f58) (frame0 S [.obj [.data (.st 5)], .val (.data .str)] (r_, s)) (retK S (read_Row_Want_T) Tryz.f58 [.obj [.data (.st 5)], .val (.data .str)] []) := by kernel_rfl
theorem read_Row_Want_vc (k : Nat) : VC S (read_Row_Want_T) byt (read_Row_Want_L k) (read_Row_Want_L (k + 1)) (ac [] Tryz.f58) (retK S (read_Row_Want_T) Tryz.f58 [.obj [.data (.st 5)], .val (.data .str)] []) = [] := by kernel_rfl
theorem read_Row_Want_snd : Snd Tryz.prog S ⟨58, [.obj [.data (.st 5)], .val (.data .str)], [], fun x => read_Row_Want x.1 x.2⟩ :=
  fn_ok progOk (T := (read_Row_Want_T)) (all_cons read_Row_Take_snd (all_cons read_Row_Wrong_snd (all_nil))) (all_nil) (all_nil) mixed Tryz.func58 rfl (by kernel_rfl) (ac_code [] Tryz.f58 rfl) (L := read_Row_Want_L)
    (fun n l h x => by cases h) (fun k n l h => by cases h)
    (fun k => All.mem (read_Row_Want_vc k) trivial) (fun x r h => ⟨0, (read_Row_Want_eq 0 x.1 x.2).symm.trans h⟩) (by kernel_rfl) (by kernel_rfl) (Nat.le_of_ble_eq_true (by kernel_rfl)) (by kernel_rfl)
/-! ### 41 (*cotillion/expr.reader).prim -/
noncomputable def expr_reader_prim (self_expr_reader_part : expr_reader → Int → Option (api_Expr × expr_reader))  (r_ : expr_reader) : Option (api_Expr × expr_reader) := (read_Row_Look r_).bind fun r1 =>
    if r1.1.Kind = 2 then
    some (api_Expr.mk 1 r1.1.N [] [] r1.1.At, expr_reader.mk (read_Row.mk r1.2.Row.L (w64 (r1.2.Row.At + 1)) r1.2.Row.Fault) r1.2.v_open) else
    (read_Row_Take r1.2 s_dollar).bind fun r2 =>
    bif r2.1 then
    some (api_Expr.mk 3 0 [] [] r1.1.At, r2.2) else
    (read_Row_IsName r2.2).bind fun r3 =>
    bif r3.1 then
    (read_Row_Name r3.2).bind fun r4 =>
    some (api_Expr.mk 2 0 r4.1 [] r1.1.At, r4.2) else
    (read_Row_Take r3.2 s_in).bind fun r5 =>
    bif r5.1 then
    (read_Row_Want r5.2 s_lp).bind fun r6 =>
    (read_Row_Name r6).bind fun r7 =>
    (read_Row_Want r7.2 s_rp).bind fun r8 =>
    some (api_Expr.mk 4 0 r7.1 [] r1.1.At, r8) else
    (read_Row_Is r5.2 s_lp).bind fun r9 =>
    bif !r9.1 then
    (read_Row_Wrong r9.2).bind fun r10 =>
    some (api_Expr.mk 0 0 [] [] 0, r10) else
    (expr_reader_deep r9.2 r1.1.At).bind fun r11 =>
    bif !r11.1 then
    some (api_Expr.mk 0 0 [] [] 0, r11.2) else
    (self_expr_reader_part r11.2 1).bind fun r12 =>
    (read_Row_Want r12.2 s_rp).bind fun r13 =>
    some (api_Expr.mk r12.1.Kind r12.1.N r12.1.Name r12.1.Kids r12.1.At, expr_reader.mk r13.Row (w64 (r13.v_open - 1)))
noncomputable abbrev expr_reader_prim_T (self_expr_reader_part : expr_reader → Int → Option (api_Expr × expr_reader)) : Tab S := ⟨[⟨27, [.obj [.data (.st 5)]], [.val (.data (.st 0))], fun x => read_Row_Look x⟩, ⟨55, [.obj [.data (.st 5)], .val (.data .str)], [.val (.data .bool)], fun x => read_Row_Take x.1 x.2⟩, ⟨56, [.obj [.data (.st 5)]], [.val (.data .bool)], fun x => read_Row_IsName x⟩, ⟨57, [.obj [.data (.st 5)]], [.val (.data .str)], fun x => read_Row_Name x⟩, ⟨58, [.obj [.data (.st 5)], .val (.data .str)], [], fun x => read_Row_Want x.1 x.2⟩, ⟨40, [.obj [.data (.st 5)], .val (.data .str)], [.val (.data .bool)], fun x => read_Row_Is x.1 x.2⟩, ⟨59, [.obj [.data (.st 5)]], [], fun x => read_Row_Wrong x⟩, ⟨42, [.obj [.data (.st 5)], .val (.data (.int .i64))], [.val (.data .bool)], fun x => expr_reader_deep x.1 x.2⟩, ⟨15, [.obj [.data (.st 5)], .val (.data (.int .i64))], [.val (.data (.st 3))], fun x => self_expr_reader_part x.1 x.2⟩], [], false, false, none, []⟩
noncomputable def expr_reader_prim_L (self_expr_reader_part : expr_reader → Int → Option (api_Expr × expr_reader)) (k : Nat) : Nat → List (Lab S (api_Expr × expr_reader))
  | _ => []
theorem expr_reader_prim_eq (self_expr_reader_part : expr_reader → Int → Option (api_Expr × expr_reader)) (k : Nat) (r_ : expr_reader) : expr_reader_prim self_expr_reader_part r_ = exec S (expr_reader_prim_T self_expr_reader_part) byt (labs S (expr_reader_prim_T self_expr_reader_part) (expr_reader_prim_L self_expr_reader_part k)) (ac [] Tryz.f41) (frame0 S [.obj [.data (.st 5)]] r_) (retK S (expr_reader_prim_T self_expr_reader_part) Tryz.f41 [.obj [.data (.st 5)]] [.val (.data (.st 3))]) := by kernel_rfl
theorem expr_reader_prim_vc (self_expr_reader_part : expr_reader → Int → Option (api_Expr × expr_reader)) (k : Nat) : VC S (expr_reader_prim_T self_expr_reader_part) byt (expr_reader_prim_L self_expr_reader_part k) (expr_reader_prim_L self_expr_reader_part (k + 1)) (ac [] Tryz.f41) (retK S (expr_reader_prim_T self_expr_reader_part) Tryz.f41 [.obj [.data (.st 5)]] [.val (.data (.st 3))]) = [] := by kernel_rfl
theorem expr_reader_prim_snd (self_expr_reader_part : expr_reader → Int → Option (api_Expr × expr_reader)) (hself_expr_reader_part : Snd Tryz.prog S ⟨15, [.obj [.data (.st 5)], .val (.data (.int .i64))], [.val (.data (.st 3))], fun x => self_expr_reader_part x.1 x.2⟩) : Snd Tryz.prog S ⟨41, [.obj [.data (.st 5)]], [.val (.data (.st 3))], fun x => expr_reader_prim self_expr_reader_part x⟩ :=
  fn_ok progOk (T := (expr_reader_prim_T self_expr_reader_part)) (all_cons read_Row_Look_snd (all_cons read_Row_Take_snd (all_cons read_Row_IsName_snd (all_cons read_Row_Name_snd (all_cons read_Row_Want_snd (all_cons read_Row_Is_snd (all_cons read_Row_Wrong_snd (all_cons expr_reader_deep_snd (all_cons hself_expr_reader_part (all_nil)))))))))) (all_nil) (all_nil) mixed Tryz.func41 rfl (by kernel_rfl) (ac_code [] Tryz.f41 rfl) (L := expr_reader_prim_L self_expr_reader_part)
    (fun n l h x => by cases h) (fun k n l h => by cases h)
    (fun k => All.mem (expr_reader_prim_vc self_expr_reader_part k) trivial) (fun x r h => ⟨0, (expr_reader_prim_eq self_expr_reader_part 0 x).symm.trans h⟩) (by kernel_rfl) (by kernel_rfl) (Nat.le_of_ble_eq_true (by kernel_rfl)) (by kernel_rfl)
/-! ### 26 (*cotillion/expr.reader).signed -/
noncomputable def expr_reader_signed_b (self_expr_reader_signed : expr_reader → Option (api_Expr × expr_reader)) (self_expr_reader_part : expr_reader → Int → Option (api_Expr × expr_reader)) (k : Nat) (r_ : expr_reader) : Option (api_Expr × expr_reader) := (read_Row_Look r_).bind fun r1 =>
    (read_Row_Is r1.2 s_minus).bind fun r2 =>
    bif r2.1 then
    (expr_reader_deep r2.2 r1.1.At).bind fun r3 =>
    bif !r3.1 then
    some (api_Expr.mk 0 0 [] [] 0, r3.2) else
    (self_expr_reader_signed r3.2).bind fun r4 =>
    some (api_Expr.mk 5 0 [] [api_Expr.mk r4.1.Kind r4.1.N r4.1.Name r4.1.Kids r4.1.At] r1.1.At, expr_reader.mk r4.2.Row (w64 (r4.2.v_open - 1))) else
    (read_Row_Is r2.2 s_bang).bind fun r5 =>
    bif r5.1 then
    (expr_reader_deep r5.2 r1.1.At).bind fun r6 =>
    bif !r6.1 then
    some (api_Expr.mk 0 0 [] [] 0, r6.2) else
    (self_expr_reader_signed r6.2).bind fun r7 =>
    some (api_Expr.mk 6 0 [] [api_Expr.mk r7.1.Kind r7.1.N r7.1.Name r7.1.Kids r7.1.At] r1.1.At, expr_reader.mk r7.2.Row (w64 (r7.2.v_open - 1))) else
    (expr_reader_prim self_expr_reader_part r5.2).bind fun r8 =>
    some (api_Expr.mk r8.1.Kind r8.1.N r8.1.Name r8.1.Kids r8.1.At, r8.2)
noncomputable def expr_reader_signed_f (self_expr_reader_part : expr_reader → Int → Option (api_Expr × expr_reader)) : Nat → expr_reader → Option (api_Expr × expr_reader)
  | 0, _ => none
  | k + 1, x0 => expr_reader_signed_b (expr_reader_signed_f self_expr_reader_part k) self_expr_reader_part k x0
noncomputable def expr_reader_signed (self_expr_reader_part : expr_reader → Int → Option (api_Expr × expr_reader))  (r_ : expr_reader) : Option (api_Expr × expr_reader) := lim (fun k (x : expr_reader) => expr_reader_signed_f self_expr_reader_part k x) r_
noncomputable abbrev expr_reader_signed_T (self_expr_reader_signed : expr_reader → Option (api_Expr × expr_reader)) (self_expr_reader_part : expr_reader → Int → Option (api_Expr × expr_reader)) : Tab S := ⟨[⟨27, [.obj [.data (.st 5)]], [.val (.data (.st 0))], fun x => read_Row_Look x⟩, ⟨40, [.obj [.data (.st 5)], .val (.data .str)], [.val (.data .bool)], fun x => read_Row_Is x.1 x.2⟩, ⟨42, [.obj [.data (.st 5)], .val (.data (.int .i64))], [.val (.data .bool)], fun x => expr_reader_deep x.1 x.2⟩, ⟨26, [.obj [.data (.st 5)]], [.val (.data (.st 3))], fun x => self_expr_reader_signed x⟩, ⟨41, [.obj [.data (.st 5)]], [.val (.data (.st 3))], fun x => expr_reader_prim self_expr_reader_part x⟩], [], false, false, none, []⟩
noncomputable def expr_reader_signed_L (self_expr_reader_signed : expr_reader → Option (api_Expr × expr_reader)) (self_expr_reader_part : expr_reader → Int → Option (api_Expr × expr_reader)) (k : Nat) : Nat → List (Lab S (api_Expr × expr_reader))
  | _ => []
theorem expr_reader_signed_eq (self_expr_reader_signed : expr_reader → Option (api_Expr × expr_reader)) (self_expr_reader_part : expr_reader → Int → Option (api_Expr × expr_reader)) (k : Nat) (r_ : expr_reader) : expr_reader_signed_b self_expr_reader_signed self_expr_reader_part k r_ = exec S (expr_reader_signed_T self_expr_reader_signed self_expr_reader_part) byt (labs S (expr_reader_signed_T self_expr_reader_signed self_expr_reader_part) (expr_reader_signed_L self_expr_reader_signed self_expr_reader_part k)) (ac [] Tryz.f26) (frame0 S [.obj [.data (.st 5)]] r_) (retK S (expr_reader_signed_T self_expr_reader_signed self_expr_reader_part) Tryz.f26 [.obj [.data (.st 5)]] [.val (.data (.st 3))]) := by kernel_rfl
theorem expr_reader_signed_vc (self_expr_reader_signed : expr_reader → Option (api_Expr × expr_reader)) (self_expr_reader_part : expr_reader → Int → Option (api_Expr × expr_reader)) (k : Nat) : VC S (expr_reader_signed_T self_expr_reader_signed self_expr_reader_part) byt (expr_reader_signed_L self_expr_reader_signed self_expr_reader_part k) (expr_reader_signed_L self_expr_reader_signed self_expr_reader_part (k + 1)) (ac [] Tryz.f26) (retK S (expr_reader_signed_T self_expr_reader_signed self_expr_reader_part) Tryz.f26 [.obj [.data (.st 5)]] [.val (.data (.st 3))]) = [] := by kernel_rfl
theorem expr_reader_signed_sndk (self_expr_reader_signed : expr_reader → Option (api_Expr × expr_reader)) (self_expr_reader_part : expr_reader → Int → Option (api_Expr × expr_reader)) (hself : Snd Tryz.prog S ⟨26, [.obj [.data (.st 5)]], [.val (.data (.st 3))], fun x => self_expr_reader_signed x⟩) (hself_expr_reader_part : Snd Tryz.prog S ⟨15, [.obj [.data (.st 5)], .val (.data (.int .i64))], [.val (.data (.st 3))], fun x => self_expr_reader_part x.1 x.2⟩) (k : Nat) : Snd Tryz.prog S ⟨26, [.obj [.data (.st 5)]], [.val (.data (.st 3))], fun x => expr_reader_signed_b self_expr_reader_signed self_expr_reader_part k x⟩ :=
  fn_ok progOk (T := (expr_reader_signed_T self_expr_reader_signed self_expr_reader_part)) (all_cons read_Row_Look_snd (all_cons read_Row_Is_snd (all_cons expr_reader_deep_snd (all_cons hself (all_cons (expr_reader_prim_snd self_expr_reader_part hself_expr_reader_part) (all_nil)))))) (all_nil) (all_nil) mixed Tryz.func26 rfl (by kernel_rfl) (ac_code [] Tryz.f26 rfl) (L := expr_reader_signed_L self_expr_reader_signed self_expr_reader_part)
    (fun n l h x => by cases h) (fun k n l h => by cases h)
    (fun k => All.mem (expr_reader_signed_vc self_expr_reader_signed self_expr_reader_part k) trivial) (fun x r h => ⟨k, (expr_reader_signed_eq self_expr_reader_signed self_expr_reader_part k x).symm.trans h⟩) (by kernel_rfl) (by kernel_rfl) (Nat.le_of_ble_eq_true (by kernel_rfl)) (by kernel_rfl)
theorem expr_reader_signed_sndf (self_expr_reader_part : expr_reader → Int → Option (api_Expr × expr_reader)) (hself_expr_reader_part : Snd Tryz.prog S ⟨15, [.obj [.data (.st 5)], .val (.data (.int .i64))], [.val (.data (.st 3))], fun x => self_expr_reader_part x.1 x.2⟩) : ∀ k, Snd Tryz.prog S ⟨26, [.obj [.data (.st 5)]], [.val (.data (.st 3))], fun x => expr_reader_signed_f self_expr_reader_part k x⟩
  | 0 => Snd.none ⟨_, Tryz.func26, by kernel_rfl, by kernel_rfl⟩ fun _ => rfl
  | k + 1 => expr_reader_signed_sndk (expr_reader_signed_f self_expr_reader_part k) self_expr_reader_part (expr_reader_signed_sndf self_expr_reader_part hself_expr_reader_part k) hself_expr_reader_part k
theorem expr_reader_signed_snd (self_expr_reader_part : expr_reader → Int → Option (api_Expr × expr_reader)) (hself_expr_reader_part : Snd Tryz.prog S ⟨15, [.obj [.data (.st 5)], .val (.data (.int .i64))], [.val (.data (.st 3))], fun x => self_expr_reader_part x.1 x.2⟩) : Snd Tryz.prog S ⟨26, [.obj [.data (.st 5)]], [.val (.data (.st 3))], fun x => expr_reader_signed self_expr_reader_part x⟩ := Snd.lim (expr_reader_signed_sndf self_expr_reader_part hself_expr_reader_part)
/-! ### 28 cotillion/expr.sign -/
noncomputable def expr_sign  (text : List UInt8) : Option (Int × Int) := if text = s_bar_bar then
    some (19, 1) else
    if text = s_amp_amp then
    some (18, 2) else
    if text = s_lt then
    some (12, 3) else
    if text = s_lt_eq then
    some (13, 3) else
    if text = s_gt then
    some (14, 3) else
    if text = s_gt_eq then
    some (15, 3) else
    if text = s_eq_eq then
    some (16, 3) else
    if text = s_bang_eq then
    some (17, 3) else
    if text = s_plus then
    some (10, 4) else
    if text = s_minus then
    some (11, 4) else
    if text = s_star then
    some (7, 5) else
    if text = s_slash then
    some (8, 5) else
    if text = s_pct then
    some (9, 5) else
    some (0, 0)
noncomputable abbrev expr_sign_T : Tab S := ⟨[], [], false, false, none, []⟩
noncomputable def expr_sign_L (k : Nat) : Nat → List (Lab S (Int × Int))
  | _ => []
theorem expr_sign_eq (k : Nat) (text : List UInt8) : expr_sign text = exec S (expr_sign_T) byt (labs S (expr_sign_T) (expr_sign_L k)) (ac [] Tryz.f28) (frame0 S [.val (.data .str)] text) (retK S (expr_sign_T) Tryz.f28 [.val (.data .str)] [.val (.data (.int .i64)), .val (.data (.int .i64))]) := by kernel_rfl
theorem expr_sign_vc (k : Nat) : VC S (expr_sign_T) byt (expr_sign_L k) (expr_sign_L (k + 1)) (ac [] Tryz.f28) (retK S (expr_sign_T) Tryz.f28 [.val (.data .str)] [.val (.data (.int .i64)), .val (.data (.int .i64))]) = [] := by kernel_rfl
theorem expr_sign_snd : Snd Tryz.prog S ⟨28, [.val (.data .str)], [.val (.data (.int .i64)), .val (.data (.int .i64))], fun x => expr_sign x⟩ :=
  fn_ok progOk (T := (expr_sign_T)) (all_nil) (all_nil) (all_nil) mixed Tryz.func28 rfl (by kernel_rfl) (ac_code [] Tryz.f28 rfl) (L := expr_sign_L)
    (fun n l h x => by cases h) (fun k n l h => by cases h)
    (fun k => All.mem (expr_sign_vc k) trivial) (fun x r h => ⟨0, (expr_sign_eq 0 x).symm.trans h⟩) (by kernel_rfl) (by kernel_rfl) (Nat.le_of_ble_eq_true (by kernel_rfl)) (by kernel_rfl)
/-! ### 15 (*cotillion/expr.reader).part -/
noncomputable def expr_reader_part_l0 (self_expr_reader_part : expr_reader → Int → Option (api_Expr × expr_reader)) : Nat → (List api_Token) → Int → Int → Int → Int → Int → Int → Int → (List UInt8) → (List api_Expr) → Int → Int → Int → (List UInt8) → (List api_Expr) → Int → Option (api_Expr × expr_reader)
  | 0, _, _, _, _, _, _, _, _, _, _, _, _, _, _, _, _ => none
  | k + 1, r__Row_L, r__Row_At, r__Row_Fault_Code, r__Row_Fault_At, r__v_open, level, x4_Kind, x4_N, x4_Name, x4_Kids, x4_At, e_Kind, e_N, e_Name, e_Kids, e_At => (read_Row_Look (expr_reader.mk (read_Row.mk r__Row_L r__Row_At (api_Fault.mk r__Row_Fault_Code r__Row_Fault_At)) r__v_open)).bind fun r3 =>
    (expr_sign r3.1.Text).bind fun r4 =>
    if r3.1.Kind ≠ 3 then
    some (api_Expr.mk e_Kind e_N e_Name e_Kids e_At, r3.2) else
    if r4.2 ≠ level then
    some (api_Expr.mk e_Kind e_N e_Name e_Kids e_At, r3.2) else
    (self_expr_reader_part (expr_reader.mk (read_Row.mk r3.2.Row.L (w64 (r3.2.Row.At + 1)) r3.2.Row.Fault) r3.2.v_open) (w64 (level + 1))).bind fun r5 =>
    if level = 3 then
    some (api_Expr.mk r4.1 0 [] [api_Expr.mk e_Kind e_N e_Name e_Kids e_At, api_Expr.mk r5.1.Kind r5.1.N r5.1.Name r5.1.Kids r5.1.At] r3.1.At, r5.2) else
    expr_reader_part_l0 self_expr_reader_part k r5.2.Row.L r5.2.Row.At r5.2.Row.Fault.Code r5.2.Row.Fault.At r5.2.v_open level x4_Kind x4_N x4_Name x4_Kids x4_At r4.1 0 [] [api_Expr.mk e_Kind e_N e_Name e_Kids e_At, api_Expr.mk r5.1.Kind r5.1.N r5.1.Name r5.1.Kids r5.1.At] r3.1.At
noncomputable def expr_reader_part_b (self_expr_reader_part : expr_reader → Int → Option (api_Expr × expr_reader)) (k : Nat) (r_ : expr_reader) (level : Int) : Option (api_Expr × expr_reader) := if level = 6 then
    (expr_reader_signed self_expr_reader_part r_).bind fun r1 =>
    some (api_Expr.mk r1.1.Kind r1.1.N r1.1.Name r1.1.Kids r1.1.At, r1.2) else
    (self_expr_reader_part r_ (w64 (level + 1))).bind fun r2 =>
    expr_reader_part_l0 self_expr_reader_part k r2.2.Row.L r2.2.Row.At r2.2.Row.Fault.Code r2.2.Row.Fault.At r2.2.v_open level 0 0 [] [] 0 r2.1.Kind r2.1.N r2.1.Name r2.1.Kids r2.1.At
noncomputable def expr_reader_part_f : Nat → expr_reader → Int → Option (api_Expr × expr_reader)
  | 0, _, _ => none
  | k + 1, x0, x1 => expr_reader_part_b (expr_reader_part_f k) k x0 x1
noncomputable def expr_reader_part  (r_ : expr_reader) (level : Int) : Option (api_Expr × expr_reader) := lim (fun k (x : expr_reader × Int) => expr_reader_part_f k x.1 x.2) (r_, level)
noncomputable abbrev expr_reader_part_T (self_expr_reader_part : expr_reader → Int → Option (api_Expr × expr_reader)) : Tab S := ⟨[⟨26, [.obj [.data (.st 5)]], [.val (.data (.st 3))], fun x => expr_reader_signed self_expr_reader_part x⟩, ⟨15, [.obj [.data (.st 5)], .val (.data (.int .i64))], [.val (.data (.st 3))], fun x => self_expr_reader_part x.1 x.2⟩, ⟨27, [.obj [.data (.st 5)]], [.val (.data (.st 0))], fun x => read_Row_Look x⟩, ⟨28, [.val (.data .str)], [.val (.data (.int .i64)), .val (.data (.int .i64))], fun x => expr_sign x⟩], [], false, false, none, []⟩
noncomputable def expr_reader_part_L (self_expr_reader_part : expr_reader → Int → Option (api_Expr × expr_reader)) (k : Nat) : Nat → List (Lab S (api_Expr × expr_reader))
  | 0 => [⟨[0, 1, 4, 5], [.obj [.data (.sl (.st 0)), .data (.int .i64), .data (.int .i64), .data (.int .i64), .data (.int .i64)], .val (.data (.int .i64)), .obj [.data (.int .i64), .data (.int .i64), .data .str, .marr (.st 3), .data (.int .i64)], .obj [.data (.int .i64), .data (.int .i64), .data .str, .data (.sl (.st 3)), .data (.int .i64)]], fun x => expr_reader_part_l0 self_expr_reader_part k x.1.1 x.1.2.1 x.1.2.2.1 x.1.2.2.2.1 x.1.2.2.2.2 x.2.1 x.2.2.1.1 x.2.2.1.2.1 x.2.2.1.2.2.1 x.2.2.1.2.2.2.1 x.2.2.1.2.2.2.2 x.2.2.2.1 x.2.2.2.2.1 x.2.2.2.2.2.1 x.2.2.2.2.2.2.1 x.2.2.2.2.2.2.2, false⟩]
  | _ + 1 => []
theorem expr_reader_part_eq (self_expr_reader_part : expr_reader → Int → Option (api_Expr × expr_reader)) (k : Nat) (r_ : expr_reader) (level : Int) : expr_reader_part_b self_expr_reader_part k r_ level = exec S (expr_reader_part_T self_expr_reader_part) byt (labs S (expr_reader_part_T self_expr_reader_part) (expr_reader_part_L self_expr_reader_part k)) (ac [] Tryz.f15) (frame0 S [.obj [.data (.st 5)], .val (.data (.int .i64))] (r_, level)) (retK S (expr_reader_part_T self_expr_reader_part) Tryz.f15 [.obj [.data (.st 5)], .val (.data (.int .i64))] [.val (.data (.st 3))]) := by kernel_rfl
theorem expr_reader_part_vc (self_expr_reader_part : expr_reader → Int → Option (api_Expr × expr_reader)) (k : Nat) : VC S (expr_reader_part_T self_expr_reader_part) byt (expr_reader_part_L self_expr_reader_part k) (expr_reader_part_L self_expr_reader_part (k + 1)) (ac [] Tryz.f15) (retK S (expr_reader_part_T self_expr_reader_part) Tryz.f15 [.obj [.data (.st 5)], .val (.data (.int .i64))] [.val (.data (.st 3))]) = [∀ x : (List api_Token × Int × Int × Int × Int) × Int × (Int × Int × List UInt8 × List api_Expr × Int) × (Int × Int × List UInt8 × List api_Expr × Int), expr_reader_part_l0 self_expr_reader_part (k + 1) x.1.1 x.1.2.1 x.1.2.2.1 x.1.2.2.2.1 x.1.2.2.2.2 x.2.1 x.2.2.1.1 x.2.2.1.2.1 x.2.2.1.2.2.1 x.2.2.1.2.2.2.1 x.2.2.1.2.2.2.2 x.2.2.2.1 x.2.2.2.2.1 x.2.2.2.2.2.1 x.2.2.2.2.2.2.1 x.2.2.2.2.2.2.2 = expr_reader_part_l0 self_expr_reader_part (k + 1) x.1.1 x.1.2.1 x.1.2.2.1 x.1.2.2.2.1 x.1.2.2.2.2 x.2.1 x.2.2.1.1 x.2.2.1.2.1 x.2.2.1.2.2.1 x.2.2.1.2.2.2.1 x.2.2.1.2.2.2.2 x.2.2.2.1 x.2.2.2.2.1 x.2.2.2.2.2.1 x.2.2.2.2.2.2.1 x.2.2.2.2.2.2.2] := by kernel_rfl
theorem expr_reader_part_sndk (self_expr_reader_part : expr_reader → Int → Option (api_Expr × expr_reader)) (hself : Snd Tryz.prog S ⟨15, [.obj [.data (.st 5)], .val (.data (.int .i64))], [.val (.data (.st 3))], fun x => self_expr_reader_part x.1 x.2⟩) (k : Nat) : Snd Tryz.prog S ⟨15, [.obj [.data (.st 5)], .val (.data (.int .i64))], [.val (.data (.st 3))], fun x => expr_reader_part_b self_expr_reader_part k x.1 x.2⟩ :=
  fn_ok progOk (T := (expr_reader_part_T self_expr_reader_part)) (all_cons (expr_reader_signed_snd self_expr_reader_part hself) (all_cons hself (all_cons read_Row_Look_snd (all_cons expr_sign_snd (all_nil))))) (all_nil) (all_nil) mixed Tryz.func15 rfl (by kernel_rfl) (ac_code [] Tryz.f15 rfl) (L := expr_reader_part_L self_expr_reader_part)
    (fun n l h x => by match n, h with
        | 0, h => 
          rcases List.mem_cons.1 h with rfl | h
          · rfl
          cases h
        | _ + 1, h => cases h) (fun k n l h => by match n, h with
        | 0, h => 
          rcases List.mem_cons.1 h with rfl | h
          · rfl
          cases h
        | _ + 1, h => cases h)
    (fun k => All.mem (expr_reader_part_vc self_expr_reader_part k) ⟨fun _ => rfl, trivial⟩) (fun x r h => ⟨k, (expr_reader_part_eq self_expr_reader_part k x.1 x.2).symm.trans h⟩) (by kernel_rfl) (by kernel_rfl) (Nat.le_of_ble_eq_true (by kernel_rfl)) (by kernel_rfl)
theorem expr_reader_part_sndf : ∀ k, Snd Tryz.prog S ⟨15, [.obj [.data (.st 5)], .val (.data (.int .i64))], [.val (.data (.st 3))], fun x => expr_reader_part_f k x.1 x.2⟩
  | 0 => Snd.none ⟨_, Tryz.func15, by kernel_rfl, by kernel_rfl⟩ fun _ => rfl
  | k + 1 => expr_reader_part_sndk (expr_reader_part_f k) (expr_reader_part_sndf k) k
theorem expr_reader_part_snd : Snd Tryz.prog S ⟨15, [.obj [.data (.st 5)], .val (.data (.int .i64))], [.val (.data (.st 3))], fun x => expr_reader_part x.1 x.2⟩ := Snd.lim (expr_reader_part_sndf)
/-! ### 7 cotillion/expr.Parse -/
noncomputable def expr_Parse  (l : List api_Token) (v_at : Int) : Option (api_Expr × Int × api_Fault) := (expr_reader_part (expr_reader.mk (read_Row.mk l v_at (api_Fault.mk 0 0)) 0) 1).bind fun r1 =>
    (read_Row_OK r1.2).bind fun r2 =>
    bif !r2.1 then
    some (api_Expr.mk 0 0 [] [] 0, 0, r2.2.Row.Fault) else
    some (api_Expr.mk r1.1.Kind r1.1.N r1.1.Name r1.1.Kids r1.1.At, r2.2.Row.At, api_Fault.mk 0 0)
noncomputable abbrev expr_Parse_T : Tab S := ⟨[⟨15, [.obj [.data (.st 5)], .val (.data (.int .i64))], [.val (.data (.st 3))], fun x => expr_reader_part x.1 x.2⟩, ⟨16, [.obj [.data (.st 5)]], [.val (.data .bool)], fun x => read_Row_OK x⟩], [], false, false, none, []⟩
noncomputable def expr_Parse_L (k : Nat) : Nat → List (Lab S (api_Expr × Int × api_Fault))
  | _ => []
theorem expr_Parse_eq (k : Nat) (l : List api_Token) (v_at : Int) : expr_Parse l v_at = exec S (expr_Parse_T) byt (labs S (expr_Parse_T) (expr_Parse_L k)) (ac [] Tryz.f7) (frame0 S [.val (.data (.sl (.st 0))), .val (.data (.int .i64))] (l, v_at)) (retK S (expr_Parse_T) Tryz.f7 [.val (.data (.sl (.st 0))), .val (.data (.int .i64))] [.val (.data (.st 3)), .val (.data (.int .i64)), .val (.data (.st 1))]) := by kernel_rfl
theorem expr_Parse_vc (k : Nat) : VC S (expr_Parse_T) byt (expr_Parse_L k) (expr_Parse_L (k + 1)) (ac [] Tryz.f7) (retK S (expr_Parse_T) Tryz.f7 [.val (.data (.sl (.st 0))), .val (.data (.int .i64))] [.val (.data (.st 3)), .val (.data (.int .i64)), .val (.data (.st 1))]) = [] := by kernel_rfl
theorem expr_Parse_snd : Snd Tryz.prog S ⟨7, [.val (.data (.sl (.st 0))), .val (.data (.int .i64))], [.val (.data (.st 3)), .val (.data (.int .i64)), .val (.data (.st 1))], fun x => expr_Parse x.1 x.2⟩ :=
  fn_ok progOk (T := (expr_Parse_T)) (all_cons expr_reader_part_snd (all_cons read_Row_OK_snd (all_nil))) (all_nil) (all_nil) mixed Tryz.func7 rfl (by kernel_rfl) (ac_code [] Tryz.f7 rfl) (L := expr_Parse_L)
    (fun n l h x => by cases h) (fun k n l h => by cases h)
    (fun k => All.mem (expr_Parse_vc k) trivial) (fun x r h => ⟨0, (expr_Parse_eq 0 x.1 x.2).symm.trans h⟩) (by kernel_rfl) (by kernel_rfl) (Nat.le_of_ble_eq_true (by kernel_rfl)) (by kernel_rfl)
/-! ### 12 cotillion/cotillionlaw7.read -/
noncomputable def law7_read  (s : List UInt8) : Option (api_Expr × Bool) := (lex_All s).bind fun r1 =>
    if r1.2.Code ≠ 0 then
    some (api_Expr.mk 0 0 [] [] 0, false) else
    (expr_Parse r1.1 0).bind fun r2 =>
    if r2.2.2.Code = 0 then
    some (api_Expr.mk r2.1.Kind r2.1.N r2.1.Name r2.1.Kids r2.1.At, decide (r2.2.1 = (w64 ((r1.1.length : Int) - 1)))) else
    some (api_Expr.mk r2.1.Kind r2.1.N r2.1.Name r2.1.Kids r2.1.At, false)
noncomputable abbrev law7_read_T : Tab S := ⟨[⟨22, [.val (.data .str)], [.val (.town (.st 0)), .val (.data (.st 1))], fun x => lex_All x⟩, ⟨7, [.val (.data (.sl (.st 0))), .val (.data (.int .i64))], [.val (.data (.st 3)), .val (.data (.int .i64)), .val (.data (.st 1))], fun x => expr_Parse x.1 x.2⟩], [], false, false, none, []⟩
noncomputable def law7_read_L (k : Nat) : Nat → List (Lab S (api_Expr × Bool))
  | _ => []
theorem law7_read_eq (k : Nat) (s : List UInt8) : law7_read s = exec S (law7_read_T) byt (labs S (law7_read_T) (law7_read_L k)) (ac [] Tryz.f12) (frame0 S [.val (.data .str)] s) (retK S (law7_read_T) Tryz.f12 [.val (.data .str)] [.val (.data (.st 3)), .val (.data .bool)]) := by kernel_rfl
theorem law7_read_vc (k : Nat) : VC S (law7_read_T) byt (law7_read_L k) (law7_read_L (k + 1)) (ac [] Tryz.f12) (retK S (law7_read_T) Tryz.f12 [.val (.data .str)] [.val (.data (.st 3)), .val (.data .bool)]) = [] := by kernel_rfl
theorem law7_read_snd : Snd Tryz.prog S ⟨12, [.val (.data .str)], [.val (.data (.st 3)), .val (.data .bool)], fun x => law7_read x⟩ :=
  fn_ok progOk (T := (law7_read_T)) (all_cons lex_All_snd (all_cons expr_Parse_snd (all_nil))) (all_nil) (all_nil) mixed Tryz.func12 rfl (by kernel_rfl) (ac_code [] Tryz.f12 rfl) (L := law7_read_L)
    (fun n l h x => by cases h) (fun k n l h => by cases h)
    (fun k => All.mem (law7_read_vc k) trivial) (fun x r h => ⟨0, (law7_read_eq 0 x).symm.trans h⟩) (by kernel_rfl) (by kernel_rfl) (Nat.le_of_ble_eq_true (by kernel_rfl)) (by kernel_rfl)
/-! ### 38 cotillion/expr.between -/
noncomputable def expr_between_l0 : Nat → Int → (List UInt8 × List UInt8 × List UInt8 × List UInt8 × List UInt8 × List UInt8 × List UInt8 × List UInt8 × List UInt8 × List UInt8 × List UInt8 × List UInt8 × List UInt8) → Int → Option (List UInt8 × Int)
  | 0, _, _, _ => none
  | k + 1, kind, x8, x9 => if x9 < 13 then
    if 0 ≤ x9 then
    if x9 < ([x8.1, x8.2.1, x8.2.2.1, x8.2.2.2.1, x8.2.2.2.2.1, x8.2.2.2.2.2.1, x8.2.2.2.2.2.2.1, x8.2.2.2.2.2.2.2.1, x8.2.2.2.2.2.2.2.2.1, x8.2.2.2.2.2.2.2.2.2.1, x8.2.2.2.2.2.2.2.2.2.2.1, x8.2.2.2.2.2.2.2.2.2.2.2.1, x8.2.2.2.2.2.2.2.2.2.2.2.2].length : Int) then
    (expr_sign ([x8.1, x8.2.1, x8.2.2.1, x8.2.2.2.1, x8.2.2.2.2.1, x8.2.2.2.2.2.1, x8.2.2.2.2.2.2.1, x8.2.2.2.2.2.2.2.1, x8.2.2.2.2.2.2.2.2.1, x8.2.2.2.2.2.2.2.2.2.1, x8.2.2.2.2.2.2.2.2.2.2.1, x8.2.2.2.2.2.2.2.2.2.2.2.1, x8.2.2.2.2.2.2.2.2.2.2.2.2].getD x9.toNat [])).bind fun r1 =>
    if r1.1 = kind then
    some ([x8.1, x8.2.1, x8.2.2.1, x8.2.2.2.1, x8.2.2.2.2.1, x8.2.2.2.2.2.1, x8.2.2.2.2.2.2.1, x8.2.2.2.2.2.2.2.1, x8.2.2.2.2.2.2.2.2.1, x8.2.2.2.2.2.2.2.2.2.1, x8.2.2.2.2.2.2.2.2.2.2.1, x8.2.2.2.2.2.2.2.2.2.2.2.1, x8.2.2.2.2.2.2.2.2.2.2.2.2].getD x9.toNat [], r1.2) else
    expr_between_l0 k kind x8 (w64 (x9 + 1)) else none else none else
    some ([], 0)
noncomputable def expr_between_f (k : Nat) (kind : Int) : Option (List UInt8 × Int) := expr_between_l0 k kind arr_x03b7b 0
noncomputable def expr_between  (kind : Int) : Option (List UInt8 × Int) := lim (fun k (x : Int) => expr_between_f k x) kind
noncomputable abbrev expr_between_T : Tab S := ⟨[⟨28, [.val (.data .str)], [.val (.data (.int .i64)), .val (.data (.int .i64))], fun x => expr_sign x⟩], [], false, false, none, []⟩
noncomputable def expr_between_L (k : Nat) : Nat → List (Lab S (List UInt8 × Int))
  | 0 => [⟨[0, 8, 9], [.val (.data (.int .i64)), .val (.data (.st 7)), .val (.data (.int .i64))], fun x => expr_between_l0 k x.1 x.2.1 x.2.2, false⟩]
  | _ + 1 => []
theorem expr_between_eq (k : Nat) (kind : Int) : expr_between_f k kind = exec S (expr_between_T) byt (labs S (expr_between_T) (expr_between_L k)) (ac [] Tryz.f38) (frame0 S [.val (.data (.int .i64))] kind) (retK S (expr_between_T) Tryz.f38 [.val (.data (.int .i64))] [.val (.data .str), .val (.data (.int .i64))]) := by kernel_rfl
theorem expr_between_vc (k : Nat) : VC S (expr_between_T) byt (expr_between_L k) (expr_between_L (k + 1)) (ac [] Tryz.f38) (retK S (expr_between_T) Tryz.f38 [.val (.data (.int .i64))] [.val (.data .str), .val (.data (.int .i64))]) = [∀ x : Int × (List UInt8 × List UInt8 × List UInt8 × List UInt8 × List UInt8 × List UInt8 × List UInt8 × List UInt8 × List UInt8 × List UInt8 × List UInt8 × List UInt8 × List UInt8) × Int, expr_between_l0 (k + 1) x.1 x.2.1 x.2.2 = expr_between_l0 (k + 1) x.1 x.2.1 x.2.2] := by kernel_rfl
theorem expr_between_sndk (k : Nat) : Snd Tryz.prog S ⟨38, [.val (.data (.int .i64))], [.val (.data .str), .val (.data (.int .i64))], fun x => expr_between_f k x⟩ :=
  fn_ok progOk (T := (expr_between_T)) (all_cons expr_sign_snd (all_nil)) (all_nil) (all_nil) mixed Tryz.func38 rfl (by kernel_rfl) (ac_code [] Tryz.f38 rfl) (L := expr_between_L)
    (fun n l h x => by match n, h with
        | 0, h => 
          rcases List.mem_cons.1 h with rfl | h
          · rfl
          cases h
        | _ + 1, h => cases h) (fun k n l h => by match n, h with
        | 0, h => 
          rcases List.mem_cons.1 h with rfl | h
          · rfl
          cases h
        | _ + 1, h => cases h)
    (fun k => All.mem (expr_between_vc k) ⟨fun _ => rfl, trivial⟩) (fun x r h => ⟨k, (expr_between_eq k x).symm.trans h⟩) (by kernel_rfl) (by kernel_rfl) (Nat.le_of_ble_eq_true (by kernel_rfl)) (by kernel_rfl)
theorem expr_between_snd : Snd Tryz.prog S ⟨38, [.val (.data (.int .i64))], [.val (.data .str), .val (.data (.int .i64))], fun x => expr_between x⟩ := Snd.lim (expr_between_sndk)
/-! ### 33 cotillion/expr.level -/
noncomputable def expr_level  (kind : Int) : Option Int := if kind = 5 then
    some 6 else
    if kind = 6 then
    some 6 else
    (expr_between kind).bind fun r1 =>
    if 0 < r1.2 then
    some r1.2 else
    some 7
noncomputable abbrev expr_level_T : Tab S := ⟨[⟨38, [.val (.data (.int .i64))], [.val (.data .str), .val (.data (.int .i64))], fun x => expr_between x⟩], [], false, false, none, []⟩
noncomputable def expr_level_L (k : Nat) : Nat → List (Lab S Int)
  | _ => []
theorem expr_level_eq (k : Nat) (kind : Int) : expr_level kind = exec S (expr_level_T) byt (labs S (expr_level_T) (expr_level_L k)) (ac [] Tryz.f33) (frame0 S [.val (.data (.int .i64))] kind) (retK S (expr_level_T) Tryz.f33 [.val (.data (.int .i64))] [.val (.data (.int .i64))]) := by kernel_rfl
theorem expr_level_vc (k : Nat) : VC S (expr_level_T) byt (expr_level_L k) (expr_level_L (k + 1)) (ac [] Tryz.f33) (retK S (expr_level_T) Tryz.f33 [.val (.data (.int .i64))] [.val (.data (.int .i64))]) = [] := by kernel_rfl
theorem expr_level_snd : Snd Tryz.prog S ⟨33, [.val (.data (.int .i64))], [.val (.data (.int .i64))], fun x => expr_level x⟩ :=
  fn_ok progOk (T := (expr_level_T)) (all_cons expr_between_snd (all_nil)) (all_nil) (all_nil) mixed Tryz.func33 rfl (by kernel_rfl) (ac_code [] Tryz.f33 rfl) (L := expr_level_L)
    (fun n l h x => by cases h) (fun k n l h => by cases h)
    (fun k => All.mem (expr_level_vc k) trivial) (fun x r h => ⟨0, (expr_level_eq 0 x).symm.trans h⟩) (by kernel_rfl) (by kernel_rfl) (Nat.le_of_ble_eq_true (by kernel_rfl)) (by kernel_rfl)
/-! ### 37 cotillion/expr.places -/
noncomputable def expr_places  (kind : Int) : Option (List Int) := (expr_level kind).bind fun r1 =>
    if r1 = 7 then
    some [] else
    if r1 = 6 then
    some [6] else
    if r1 = 3 then
    some [4, 4] else
    some [r1, w64 (r1 + 1)]
noncomputable abbrev expr_places_T : Tab S := ⟨[⟨33, [.val (.data (.int .i64))], [.val (.data (.int .i64))], fun x => expr_level x⟩], [], false, false, none, []⟩
noncomputable def expr_places_L (k : Nat) : Nat → List (Lab S (List Int))
  | _ => []
theorem expr_places_eq (k : Nat) (kind : Int) : expr_places kind = exec S (expr_places_T) byt (labs S (expr_places_T) (expr_places_L k)) (ac [] Tryz.f37) (frame0 S [.val (.data (.int .i64))] kind) (retK S (expr_places_T) Tryz.f37 [.val (.data (.int .i64))] [.val (.data (.sl (.int .i64)))]) := by kernel_rfl
theorem expr_places_vc (k : Nat) : VC S (expr_places_T) byt (expr_places_L k) (expr_places_L (k + 1)) (ac [] Tryz.f37) (retK S (expr_places_T) Tryz.f37 [.val (.data (.int .i64))] [.val (.data (.sl (.int .i64)))]) = [] := by kernel_rfl
theorem expr_places_snd : Snd Tryz.prog S ⟨37, [.val (.data (.int .i64))], [.val (.data (.sl (.int .i64)))], fun x => expr_places x⟩ :=
  fn_ok progOk (T := (expr_places_T)) (all_cons expr_level_snd (all_nil)) (all_nil) (all_nil) mixed Tryz.func37 rfl (by kernel_rfl) (ac_code [] Tryz.f37 rfl) (L := expr_places_L)
    (fun n l h x => by cases h) (fun k n l h => by cases h)
    (fun k => All.mem (expr_places_vc k) trivial) (fun x r h => ⟨0, (expr_places_eq 0 x).symm.trans h⟩) (by kernel_rfl) (by kernel_rfl) (Nat.le_of_ble_eq_true (by kernel_rfl)) (by kernel_rfl)
/-! ### 23 cotillion/expr.write -/
noncomputable def expr_write_l0 (self_expr_write : (List UInt8) → api_Expr → Int → Option (List UInt8)) : Nat → (List UInt8) → Int → Int → (List UInt8) → (List api_Expr) → Int → (List Int) → Int → Int → Option (List UInt8)
  | 0, _, _, _, _, _, _, _, _, _ => none
  | k + 1, b, e_Kind, e_N, e_Name, e_Kids, e_At, x55, x56, x57 => if x57 < x56 then
    if 0 ≤ x57 then
    if x57 < (x55.length : Int) then
    if (e_Kids.length : Int) ≤ x57 then
    (bldByte b 41).bind fun r31 =>
    some r31.2 else
    if 0 < x57 then
    (expr_between e_Kind).bind fun r32 =>
    if s_sp.length + r32.1.length ≤ 9223372036854775807 then
    if (s_sp ++ r32.1).length + s_sp.length ≤ 9223372036854775807 then
    (bldStr b ((s_sp ++ r32.1) ++ s_sp)).bind fun r33 =>
    if 0 ≤ x57 then
    if x57 < (e_Kids.length : Int) then
    (self_expr_write r33.2.2 (e_Kids.getD x57.toNat api_Expr.z) (x55.getD x57.toNat 0)).bind fun r34 =>
    expr_write_l0 self_expr_write k r34 e_Kind e_N e_Name e_Kids e_At x55 x56 (w64 (x57 + 1)) else none else none else none else none else
    if 0 ≤ x57 then
    if x57 < (e_Kids.length : Int) then
    (self_expr_write b (e_Kids.getD x57.toNat api_Expr.z) (x55.getD x57.toNat 0)).bind fun r35 =>
    expr_write_l0 self_expr_write k r35 e_Kind e_N e_Name e_Kids e_At x55 x56 (w64 (x57 + 1)) else none else none else none else none else
    (bldByte b 41).bind fun r36 =>
    some r36.2
noncomputable def expr_write_l0b (self_expr_write : (List UInt8) → api_Expr → Int → Option (List UInt8)) : Nat → (List UInt8) → Int → Int → (List UInt8) → (List api_Expr) → Int → (List Int) → Int → Int → Option (List UInt8)
  | 0, _, _, _, _, _, _, _, _, _ => none
  | k + 1, b, e_Kind, e_N, e_Name, e_Kids, e_At, x55, x56, x57 => if x57 < x56 then
    if 0 ≤ x57 then
    if x57 < (x55.length : Int) then
    if (e_Kids.length : Int) ≤ x57 then
    some b else
    if 0 < x57 then
    (expr_between e_Kind).bind fun r37 =>
    if s_sp.length + r37.1.length ≤ 9223372036854775807 then
    if (s_sp ++ r37.1).length + s_sp.length ≤ 9223372036854775807 then
    (bldStr b ((s_sp ++ r37.1) ++ s_sp)).bind fun r38 =>
    if 0 ≤ x57 then
    if x57 < (e_Kids.length : Int) then
    (self_expr_write r38.2.2 (e_Kids.getD x57.toNat api_Expr.z) (x55.getD x57.toNat 0)).bind fun r39 =>
    expr_write_l0b self_expr_write k r39 e_Kind e_N e_Name e_Kids e_At x55 x56 (w64 (x57 + 1)) else none else none else none else none else
    if 0 ≤ x57 then
    if x57 < (e_Kids.length : Int) then
    (self_expr_write b (e_Kids.getD x57.toNat api_Expr.z) (x55.getD x57.toNat 0)).bind fun r40 =>
    expr_write_l0b self_expr_write k r40 e_Kind e_N e_Name e_Kids e_At x55 x56 (w64 (x57 + 1)) else none else none else none else none else
    some b
noncomputable def expr_write_b (self_expr_write : (List UInt8) → api_Expr → Int → Option (List UInt8)) (k : Nat) (b : List UInt8) (e : api_Expr) (asked : Int) : Option (List UInt8) := (expr_level e.Kind).bind fun r1 =>
    if r1 < asked then
    (bldByte b 40).bind fun r2 =>
    if e.Kind = 1 then
    (p_FormatInt e.N 10).bind fun r3 =>
    (bldStr r2.2 r3).bind fun r4 =>
    (expr_places e.Kind).bind fun r5 =>
    expr_write_l0 self_expr_write k r4.2.2 e.Kind e.N e.Name e.Kids e.At r5 (r5.length : Int) 0 else
    if e.Kind = 3 then
    (bldByte r2.2 36).bind fun r6 =>
    (expr_places e.Kind).bind fun r7 =>
    expr_write_l0 self_expr_write k r6.2 e.Kind e.N e.Name e.Kids e.At r7 (r7.length : Int) 0 else
    if e.Kind = 2 then
    (bldStr r2.2 e.Name).bind fun r8 =>
    (expr_places e.Kind).bind fun r9 =>
    expr_write_l0 self_expr_write k r8.2.2 e.Kind e.N e.Name e.Kids e.At r9 (r9.length : Int) 0 else
    if e.Kind = 4 then
    if s_in_xcc76e.length + e.Name.length ≤ 9223372036854775807 then
    if (s_in_xcc76e ++ e.Name).length + s_rp.length ≤ 9223372036854775807 then
    (bldStr r2.2 ((s_in_xcc76e ++ e.Name) ++ s_rp)).bind fun r10 =>
    (expr_places e.Kind).bind fun r11 =>
    expr_write_l0 self_expr_write k r10.2.2 e.Kind e.N e.Name e.Kids e.At r11 (r11.length : Int) 0 else none else none else
    if e.Kind = 5 then
    (bldByte r2.2 45).bind fun r12 =>
    (expr_places e.Kind).bind fun r13 =>
    expr_write_l0 self_expr_write k r12.2 e.Kind e.N e.Name e.Kids e.At r13 (r13.length : Int) 0 else
    if e.Kind = 6 then
    (bldByte r2.2 33).bind fun r14 =>
    (expr_places e.Kind).bind fun r15 =>
    expr_write_l0 self_expr_write k r14.2 e.Kind e.N e.Name e.Kids e.At r15 (r15.length : Int) 0 else
    (expr_places e.Kind).bind fun r16 =>
    expr_write_l0 self_expr_write k r2.2 e.Kind e.N e.Name e.Kids e.At r16 (r16.length : Int) 0 else
    if e.Kind = 1 then
    (p_FormatInt e.N 10).bind fun r17 =>
    (bldStr b r17).bind fun r18 =>
    (expr_places e.Kind).bind fun r19 =>
    expr_write_l0b self_expr_write k r18.2.2 e.Kind e.N e.Name e.Kids e.At r19 (r19.length : Int) 0 else
    if e.Kind = 3 then
    (bldByte b 36).bind fun r20 =>
    (expr_places e.Kind).bind fun r21 =>
    expr_write_l0b self_expr_write k r20.2 e.Kind e.N e.Name e.Kids e.At r21 (r21.length : Int) 0 else
    if e.Kind = 2 then
    (bldStr b e.Name).bind fun r22 =>
    (expr_places e.Kind).bind fun r23 =>
    expr_write_l0b self_expr_write k r22.2.2 e.Kind e.N e.Name e.Kids e.At r23 (r23.length : Int) 0 else
    if e.Kind = 4 then
    if s_in_xcc76e.length + e.Name.length ≤ 9223372036854775807 then
    if (s_in_xcc76e ++ e.Name).length + s_rp.length ≤ 9223372036854775807 then
    (bldStr b ((s_in_xcc76e ++ e.Name) ++ s_rp)).bind fun r24 =>
    (expr_places e.Kind).bind fun r25 =>
    expr_write_l0b self_expr_write k r24.2.2 e.Kind e.N e.Name e.Kids e.At r25 (r25.length : Int) 0 else none else none else
    if e.Kind = 5 then
    (bldByte b 45).bind fun r26 =>
    (expr_places e.Kind).bind fun r27 =>
    expr_write_l0b self_expr_write k r26.2 e.Kind e.N e.Name e.Kids e.At r27 (r27.length : Int) 0 else
    if e.Kind = 6 then
    (bldByte b 33).bind fun r28 =>
    (expr_places e.Kind).bind fun r29 =>
    expr_write_l0b self_expr_write k r28.2 e.Kind e.N e.Name e.Kids e.At r29 (r29.length : Int) 0 else
    (expr_places e.Kind).bind fun r30 =>
    expr_write_l0b self_expr_write k b e.Kind e.N e.Name e.Kids e.At r30 (r30.length : Int) 0
noncomputable def expr_write_f : Nat → (List UInt8) → api_Expr → Int → Option (List UInt8)
  | 0, _, _, _ => none
  | k + 1, x0, x1, x2 => expr_write_b (expr_write_f k) k x0 x1 x2
noncomputable def expr_write  (b : List UInt8) (e : api_Expr) (asked : Int) : Option (List UInt8) := lim (fun k (x : List UInt8 × api_Expr × Int) => expr_write_f k x.1 x.2.1 x.2.2) (b, e, asked)
noncomputable abbrev expr_write_T (self_expr_write : (List UInt8) → api_Expr → Int → Option (List UInt8)) : Tab S := ⟨[⟨33, [.val (.data (.int .i64))], [.val (.data (.int .i64))], fun x => expr_level x⟩, ⟨34, [.bld, .val (.data (.int .u8))], [.err], fun x => bldByte x.1 x.2⟩, ⟨36, [.val (.data (.int .i64)), .val (.data (.int .i64))], [.val (.data .str)], fun x => p_FormatInt x.1 x.2⟩, ⟨35, [.bld, .val (.data .str)], [.val (.data (.int .i64)), .err], fun x => bldStr x.1 x.2⟩, ⟨37, [.val (.data (.int .i64))], [.val (.data (.sl (.int .i64)))], fun x => expr_places x⟩, ⟨38, [.val (.data (.int .i64))], [.val (.data .str), .val (.data (.int .i64))], fun x => expr_between x⟩, ⟨23, [.bld, .val (.data (.st 3)), .val (.data (.int .i64))], [], fun x => self_expr_write x.1 x.2.1 x.2.2⟩], [], false, false, some (34, [.tmp 0, .const (.int .u8 41)]), [⟨34, [.bld, .val (.data (.int .u8))], [.err], fun x => bldByte x.1 x.2⟩]⟩
noncomputable def expr_write_L (self_expr_write : (List UInt8) → api_Expr → Int → Option (List UInt8)) (k : Nat) : Nat → List (Lab S (List UInt8))
  | 0 => [⟨[0, 4, 55, 56, 57], [.bld, .obj [.data (.int .i64), .data (.int .i64), .data .str, .data (.sl (.st 3)), .data (.int .i64)], .val (.data (.sl (.int .i64))), .val (.data (.int .i64)), .val (.data (.int .i64))], fun x => expr_write_l0 self_expr_write k x.1 x.2.1.1 x.2.1.2.1 x.2.1.2.2.1 x.2.1.2.2.2.1 x.2.1.2.2.2.2 x.2.2.1 x.2.2.2.1 x.2.2.2.2, true⟩, ⟨[0, 4, 55, 56, 57], [.bld, .obj [.data (.int .i64), .data (.int .i64), .data .str, .data (.sl (.st 3)), .data (.int .i64)], .val (.data (.sl (.int .i64))), .val (.data (.int .i64)), .val (.data (.int .i64))], fun x => expr_write_l0b self_expr_write k x.1 x.2.1.1 x.2.1.2.1 x.2.1.2.2.1 x.2.1.2.2.2.1 x.2.1.2.2.2.2 x.2.2.1 x.2.2.2.1 x.2.2.2.2, false⟩]
  | _ + 1 => []
theorem expr_write_eq (self_expr_write : (List UInt8) → api_Expr → Int → Option (List UInt8)) (k : Nat) (b : List UInt8) (e : api_Expr) (asked : Int) : expr_write_b self_expr_write k b e asked = exec S (expr_write_T self_expr_write) byt (labs S (expr_write_T self_expr_write) (expr_write_L self_expr_write k)) (ac [] Tryz.f23) (frame0 S [.bld, .val (.data (.st 3)), .val (.data (.int .i64))] (b, e, asked)) (retK S (expr_write_T self_expr_write) Tryz.f23 [.bld, .val (.data (.st 3)), .val (.data (.int .i64))] []) := by kernel_rfl
theorem expr_write_vc (self_expr_write : (List UInt8) → api_Expr → Int → Option (List UInt8)) (k : Nat) : VC S (expr_write_T self_expr_write) byt (expr_write_L self_expr_write k) (expr_write_L self_expr_write (k + 1)) (ac [] Tryz.f23) (retK S (expr_write_T self_expr_write) Tryz.f23 [.bld, .val (.data (.st 3)), .val (.data (.int .i64))] []) = [∀ x : List UInt8 × (Int × Int × List UInt8 × List api_Expr × Int) × List Int × Int × Int, expr_write_l0 self_expr_write (k + 1) x.1 x.2.1.1 x.2.1.2.1 x.2.1.2.2.1 x.2.1.2.2.2.1 x.2.1.2.2.2.2 x.2.2.1 x.2.2.2.1 x.2.2.2.2 = expr_write_l0 self_expr_write (k + 1) x.1 x.2.1.1 x.2.1.2.1 x.2.1.2.2.1 x.2.1.2.2.2.1 x.2.1.2.2.2.2 x.2.2.1 x.2.2.2.1 x.2.2.2.2, ∀ x : List UInt8 × (Int × Int × List UInt8 × List api_Expr × Int) × List Int × Int × Int, expr_write_l0b self_expr_write (k + 1) x.1 x.2.1.1 x.2.1.2.1 x.2.1.2.2.1 x.2.1.2.2.2.1 x.2.1.2.2.2.2 x.2.2.1 x.2.2.2.1 x.2.2.2.2 = expr_write_l0b self_expr_write (k + 1) x.1 x.2.1.1 x.2.1.2.1 x.2.1.2.2.1 x.2.1.2.2.2.1 x.2.1.2.2.2.2 x.2.2.1 x.2.2.2.1 x.2.2.2.2] := by kernel_rfl
theorem expr_write_sndk (self_expr_write : (List UInt8) → api_Expr → Int → Option (List UInt8)) (hself : Snd Tryz.prog S ⟨23, [.bld, .val (.data (.st 3)), .val (.data (.int .i64))], [], fun x => self_expr_write x.1 x.2.1 x.2.2⟩) (k : Nat) : Snd Tryz.prog S ⟨23, [.bld, .val (.data (.st 3)), .val (.data (.int .i64))], [], fun x => expr_write_b self_expr_write k x.1 x.2.1 x.2.2⟩ :=
  fn_ok progOk (T := (expr_write_T self_expr_write)) (all_cons expr_level_snd (all_cons p_bldByte_snd34 (all_cons p_FormatInt_snd36 (all_cons p_bldStr_snd35 (all_cons expr_places_snd (all_cons expr_between_snd (all_cons hself (all_nil)))))))) (all_cons p_bldByte_sndD34 (all_nil)) (all_nil) mixed Tryz.func23 rfl (by kernel_rfl) (ac_code [] Tryz.f23 rfl) (L := expr_write_L self_expr_write)
    (fun n l h x => by match n, h with
        | 0, h => 
          rcases List.mem_cons.1 h with rfl | h
          · rfl
          rcases List.mem_cons.1 h with rfl | h
          · rfl
          cases h
        | _ + 1, h => cases h) (fun k n l h => by match n, h with
        | 0, h => 
          rcases List.mem_cons.1 h with rfl | h
          · rfl
          rcases List.mem_cons.1 h with rfl | h
          · rfl
          cases h
        | _ + 1, h => cases h)
    (fun k => All.mem (expr_write_vc self_expr_write k) ⟨fun _ => rfl, ⟨fun _ => rfl, trivial⟩⟩) (fun x r h => ⟨k, (expr_write_eq self_expr_write k x.1 x.2.1 x.2.2).symm.trans h⟩) (by kernel_rfl) (by kernel_rfl) (Nat.le_of_ble_eq_true (by kernel_rfl)) (by kernel_rfl)
theorem expr_write_sndf : ∀ k, Snd Tryz.prog S ⟨23, [.bld, .val (.data (.st 3)), .val (.data (.int .i64))], [], fun x => expr_write_f k x.1 x.2.1 x.2.2⟩
  | 0 => Snd.none ⟨_, Tryz.func23, by kernel_rfl, by kernel_rfl⟩ fun _ => rfl
  | k + 1 => expr_write_sndk (expr_write_f k) (expr_write_sndf k) k
theorem expr_write_snd : Snd Tryz.prog S ⟨23, [.bld, .val (.data (.st 3)), .val (.data (.int .i64))], [], fun x => expr_write x.1 x.2.1 x.2.2⟩ := Snd.lim (expr_write_sndf)
/-! ### 13 cotillion/expr.Print -/
noncomputable def expr_Print  (e : api_Expr) : Option (List UInt8) := (expr_write [] (api_Expr.mk e.Kind e.N e.Name e.Kids e.At) 1).bind fun r1 =>
    (bldRead r1).bind fun r2 =>
    some r2.1
noncomputable abbrev expr_Print_T : Tab S := ⟨[⟨23, [.bld, .val (.data (.st 3)), .val (.data (.int .i64))], [], fun x => expr_write x.1 x.2.1 x.2.2⟩, ⟨24, [.bld], [.val (.data .str)], fun x => bldRead x⟩], [], false, false, none, []⟩
noncomputable def expr_Print_L (k : Nat) : Nat → List (Lab S (List UInt8))
  | _ => []
theorem expr_Print_eq (k : Nat) (e : api_Expr) : expr_Print e = exec S (expr_Print_T) byt (labs S (expr_Print_T) (expr_Print_L k)) (ac [] Tryz.f13) (frame0 S [.val (.data (.st 3))] e) (retK S (expr_Print_T) Tryz.f13 [.val (.data (.st 3))] [.val (.data .str)]) := by kernel_rfl
theorem expr_Print_vc (k : Nat) : VC S (expr_Print_T) byt (expr_Print_L k) (expr_Print_L (k + 1)) (ac [] Tryz.f13) (retK S (expr_Print_T) Tryz.f13 [.val (.data (.st 3))] [.val (.data .str)]) = [] := by kernel_rfl
theorem expr_Print_snd : Snd Tryz.prog S ⟨13, [.val (.data (.st 3))], [.val (.data .str)], fun x => expr_Print x⟩ :=
  fn_ok progOk (T := (expr_Print_T)) (all_cons expr_write_snd (all_cons p_bldRead_snd24 (all_nil))) (all_nil) (all_nil) mixed Tryz.func13 rfl (by kernel_rfl) (ac_code [] Tryz.f13 rfl) (L := expr_Print_L)
    (fun n l h x => by cases h) (fun k n l h => by cases h)
    (fun k => All.mem (expr_Print_vc k) trivial) (fun x r h => ⟨0, (expr_Print_eq 0 x).symm.trans h⟩) (by kernel_rfl) (by kernel_rfl) (Nat.le_of_ble_eq_true (by kernel_rfl)) (by kernel_rfl)
/-! ### 54 cotillion/lex.Name -/
noncomputable def lex_Name  (s : List UInt8) : Option Bool := if s = [] then
    some false else
    if 24 < (s.length : Int) then
    some false else
    (lex_Reserved s).bind fun r1 =>
    bif r1 then
    some false else
    if (0 : Int) ≤ 0 then
    if 0 < (s.length : Int) then
    (lex_kind ((s.getD (0 : Int).toNat 0).toNat : Int)).bind fun r2 =>
    bif !r2.2 then
    (lex_end s 0).bind fun r3 =>
    some (decide (r3 = (s.length : Int))) else
    some false else none else none
noncomputable abbrev lex_Name_T : Tab S := ⟨[⟨73, [.val (.data .str)], [.val (.data .bool)], fun x => lex_Reserved x⟩, ⟨48, [.val (.data (.int .u8))], [.val (.data .bool), .val (.data .bool)], fun x => lex_kind x⟩, ⟨49, [.val (.data .str), .val (.data (.int .i64))], [.val (.data (.int .i64))], fun x => lex_end x.1 x.2⟩], [], false, false, none, []⟩
noncomputable def lex_Name_L (k : Nat) : Nat → List (Lab S Bool)
  | _ => []
theorem lex_Name_eq (k : Nat) (s : List UInt8) : lex_Name s = exec S (lex_Name_T) byt (labs S (lex_Name_T) (lex_Name_L k)) (ac [] Tryz.f54) (frame0 S [.val (.data .str)] s) (retK S (lex_Name_T) Tryz.f54 [.val (.data .str)] [.val (.data .bool)]) := by kernel_rfl
theorem lex_Name_vc (k : Nat) : VC S (lex_Name_T) byt (lex_Name_L k) (lex_Name_L (k + 1)) (ac [] Tryz.f54) (retK S (lex_Name_T) Tryz.f54 [.val (.data .str)] [.val (.data .bool)]) = [] := by kernel_rfl
theorem lex_Name_snd : Snd Tryz.prog S ⟨54, [.val (.data .str)], [.val (.data .bool)], fun x => lex_Name x⟩ :=
  fn_ok progOk (T := (lex_Name_T)) (all_cons lex_Reserved_snd (all_cons lex_kind_snd (all_cons lex_end_snd (all_nil)))) (all_nil) (all_nil) mixed Tryz.func54 rfl (by kernel_rfl) (ac_code [] Tryz.f54 rfl) (L := lex_Name_L)
    (fun n l h x => by cases h) (fun k n l h => by cases h)
    (fun k => All.mem (lex_Name_vc k) trivial) (fun x r h => ⟨0, (lex_Name_eq 0 x).symm.trans h⟩) (by kernel_rfl) (by kernel_rfl) (Nat.le_of_ble_eq_true (by kernel_rfl)) (by kernel_rfl)
/-! ### 39 cotillion/expr.shape -/
noncomputable def expr_shape_c1 : Nat → Int → Int → (List UInt8) → (List api_Expr) → Int → Option Bool
  | 0, _, _, _, _, _ => none
  | k + 1, e_Kind, e_N, e_Name, e_Kids, e_At => if e_N = 0 then some true else if e_Kind = 1 then some (decide (0 < e_N)) else some false
noncomputable def expr_shape_c0 : Nat → Int → Int → (List UInt8) → (List api_Expr) → Int → Bool → Option Bool
  | 0, _, _, _, _, _, _ => none
  | k + 1, e_Kind, e_N, e_Name, e_Kids, e_At, named => if named ≠ (decide (e_Name ≠ [])) then
    some false else
    bif named then
    (lex_Name e_Name).bind fun r3 =>
    bif !r3 then
    some false else
    expr_shape_c1 k e_Kind e_N e_Name e_Kids e_At else
    expr_shape_c1 k e_Kind e_N e_Name e_Kids e_At
noncomputable def expr_shape_f (k : Nat) (e : api_Expr) : Option Bool := if e.Kind = 2 then
    if e.Kind < 1 then
    some false else
    if 19 < e.Kind then
    some false else
    (expr_places e.Kind).bind fun r1 =>
    if (e.Kids.length : Int) ≠ (r1.length : Int) then
    some false else
    expr_shape_c0 k e.Kind e.N e.Name e.Kids e.At true else
    if e.Kind < 1 then
    some false else
    if 19 < e.Kind then
    some false else
    (expr_places e.Kind).bind fun r2 =>
    if (e.Kids.length : Int) ≠ (r2.length : Int) then
    some false else
    expr_shape_c0 k e.Kind e.N e.Name e.Kids e.At (decide (e.Kind = 4))
noncomputable def expr_shape  (e : api_Expr) : Option Bool := lim (fun k (x : api_Expr) => expr_shape_f k x) e
noncomputable abbrev expr_shape_T : Tab S := ⟨[⟨37, [.val (.data (.int .i64))], [.val (.data (.sl (.int .i64)))], fun x => expr_places x⟩, ⟨54, [.val (.data .str)], [.val (.data .bool)], fun x => lex_Name x⟩], [], false, false, none, []⟩
noncomputable def expr_shape_L (k : Nat) : Nat → List (Lab S Bool)
  | 0 => []
  | 1 => [⟨[1, 3], [.obj [.data (.int .i64), .data (.int .i64), .data .str, .data (.sl (.st 3)), .data (.int .i64)], .val (.data .bool)], fun x => expr_shape_c0 k x.1.1 x.1.2.1 x.1.2.2.1 x.1.2.2.2.1 x.1.2.2.2.2 x.2, false⟩]
  | 2 => []
  | 3 => [⟨[1], [.obj [.data (.int .i64), .data (.int .i64), .data .str, .data (.sl (.st 3)), .data (.int .i64)]], fun x => expr_shape_c1 k x.1 x.2.1 x.2.2.1 x.2.2.2.1 x.2.2.2.2, false⟩]
  | _ + 4 => []
theorem expr_shape_eq (k : Nat) (e : api_Expr) : expr_shape_f k e = exec S (expr_shape_T) byt (labs S (expr_shape_T) (expr_shape_L k)) (ac [2, 5] Tryz.f39) (frame0 S [.val (.data (.st 3))] e) (retK S (expr_shape_T) Tryz.f39 [.val (.data (.st 3))] [.val (.data .bool)]) := by kernel_rfl
theorem expr_shape_vc (k : Nat) : VC S (expr_shape_T) byt (expr_shape_L k) (expr_shape_L (k + 1)) (ac [2, 5] Tryz.f39) (retK S (expr_shape_T) Tryz.f39 [.val (.data (.st 3))] [.val (.data .bool)]) = [∀ x : (Int × Int × List UInt8 × List api_Expr × Int), expr_shape_c1 (k + 1) x.1 x.2.1 x.2.2.1 x.2.2.2.1 x.2.2.2.2 = expr_shape_c1 (k + 1) x.1 x.2.1 x.2.2.1 x.2.2.2.1 x.2.2.2.2, ∀ x : (Int × Int × List UInt8 × List api_Expr × Int) × Bool, expr_shape_c0 (k + 1) x.1.1 x.1.2.1 x.1.2.2.1 x.1.2.2.2.1 x.1.2.2.2.2 x.2 = expr_shape_c0 (k + 1) x.1.1 x.1.2.1 x.1.2.2.1 x.1.2.2.2.1 x.1.2.2.2.2 x.2] := by kernel_rfl
theorem expr_shape_sndk (k : Nat) : Snd Tryz.prog S ⟨39, [.val (.data (.st 3))], [.val (.data .bool)], fun x => expr_shape_f k x⟩ :=
  fn_ok progOk (T := (expr_shape_T)) (all_cons expr_places_snd (all_cons lex_Name_snd (all_nil))) (all_nil) (all_nil) mixed Tryz.func39 rfl (by kernel_rfl) (ac_code [2, 5] Tryz.f39 rfl) (L := expr_shape_L)
    (fun n l h x => by match n, h with
        | 0, h => cases h
        | 1, h => 
          rcases List.mem_cons.1 h with rfl | h
          · rfl
          cases h
        | 2, h => cases h
        | 3, h => 
          rcases List.mem_cons.1 h with rfl | h
          · rfl
          cases h
        | _ + 4, h => cases h) (fun k n l h => by match n, h with
        | 0, h => cases h
        | 1, h => 
          rcases List.mem_cons.1 h with rfl | h
          · rfl
          cases h
        | 2, h => cases h
        | 3, h => 
          rcases List.mem_cons.1 h with rfl | h
          · rfl
          cases h
        | _ + 4, h => cases h)
    (fun k => All.mem (expr_shape_vc k) ⟨fun _ => rfl, ⟨fun _ => rfl, trivial⟩⟩) (fun x r h => ⟨k, (expr_shape_eq k x).symm.trans h⟩) (by kernel_rfl) (by kernel_rfl) (Nat.le_of_ble_eq_true (by kernel_rfl)) (by kernel_rfl)
theorem expr_shape_snd : Snd Tryz.prog S ⟨39, [.val (.data (.st 3))], [.val (.data .bool)], fun x => expr_shape x⟩ := Snd.lim (expr_shape_sndk)
/-! ### 25 cotillion/expr.right -/
noncomputable def expr_right_l0 (self_expr_right : api_Expr → Int → Int → Option Bool) : Nat → Int → Int → Int → (List UInt8) → (List api_Expr) → Int → (List Int) → Int → Int → Option Bool
  | 0, _, _, _, _, _, _, _, _, _ => none
  | k + 1, v_open, e_Kind, e_N, e_Name, e_Kids, e_At, x29, x30, x31 => if x31 < x30 then
    if 0 ≤ x31 then
    if x31 < (x29.length : Int) then
    if 0 ≤ x31 then
    if x31 < (e_Kids.length : Int) then
    (self_expr_right (e_Kids.getD x31.toNat api_Expr.z) (x29.getD x31.toNat 0) v_open).bind fun r9 =>
    bif !r9 then
    some false else
    expr_right_l0 self_expr_right k v_open e_Kind e_N e_Name e_Kids e_At x29 x30 (w64 (x31 + 1)) else none else none else none else none else
    some true
noncomputable def expr_right_b (self_expr_right : api_Expr → Int → Int → Option Bool) (k : Nat) (e : api_Expr) (asked : Int) (v_open : Int) : Option Bool := (expr_shape (api_Expr.mk e.Kind e.N e.Name e.Kids e.At)).bind fun r1 =>
    bif !r1 then
    some false else
    (expr_level e.Kind).bind fun r2 =>
    if r2 < asked then
    (expr_level e.Kind).bind fun r3 =>
    if r3 = 6 then
    if 12 < (w64 ((w64 (v_open + 1)) + 1)) then
    some false else
    (expr_places e.Kind).bind fun r4 =>
    expr_right_l0 self_expr_right k (w64 ((w64 (v_open + 1)) + 1)) e.Kind e.N e.Name e.Kids e.At r4 (r4.length : Int) 0 else
    if 12 < (w64 (v_open + 1)) then
    some false else
    (expr_places e.Kind).bind fun r5 =>
    expr_right_l0 self_expr_right k (w64 (v_open + 1)) e.Kind e.N e.Name e.Kids e.At r5 (r5.length : Int) 0 else
    (expr_level e.Kind).bind fun r6 =>
    if r6 = 6 then
    if 12 < (w64 (v_open + 1)) then
    some false else
    (expr_places e.Kind).bind fun r7 =>
    expr_right_l0 self_expr_right k (w64 (v_open + 1)) e.Kind e.N e.Name e.Kids e.At r7 (r7.length : Int) 0 else
    if 12 < v_open then
    some false else
    (expr_places e.Kind).bind fun r8 =>
    expr_right_l0 self_expr_right k v_open e.Kind e.N e.Name e.Kids e.At r8 (r8.length : Int) 0
noncomputable def expr_right_f : Nat → api_Expr → Int → Int → Option Bool
  | 0, _, _, _ => none
  | k + 1, x0, x1, x2 => expr_right_b (expr_right_f k) k x0 x1 x2
noncomputable def expr_right  (e : api_Expr) (asked : Int) (v_open : Int) : Option Bool := lim (fun k (x : api_Expr × Int × Int) => expr_right_f k x.1 x.2.1 x.2.2) (e, asked, v_open)
noncomputable abbrev expr_right_T (self_expr_right : api_Expr → Int → Int → Option Bool) : Tab S := ⟨[⟨39, [.val (.data (.st 3))], [.val (.data .bool)], fun x => expr_shape x⟩, ⟨33, [.val (.data (.int .i64))], [.val (.data (.int .i64))], fun x => expr_level x⟩, ⟨37, [.val (.data (.int .i64))], [.val (.data (.sl (.int .i64)))], fun x => expr_places x⟩, ⟨25, [.val (.data (.st 3)), .val (.data (.int .i64)), .val (.data (.int .i64))], [.val (.data .bool)], fun x => self_expr_right x.1 x.2.1 x.2.2⟩], [], false, false, none, []⟩
noncomputable def expr_right_L (self_expr_right : api_Expr → Int → Int → Option Bool) (k : Nat) : Nat → List (Lab S Bool)
  | 0 => [⟨[2, 3, 29, 30, 31], [.val (.data (.int .i64)), .obj [.data (.int .i64), .data (.int .i64), .data .str, .data (.sl (.st 3)), .data (.int .i64)], .val (.data (.sl (.int .i64))), .val (.data (.int .i64)), .val (.data (.int .i64))], fun x => expr_right_l0 self_expr_right k x.1 x.2.1.1 x.2.1.2.1 x.2.1.2.2.1 x.2.1.2.2.2.1 x.2.1.2.2.2.2 x.2.2.1 x.2.2.2.1 x.2.2.2.2, false⟩]
  | _ + 1 => []
theorem expr_right_eq (self_expr_right : api_Expr → Int → Int → Option Bool) (k : Nat) (e : api_Expr) (asked : Int) (v_open : Int) : expr_right_b self_expr_right k e asked v_open = exec S (expr_right_T self_expr_right) byt (labs S (expr_right_T self_expr_right) (expr_right_L self_expr_right k)) (ac [] Tryz.f25) (frame0 S [.val (.data (.st 3)), .val (.data (.int .i64)), .val (.data (.int .i64))] (e, asked, v_open)) (retK S (expr_right_T self_expr_right) Tryz.f25 [.val (.data (.st 3)), .val (.data (.int .i64)), .val (.data (.int .i64))] [.val (.data .bool)]) := by kernel_rfl
theorem expr_right_vc (self_expr_right : api_Expr → Int → Int → Option Bool) (k : Nat) : VC S (expr_right_T self_expr_right) byt (expr_right_L self_expr_right k) (expr_right_L self_expr_right (k + 1)) (ac [] Tryz.f25) (retK S (expr_right_T self_expr_right) Tryz.f25 [.val (.data (.st 3)), .val (.data (.int .i64)), .val (.data (.int .i64))] [.val (.data .bool)]) = [∀ x : Int × (Int × Int × List UInt8 × List api_Expr × Int) × List Int × Int × Int, expr_right_l0 self_expr_right (k + 1) x.1 x.2.1.1 x.2.1.2.1 x.2.1.2.2.1 x.2.1.2.2.2.1 x.2.1.2.2.2.2 x.2.2.1 x.2.2.2.1 x.2.2.2.2 = expr_right_l0 self_expr_right (k + 1) x.1 x.2.1.1 x.2.1.2.1 x.2.1.2.2.1 x.2.1.2.2.2.1 x.2.1.2.2.2.2 x.2.2.1 x.2.2.2.1 x.2.2.2.2] := by kernel_rfl
theorem expr_right_sndk (self_expr_right : api_Expr → Int → Int → Option Bool) (hself : Snd Tryz.prog S ⟨25, [.val (.data (.st 3)), .val (.data (.int .i64)), .val (.data (.int .i64))], [.val (.data .bool)], fun x => self_expr_right x.1 x.2.1 x.2.2⟩) (k : Nat) : Snd Tryz.prog S ⟨25, [.val (.data (.st 3)), .val (.data (.int .i64)), .val (.data (.int .i64))], [.val (.data .bool)], fun x => expr_right_b self_expr_right k x.1 x.2.1 x.2.2⟩ :=
  fn_ok progOk (T := (expr_right_T self_expr_right)) (all_cons expr_shape_snd (all_cons expr_level_snd (all_cons expr_places_snd (all_cons hself (all_nil))))) (all_nil) (all_nil) mixed Tryz.func25 rfl (by kernel_rfl) (ac_code [] Tryz.f25 rfl) (L := expr_right_L self_expr_right)
    (fun n l h x => by match n, h with
        | 0, h => 
          rcases List.mem_cons.1 h with rfl | h
          · rfl
          cases h
        | _ + 1, h => cases h) (fun k n l h => by match n, h with
        | 0, h => 
          rcases List.mem_cons.1 h with rfl | h
          · rfl
          cases h
        | _ + 1, h => cases h)
    (fun k => All.mem (expr_right_vc self_expr_right k) ⟨fun _ => rfl, trivial⟩) (fun x r h => ⟨k, (expr_right_eq self_expr_right k x.1 x.2.1 x.2.2).symm.trans h⟩) (by kernel_rfl) (by kernel_rfl) (Nat.le_of_ble_eq_true (by kernel_rfl)) (by kernel_rfl)
theorem expr_right_sndf : ∀ k, Snd Tryz.prog S ⟨25, [.val (.data (.st 3)), .val (.data (.int .i64)), .val (.data (.int .i64))], [.val (.data .bool)], fun x => expr_right_f k x.1 x.2.1 x.2.2⟩
  | 0 => Snd.none ⟨_, Tryz.func25, by kernel_rfl, by kernel_rfl⟩ fun _ => rfl
  | k + 1 => expr_right_sndk (expr_right_f k) (expr_right_sndf k) k
theorem expr_right_snd : Snd Tryz.prog S ⟨25, [.val (.data (.st 3)), .val (.data (.int .i64)), .val (.data (.int .i64))], [.val (.data .bool)], fun x => expr_right x.1 x.2.1 x.2.2⟩ := Snd.lim (expr_right_sndf)
/-! ### 14 cotillion/expr.Right -/
noncomputable def expr_Right  (e : api_Expr) : Option Bool := (expr_right (api_Expr.mk e.Kind e.N e.Name e.Kids e.At) 1 0).bind fun r1 => some r1
noncomputable abbrev expr_Right_T : Tab S := ⟨[⟨25, [.val (.data (.st 3)), .val (.data (.int .i64)), .val (.data (.int .i64))], [.val (.data .bool)], fun x => expr_right x.1 x.2.1 x.2.2⟩], [], false, false, none, []⟩
noncomputable def expr_Right_L (k : Nat) : Nat → List (Lab S Bool)
  | _ => []
theorem expr_Right_eq (k : Nat) (e : api_Expr) : expr_Right e = exec S (expr_Right_T) byt (labs S (expr_Right_T) (expr_Right_L k)) (ac [] Tryz.f14) (frame0 S [.val (.data (.st 3))] e) (retK S (expr_Right_T) Tryz.f14 [.val (.data (.st 3))] [.val (.data .bool)]) := by kernel_rfl
theorem expr_Right_vc (k : Nat) : VC S (expr_Right_T) byt (expr_Right_L k) (expr_Right_L (k + 1)) (ac [] Tryz.f14) (retK S (expr_Right_T) Tryz.f14 [.val (.data (.st 3))] [.val (.data .bool)]) = [] := by kernel_rfl
theorem expr_Right_snd : Snd Tryz.prog S ⟨14, [.val (.data (.st 3))], [.val (.data .bool)], fun x => expr_Right x⟩ :=
  fn_ok progOk (T := (expr_Right_T)) (all_cons expr_right_snd (all_nil)) (all_nil) (all_nil) mixed Tryz.func14 rfl (by kernel_rfl) (ac_code [] Tryz.f14 rfl) (L := expr_Right_L)
    (fun n l h x => by cases h) (fun k n l h => by cases h)
    (fun k => All.mem (expr_Right_vc k) trivial) (fun x r h => ⟨0, (expr_Right_eq 0 x).symm.trans h⟩) (by kernel_rfl) (by kernel_rfl) (Nat.le_of_ble_eq_true (by kernel_rfl)) (by kernel_rfl)
/-! ### 5 cotillion/cotillionlaw7.known -/
noncomputable def law7_known  : Option Bool := (law7_read s_1_2_3_4_x666bb).bind fun r1 =>
    (law7_read s_x_y_x573a0).bind fun r2 =>
    (law7_read s_a_b_c_x6aaa8).bind fun r3 =>
    bif r1.2 then
    bif r2.2 then
    bif !r3.2 then
    (expr_Print (api_Expr.mk r1.1.Kind r1.1.N r1.1.Name r1.1.Kids r1.1.At)).bind fun r4 =>
    if r4 = s_1_2_3_4_x693b6 then
    (expr_Print (api_Expr.mk r2.1.Kind r2.1.N r2.1.Name r2.1.Kids r2.1.At)).bind fun r5 =>
    if r5 = s_x_y_x3bbf6 then
    (expr_Right (api_Expr.mk r1.1.Kind r1.1.N r1.1.Name r1.1.Kids r1.1.At)).bind fun r6 =>
    bif r6 then
    (expr_Right (api_Expr.mk 0 0 [] [] 0)).bind fun r7 =>
    some (!r7) else
    some false else
    some false else
    some false else
    some false else
    some false else
    some false
noncomputable abbrev law7_known_T : Tab S := ⟨[⟨12, [.val (.data .str)], [.val (.data (.st 3)), .val (.data .bool)], fun x => law7_read x⟩, ⟨13, [.val (.data (.st 3))], [.val (.data .str)], fun x => expr_Print x⟩, ⟨14, [.val (.data (.st 3))], [.val (.data .bool)], fun x => expr_Right x⟩], [], false, false, none, []⟩
noncomputable def law7_known_L (k : Nat) : Nat → List (Lab S Bool)
  | _ => []
theorem law7_known_eq (k : Nat) : law7_known = exec S (law7_known_T) byt (labs S (law7_known_T) (law7_known_L k)) (ac [] Tryz.f5) (frame0 S [] ()) (retK S (law7_known_T) Tryz.f5 [] [.val (.data .bool)]) := by kernel_rfl
theorem law7_known_vc (k : Nat) : VC S (law7_known_T) byt (law7_known_L k) (law7_known_L (k + 1)) (ac [] Tryz.f5) (retK S (law7_known_T) Tryz.f5 [] [.val (.data .bool)]) = [] := by kernel_rfl
theorem law7_known_snd : Snd Tryz.prog S ⟨5, [], [.val (.data .bool)], fun x => law7_known⟩ :=
  fn_ok progOk (T := (law7_known_T)) (all_cons law7_read_snd (all_cons expr_Print_snd (all_cons expr_Right_snd (all_nil)))) (all_nil) (all_nil) mixed Tryz.func5 rfl (by kernel_rfl) (ac_code [] Tryz.f5 rfl) (L := law7_known_L)
    (fun n l h x => by cases h) (fun k n l h => by cases h)
    (fun k => All.mem (law7_known_vc k) trivial) (fun x r h => ⟨0, (law7_known_eq 0).symm.trans h⟩) (by kernel_rfl) (by kernel_rfl) (Nat.le_of_ble_eq_true (by kernel_rfl)) (by kernel_rfl)
/-! ### 6 cotillion/cotillionref37.Place -/
noncomputable def ref37_Place  (v : Int) (n : Int) : Option Int := if ¬ n = 0 then
    if (v.tmod n) < 0 then
    some (w64 ((v.tmod n) + n)) else
    some (v.tmod n) else none
noncomputable abbrev ref37_Place_T : Tab S := ⟨[], [], false, false, none, []⟩
noncomputable def ref37_Place_L (k : Nat) : Nat → List (Lab S Int)
  | _ => []
theorem ref37_Place_eq (k : Nat) (v : Int) (n : Int) : ref37_Place v n = exec S (ref37_Place_T) byt (labs S (ref37_Place_T) (ref37_Place_L k)) (ac [] Tryz.f6) (frame0 S [.val (.data (.int .i64)), .val (.data (.int .i64))] (v, n)) (retK S (ref37_Place_T) Tryz.f6 [.val (.data (.int .i64)), .val (.data (.int .i64))] [.val (.data (.int .i64))]) := by kernel_rfl
theorem ref37_Place_vc (k : Nat) : VC S (ref37_Place_T) byt (ref37_Place_L k) (ref37_Place_L (k + 1)) (ac [] Tryz.f6) (retK S (ref37_Place_T) Tryz.f6 [.val (.data (.int .i64)), .val (.data (.int .i64))] [.val (.data (.int .i64))]) = [] := by kernel_rfl
theorem ref37_Place_snd : Snd Tryz.prog S ⟨6, [.val (.data (.int .i64)), .val (.data (.int .i64))], [.val (.data (.int .i64))], fun x => ref37_Place x.1 x.2⟩ :=
  fn_ok progOk (T := (ref37_Place_T)) (all_nil) (all_nil) (all_nil) mixed Tryz.func6 rfl (by kernel_rfl) (ac_code [] Tryz.f6 rfl) (L := ref37_Place_L)
    (fun n l h x => by cases h) (fun k n l h => by cases h)
    (fun k => All.mem (ref37_Place_vc k) trivial) (fun x r h => ⟨0, (ref37_Place_eq 0 x.1 x.2).symm.trans h⟩) (by kernel_rfl) (by kernel_rfl) (Nat.le_of_ble_eq_true (by kernel_rfl)) (by kernel_rfl)
/-! ### 61 cotillion/cotillionref6.Is -/
noncomputable def ref6_Is  (l : List api_Token) (v_at : Int) (s : List UInt8) : Option Bool := if v_at < (l.length : Int) then
    if 0 ≤ v_at then
    if v_at < (l.length : Int) then
    if ((l.getD v_at.toNat api_Token.z).Kind) = 3 then
    if 0 ≤ v_at then
    if v_at < (l.length : Int) then
    some (decide (((l.getD v_at.toNat api_Token.z).Text) = s)) else none else none else
    if 0 ≤ v_at then
    if v_at < (l.length : Int) then
    if ((l.getD v_at.toNat api_Token.z).Kind) = 1 then
    if 0 ≤ v_at then
    if v_at < (l.length : Int) then
    some (decide (((l.getD v_at.toNat api_Token.z).Text) = s)) else none else none else
    some false else none else none else none else none else
    some false
noncomputable abbrev ref6_Is_T : Tab S := ⟨[], [], false, false, none, []⟩
noncomputable def ref6_Is_L (k : Nat) : Nat → List (Lab S Bool)
  | _ => []
theorem ref6_Is_eq (k : Nat) (l : List api_Token) (v_at : Int) (s : List UInt8) : ref6_Is l v_at s = exec S (ref6_Is_T) byt (labs S (ref6_Is_T) (ref6_Is_L k)) (ac [] Tryz.f61) (frame0 S [.val (.data (.sl (.st 0))), .val (.data (.int .i64)), .val (.data .str)] (l, v_at, s)) (retK S (ref6_Is_T) Tryz.f61 [.val (.data (.sl (.st 0))), .val (.data (.int .i64)), .val (.data .str)] [.val (.data .bool)]) := by kernel_rfl
theorem ref6_Is_vc (k : Nat) : VC S (ref6_Is_T) byt (ref6_Is_L k) (ref6_Is_L (k + 1)) (ac [] Tryz.f61) (retK S (ref6_Is_T) Tryz.f61 [.val (.data (.sl (.st 0))), .val (.data (.int .i64)), .val (.data .str)] [.val (.data .bool)]) = [] := by kernel_rfl
theorem ref6_Is_snd : Snd Tryz.prog S ⟨61, [.val (.data (.sl (.st 0))), .val (.data (.int .i64)), .val (.data .str)], [.val (.data .bool)], fun x => ref6_Is x.1 x.2.1 x.2.2⟩ :=
  fn_ok progOk (T := (ref6_Is_T)) (all_nil) (all_nil) (all_nil) mixed Tryz.func61 rfl (by kernel_rfl) (ac_code [] Tryz.f61 rfl) (L := ref6_Is_L)
    (fun n l h x => by cases h) (fun k n l h => by cases h)
    (fun k => All.mem (ref6_Is_vc k) trivial) (fun x r h => ⟨0, (ref6_Is_eq 0 x.1 x.2.1 x.2.2).symm.trans h⟩) (by kernel_rfl) (by kernel_rfl) (Nat.le_of_ble_eq_true (by kernel_rfl)) (by kernel_rfl)
/-! ### 43 (*cotillion/cotillionref7.reader).is -/
noncomputable def ref7_reader_is  (r_ : ref7_reader) (s : List UInt8) : Option (Bool × ref7_reader) := (ref6_Is r_.l r_.v_at s).bind fun r1 => some (r1, r_)
noncomputable abbrev ref7_reader_is_T : Tab S := ⟨[⟨61, [.val (.data (.sl (.st 0))), .val (.data (.int .i64)), .val (.data .str)], [.val (.data .bool)], fun x => ref6_Is x.1 x.2.1 x.2.2⟩], [], false, false, none, []⟩
noncomputable def ref7_reader_is_L (k : Nat) : Nat → List (Lab S (Bool × ref7_reader))
  | _ => []
theorem ref7_reader_is_eq (k : Nat) (r_ : ref7_reader) (s : List UInt8) : ref7_reader_is r_ s = exec S (ref7_reader_is_T) byt (labs S (ref7_reader_is_T) (ref7_reader_is_L k)) (ac [] Tryz.f43) (frame0 S [.obj [.data (.st 8)], .val (.data .str)] (r_, s)) (retK S (ref7_reader_is_T) Tryz.f43 [.obj [.data (.st 8)], .val (.data .str)] [.val (.data .bool)]) := by kernel_rfl
theorem ref7_reader_is_vc (k : Nat) : VC S (ref7_reader_is_T) byt (ref7_reader_is_L k) (ref7_reader_is_L (k + 1)) (ac [] Tryz.f43) (retK S (ref7_reader_is_T) Tryz.f43 [.obj [.data (.st 8)], .val (.data .str)] [.val (.data .bool)]) = [] := by kernel_rfl
theorem ref7_reader_is_snd : Snd Tryz.prog S ⟨43, [.obj [.data (.st 8)], .val (.data .str)], [.val (.data .bool)], fun x => ref7_reader_is x.1 x.2⟩ :=
  fn_ok progOk (T := (ref7_reader_is_T)) (all_cons ref6_Is_snd (all_nil)) (all_nil) (all_nil) mixed Tryz.func43 rfl (by kernel_rfl) (ac_code [] Tryz.f43 rfl) (L := ref7_reader_is_L)
    (fun n l h x => by cases h) (fun k n l h => by cases h)
    (fun k => All.mem (ref7_reader_is_vc k) trivial) (fun x r h => ⟨0, (ref7_reader_is_eq 0 x.1 x.2).symm.trans h⟩) (by kernel_rfl) (by kernel_rfl) (Nat.le_of_ble_eq_true (by kernel_rfl)) (by kernel_rfl)
/-! ### 75 cotillion/cotillionref6.Bad -/
noncomputable def ref6_Bad  (l : List api_Token) (v_at : Int) : Option api_Fault := if 0 ≤ v_at then
    if v_at < (l.length : Int) then
    if ((l.getD v_at.toNat api_Token.z).Kind) = 4 then
    if 0 ≤ v_at then
    if v_at < (l.length : Int) then
    some (api_Fault.mk 12 ((l.getD v_at.toNat api_Token.z).At)) else none else none else
    if 0 ≤ v_at then
    if v_at < (l.length : Int) then
    some (api_Fault.mk 11 ((l.getD v_at.toNat api_Token.z).At)) else none else none else none else none
noncomputable abbrev ref6_Bad_T : Tab S := ⟨[], [], false, false, none, []⟩
noncomputable def ref6_Bad_L (k : Nat) : Nat → List (Lab S api_Fault)
  | _ => []
theorem ref6_Bad_eq (k : Nat) (l : List api_Token) (v_at : Int) : ref6_Bad l v_at = exec S (ref6_Bad_T) byt (labs S (ref6_Bad_T) (ref6_Bad_L k)) (ac [] Tryz.f75) (frame0 S [.val (.data (.sl (.st 0))), .val (.data (.int .i64))] (l, v_at)) (retK S (ref6_Bad_T) Tryz.f75 [.val (.data (.sl (.st 0))), .val (.data (.int .i64))] [.val (.data (.st 1))]) := by kernel_rfl
theorem ref6_Bad_vc (k : Nat) : VC S (ref6_Bad_T) byt (ref6_Bad_L k) (ref6_Bad_L (k + 1)) (ac [] Tryz.f75) (retK S (ref6_Bad_T) Tryz.f75 [.val (.data (.sl (.st 0))), .val (.data (.int .i64))] [.val (.data (.st 1))]) = [] := by kernel_rfl
theorem ref6_Bad_snd : Snd Tryz.prog S ⟨75, [.val (.data (.sl (.st 0))), .val (.data (.int .i64))], [.val (.data (.st 1))], fun x => ref6_Bad x.1 x.2⟩ :=
  fn_ok progOk (T := (ref6_Bad_T)) (all_nil) (all_nil) (all_nil) mixed Tryz.func75 rfl (by kernel_rfl) (ac_code [] Tryz.f75 rfl) (L := ref6_Bad_L)
    (fun n l h x => by cases h) (fun k n l h => by cases h)
    (fun k => All.mem (ref6_Bad_vc k) trivial) (fun x r h => ⟨0, (ref6_Bad_eq 0 x.1 x.2).symm.trans h⟩) (by kernel_rfl) (by kernel_rfl) (Nat.le_of_ble_eq_true (by kernel_rfl)) (by kernel_rfl)
/-! ### 64 (*cotillion/cotillionref7.reader).wrong -/
noncomputable def ref7_reader_wrong  (r_ : ref7_reader) : Option (api_Expr × ref7_reader) := if r_.bad.Code = 0 then
    (ref6_Bad r_.l r_.v_at).bind fun r1 =>
    some (api_Expr.mk 0 0 [] [] 0, ref7_reader.mk r_.l r_.v_at r_.v_open r1) else
    some (api_Expr.mk 0 0 [] [] 0, r_)
noncomputable abbrev ref7_reader_wrong_T : Tab S := ⟨[⟨75, [.val (.data (.sl (.st 0))), .val (.data (.int .i64))], [.val (.data (.st 1))], fun x => ref6_Bad x.1 x.2⟩], [], false, false, none, []⟩
noncomputable def ref7_reader_wrong_L (k : Nat) : Nat → List (Lab S (api_Expr × ref7_reader))
  | _ => []
theorem ref7_reader_wrong_eq (k : Nat) (r_ : ref7_reader) : ref7_reader_wrong r_ = exec S (ref7_reader_wrong_T) byt (labs S (ref7_reader_wrong_T) (ref7_reader_wrong_L k)) (ac [] Tryz.f64) (frame0 S [.obj [.data (.st 8)]] r_) (retK S (ref7_reader_wrong_T) Tryz.f64 [.obj [.data (.st 8)]] [.val (.data (.st 3))]) := by kernel_rfl
theorem ref7_reader_wrong_vc (k : Nat) : VC S (ref7_reader_wrong_T) byt (ref7_reader_wrong_L k) (ref7_reader_wrong_L (k + 1)) (ac [] Tryz.f64) (retK S (ref7_reader_wrong_T) Tryz.f64 [.obj [.data (.st 8)]] [.val (.data (.st 3))]) = [] := by kernel_rfl
theorem ref7_reader_wrong_snd : Snd Tryz.prog S ⟨64, [.obj [.data (.st 8)]], [.val (.data (.st 3))], fun x => ref7_reader_wrong x⟩ :=
  fn_ok progOk (T := (ref7_reader_wrong_T)) (all_cons ref6_Bad_snd (all_nil)) (all_nil) (all_nil) mixed Tryz.func64 rfl (by kernel_rfl) (ac_code [] Tryz.f64 rfl) (L := ref7_reader_wrong_L)
    (fun n l h x => by cases h) (fun k n l h => by cases h)
    (fun k => All.mem (ref7_reader_wrong_vc k) trivial) (fun x r h => ⟨0, (ref7_reader_wrong_eq 0 x).symm.trans h⟩) (by kernel_rfl) (by kernel_rfl) (Nat.le_of_ble_eq_true (by kernel_rfl)) (by kernel_rfl)
/-! ### 62 (*cotillion/cotillionref7.reader).want -/
noncomputable def ref7_reader_want  (r_ : ref7_reader) (s : List UInt8) : Option ref7_reader := if r_.bad.Code ≠ 0 then
    some r_ else
    (ref7_reader_is r_ s).bind fun r1 =>
    bif !r1.1 then
    (ref7_reader_wrong r1.2).bind fun r2 =>
    some r2.2 else
    some (ref7_reader.mk r1.2.l (w64 (r1.2.v_at + 1)) r1.2.v_open r1.2.bad)
noncomputable abbrev ref7_reader_want_T : Tab S := ⟨[⟨43, [.obj [.data (.st 8)], .val (.data .str)], [.val (.data .bool)], fun x => ref7_reader_is x.1 x.2⟩, ⟨64, [.obj [.data (.st 8)]], [.val (.data (.st 3))], fun x => ref7_reader_wrong x⟩], [], false, false, none, []⟩
noncomputable def ref7_reader_want_L (k : Nat) : Nat → List (Lab S ref7_reader)
  | _ => []
theorem ref7_reader_want_eq (k : Nat) (r_ : ref7_reader) (s : List UInt8) : ref7_reader_want r_ s = exec S (ref7_reader_want_T) byt (labs S (ref7_reader_want_T) (ref7_reader_want_L k)) (ac [] Tryz.f62) (frame0 S [.obj [.data (.st 8)], .val (.data .str)] (r_, s)) (retK S (ref7_reader_want_T) Tryz.f62 [.obj [.data (.st 8)], .val (.data .str)] []) := by kernel_rfl
theorem ref7_reader_want_vc (k : Nat) : VC S (ref7_reader_want_T) byt (ref7_reader_want_L k) (ref7_reader_want_L (k + 1)) (ac [] Tryz.f62) (retK S (ref7_reader_want_T) Tryz.f62 [.obj [.data (.st 8)], .val (.data .str)] []) = [] := by kernel_rfl
theorem ref7_reader_want_snd : Snd Tryz.prog S ⟨62, [.obj [.data (.st 8)], .val (.data .str)], [], fun x => ref7_reader_want x.1 x.2⟩ :=
  fn_ok progOk (T := (ref7_reader_want_T)) (all_cons ref7_reader_is_snd (all_cons ref7_reader_wrong_snd (all_nil))) (all_nil) (all_nil) mixed Tryz.func62 rfl (by kernel_rfl) (ac_code [] Tryz.f62 rfl) (L := ref7_reader_want_L)
    (fun n l h x => by cases h) (fun k n l h => by cases h)
    (fun k => All.mem (ref7_reader_want_vc k) trivial) (fun x r h => ⟨0, (ref7_reader_want_eq 0 x.1 x.2).symm.trans h⟩) (by kernel_rfl) (by kernel_rfl) (Nat.le_of_ble_eq_true (by kernel_rfl)) (by kernel_rfl)
/-! ### 74 cotillion/cotillionref6.Reserved -/
noncomputable def ref6_Reserved_l0 : Nat → (List UInt8) → (List UInt8 × List UInt8 × List UInt8 × List UInt8 × List UInt8 × List UInt8 × List UInt8 × List UInt8 × List UInt8 × List UInt8 × List UInt8 × List UInt8 × List UInt8 × List UInt8 × List UInt8 × List UInt8 × List UInt8 × List UInt8 × List UInt8 × List UInt8 × List UInt8 × List UInt8 × List UInt8 × List UInt8 × List UInt8 × List UInt8 × List UInt8 × List UInt8 × List UInt8 × List UInt8 × List UInt8 × List UInt8 × List UInt8 × List UInt8 × List UInt8) → Int → Option Bool
  | 0, _, _, _ => none
  | k + 1, s, words, i => if i < 35 then
    if 0 ≤ i then
    if i < ([words.1, words.2.1, words.2.2.1, words.2.2.2.1, words.2.2.2.2.1, words.2.2.2.2.2.1, words.2.2.2.2.2.2.1, words.2.2.2.2.2.2.2.1, words.2.2.2.2.2.2.2.2.1, words.2.2.2.2.2.2.2.2.2.1, words.2.2.2.2.2.2.2.2.2.2.1, words.2.2.2.2.2.2.2.2.2.2.2.1, words.2.2.2.2.2.2.2.2.2.2.2.2.1, words.2.2.2.2.2.2.2.2.2.2.2.2.2.1, words.2.2.2.2.2.2.2.2.2.2.2.2.2.2.1, words.2.2.2.2.2.2.2.2.2.2.2.2.2.2.2.1, words.2.2.2.2.2.2.2.2.2.2.2.2.2.2.2.2.1, words.2.2.2.2.2.2.2.2.2.2.2.2.2.2.2.2.2.1, words.2.2.2.2.2.2.2.2.2.2.2.2.2.2.2.2.2.2.1, words.2.2.2.2.2.2.2.2.2.2.2.2.2.2.2.2.2.2.2.1, words.2.2.2.2.2.2.2.2.2.2.2.2.2.2.2.2.2.2.2.2.1, words.2.2.2.2.2.2.2.2.2.2.2.2.2.2.2.2.2.2.2.2.2.1, words.2.2.2.2.2.2.2.2.2.2.2.2.2.2.2.2.2.2.2.2.2.2.1, words.2.2.2.2.2.2.2.2.2.2.2.2.2.2.2.2.2.2.2.2.2.2.2.1, words.2.2.2.2.2.2.2.2.2.2.2.2.2.2.2.2.2.2.2.2.2.2.2.2.1, words.2.2.2.2.2.2.2.2.2.2.2.2.2.2.2.2.2.2.2.2.2.2.2.2.2.1, words.2.2.2.2.2.2.2.2.2.2.2.2.2.2.2.2.2.2.2.2.2.2.2.2.2.2.1, words.2.2.2.2.2.2.2.2.2.2.2.2.2.2.2.2.2.2.2.2.2.2.2.2.2.2.2.1, words.2.2.2.2.2.2.2.2.2.2.2.2.2.2.2.2.2.2.2.2.2.2.2.2.2.2.2.2.1, words.2.2.2.2.2.2.2.2.2.2.2.2.2.2.2.2.2.2.2.2.2.2.2.2.2.2.2.2.2.1, words.2.2.2.2.2.2.2.2.2.2.2.2.2.2.2.2.2.2.2.2.2.2.2.2.2.2.2.2.2.2.1, words.2.2.2.2.2.2.2.2.2.2.2.2.2.2.2.2.2.2.2.2.2.2.2.2.2.2.2.2.2.2.2.1, words.2.2.2.2.2.2.2.2.2.2.2.2.2.2.2.2.2.2.2.2.2.2.2.2.2.2.2.2.2.2.2.2.1, words.2.2.2.2.2.2.2.2.2.2.2.2.2.2.2.2.2.2.2.2.2.2.2.2.2.2.2.2.2.2.2.2.2.1, words.2.2.2.2.2.2.2.2.2.2.2.2.2.2.2.2.2.2.2.2.2.2.2.2.2.2.2.2.2.2.2.2.2.2].length : Int) then
    if ([words.1, words.2.1, words.2.2.1, words.2.2.2.1, words.2.2.2.2.1, words.2.2.2.2.2.1, words.2.2.2.2.2.2.1, words.2.2.2.2.2.2.2.1, words.2.2.2.2.2.2.2.2.1, words.2.2.2.2.2.2.2.2.2.1, words.2.2.2.2.2.2.2.2.2.2.1, words.2.2.2.2.2.2.2.2.2.2.2.1, words.2.2.2.2.2.2.2.2.2.2.2.2.1, words.2.2.2.2.2.2.2.2.2.2.2.2.2.1, words.2.2.2.2.2.2.2.2.2.2.2.2.2.2.1, words.2.2.2.2.2.2.2.2.2.2.2.2.2.2.2.1, words.2.2.2.2.2.2.2.2.2.2.2.2.2.2.2.2.1, words.2.2.2.2.2.2.2.2.2.2.2.2.2.2.2.2.2.1, words.2.2.2.2.2.2.2.2.2.2.2.2.2.2.2.2.2.2.1, words.2.2.2.2.2.2.2.2.2.2.2.2.2.2.2.2.2.2.2.1, words.2.2.2.2.2.2.2.2.2.2.2.2.2.2.2.2.2.2.2.2.1, words.2.2.2.2.2.2.2.2.2.2.2.2.2.2.2.2.2.2.2.2.2.1, words.2.2.2.2.2.2.2.2.2.2.2.2.2.2.2.2.2.2.2.2.2.2.1, words.2.2.2.2.2.2.2.2.2.2.2.2.2.2.2.2.2.2.2.2.2.2.2.1, words.2.2.2.2.2.2.2.2.2.2.2.2.2.2.2.2.2.2.2.2.2.2.2.2.1, words.2.2.2.2.2.2.2.2.2.2.2.2.2.2.2.2.2.2.2.2.2.2.2.2.2.1, words.2.2.2.2.2.2.2.2.2.2.2.2.2.2.2.2.2.2.2.2.2.2.2.2.2.2.1, words.2.2.2.2.2.2.2.2.2.2.2.2.2.2.2.2.2.2.2.2.2.2.2.2.2.2.2.1, words.2.2.2.2.2.2.2.2.2.2.2.2.2.2.2.2.2.2.2.2.2.2.2.2.2.2.2.2.1, words.2.2.2.2.2.2.2.2.2.2.2.2.2.2.2.2.2.2.2.2.2.2.2.2.2.2.2.2.2.1, words.2.2.2.2.2.2.2.2.2.2.2.2.2.2.2.2.2.2.2.2.2.2.2.2.2.2.2.2.2.2.1, words.2.2.2.2.2.2.2.2.2.2.2.2.2.2.2.2.2.2.2.2.2.2.2.2.2.2.2.2.2.2.2.1, words.2.2.2.2.2.2.2.2.2.2.2.2.2.2.2.2.2.2.2.2.2.2.2.2.2.2.2.2.2.2.2.2.1, words.2.2.2.2.2.2.2.2.2.2.2.2.2.2.2.2.2.2.2.2.2.2.2.2.2.2.2.2.2.2.2.2.2.1, words.2.2.2.2.2.2.2.2.2.2.2.2.2.2.2.2.2.2.2.2.2.2.2.2.2.2.2.2.2.2.2.2.2.2].getD i.toNat []) = s then
    some true else
    ref6_Reserved_l0 k s words (w64 (i + 1)) else none else none else
    some false
noncomputable def ref6_Reserved_f (k : Nat) (s : List UInt8) : Option Bool := ref6_Reserved_l0 k s arr_x8304b 0
noncomputable def ref6_Reserved  (s : List UInt8) : Option Bool := lim (fun k (x : List UInt8) => ref6_Reserved_f k x) s
noncomputable abbrev ref6_Reserved_T : Tab S := ⟨[], [], false, false, none, []⟩
noncomputable def ref6_Reserved_L (k : Nat) : Nat → List (Lab S Bool)
  | 0 => [⟨[0, 3, 4], [.val (.data .str), .ro (.st 9), .val (.data (.int .i64))], fun x => ref6_Reserved_l0 k x.1 x.2.1 x.2.2, false⟩]
  | _ + 1 => []
theorem ref6_Reserved_eq (k : Nat) (s : List UInt8) : ref6_Reserved_f k s = exec S (ref6_Reserved_T) byt (labs S (ref6_Reserved_T) (ref6_Reserved_L k)) (ac [] Tryz.f74) (frame0 S [.val (.data .str)] s) (retK S (ref6_Reserved_T) Tryz.f74 [.val (.data .str)] [.val (.data .bool)]) := by kernel_rfl
theorem ref6_Reserved_vc (k : Nat) : VC S (ref6_Reserved_T) byt (ref6_Reserved_L k) (ref6_Reserved_L (k + 1)) (ac [] Tryz.f74) (retK S (ref6_Reserved_T) Tryz.f74 [.val (.data .str)] [.val (.data .bool)]) = [∀ x : List UInt8 × (List UInt8 × List UInt8 × List UInt8 × List UInt8 × List UInt8 × List UInt8 × List UInt8 × List UInt8 × List UInt8 × List UInt8 × List UInt8 × List UInt8 × List UInt8 × List UInt8 × List UInt8 × List UInt8 × List UInt8 × List UInt8 × List UInt8 × List UInt8 × List UInt8 × List UInt8 × List UInt8 × List UInt8 × List UInt8 × List UInt8 × List UInt8 × List UInt8 × List UInt8 × List UInt8 × List UInt8 × List UInt8 × List UInt8 × List UInt8 × List UInt8) × Int, ref6_Reserved_l0 (k + 1) x.1 x.2.1 x.2.2 = ref6_Reserved_l0 (k + 1) x.1 x.2.1 x.2.2] := by kernel_rfl
theorem ref6_Reserved_sndk (k : Nat) : Snd Tryz.prog S ⟨74, [.val (.data .str)], [.val (.data .bool)], fun x => ref6_Reserved_f k x⟩ :=
  fn_ok progOk (T := (ref6_Reserved_T)) (all_nil) (all_nil) (all_nil) mixed Tryz.func74 rfl (by kernel_rfl) (ac_code [] Tryz.f74 rfl) (L := ref6_Reserved_L)
    (fun n l h x => by match n, h with
        | 0, h => 
          rcases List.mem_cons.1 h with rfl | h
          · rfl
          cases h
        | _ + 1, h => cases h) (fun k n l h => by match n, h with
        | 0, h => 
          rcases List.mem_cons.1 h with rfl | h
          · rfl
          cases h
        | _ + 1, h => cases h)
    (fun k => All.mem (ref6_Reserved_vc k) ⟨fun _ => rfl, trivial⟩) (fun x r h => ⟨k, (ref6_Reserved_eq k x).symm.trans h⟩) (by kernel_rfl) (by kernel_rfl) (Nat.le_of_ble_eq_true (by kernel_rfl)) (by kernel_rfl)
theorem ref6_Reserved_snd : Snd Tryz.prog S ⟨74, [.val (.data .str)], [.val (.data .bool)], fun x => ref6_Reserved x⟩ := Snd.lim (ref6_Reserved_sndk)
/-! ### 63 cotillion/cotillionref6.Named -/
noncomputable def ref6_Named  (l : List api_Token) (v_at : Int) : Option Bool := if v_at < (l.length : Int) then
    if 0 ≤ v_at then
    if v_at < (l.length : Int) then
    if ((l.getD v_at.toNat api_Token.z).Kind) = 1 then
    if 0 ≤ v_at then
    if v_at < (l.length : Int) then
    (ref6_Reserved ((l.getD v_at.toNat api_Token.z).Text)).bind fun r1 =>
    some (!r1) else none else none else
    some false else none else none else
    some false
noncomputable abbrev ref6_Named_T : Tab S := ⟨[⟨74, [.val (.data .str)], [.val (.data .bool)], fun x => ref6_Reserved x⟩], [], false, false, none, []⟩
noncomputable def ref6_Named_L (k : Nat) : Nat → List (Lab S Bool)
  | _ => []
theorem ref6_Named_eq (k : Nat) (l : List api_Token) (v_at : Int) : ref6_Named l v_at = exec S (ref6_Named_T) byt (labs S (ref6_Named_T) (ref6_Named_L k)) (ac [] Tryz.f63) (frame0 S [.val (.data (.sl (.st 0))), .val (.data (.int .i64))] (l, v_at)) (retK S (ref6_Named_T) Tryz.f63 [.val (.data (.sl (.st 0))), .val (.data (.int .i64))] [.val (.data .bool)]) := by kernel_rfl
theorem ref6_Named_vc (k : Nat) : VC S (ref6_Named_T) byt (ref6_Named_L k) (ref6_Named_L (k + 1)) (ac [] Tryz.f63) (retK S (ref6_Named_T) Tryz.f63 [.val (.data (.sl (.st 0))), .val (.data (.int .i64))] [.val (.data .bool)]) = [] := by kernel_rfl
theorem ref6_Named_snd : Snd Tryz.prog S ⟨63, [.val (.data (.sl (.st 0))), .val (.data (.int .i64))], [.val (.data .bool)], fun x => ref6_Named x.1 x.2⟩ :=
  fn_ok progOk (T := (ref6_Named_T)) (all_cons ref6_Reserved_snd (all_nil)) (all_nil) (all_nil) mixed Tryz.func63 rfl (by kernel_rfl) (ac_code [] Tryz.f63 rfl) (L := ref6_Named_L)
    (fun n l h x => by cases h) (fun k n l h => by cases h)
    (fun k => All.mem (ref6_Named_vc k) trivial) (fun x r h => ⟨0, (ref6_Named_eq 0 x.1 x.2).symm.trans h⟩) (by kernel_rfl) (by kernel_rfl) (Nat.le_of_ble_eq_true (by kernel_rfl)) (by kernel_rfl)
/-! ### 45 (*cotillion/cotillionref7.reader).enter -/
noncomputable def ref7_reader_enter  (r_ : ref7_reader) : Option (Bool × ref7_reader) := if r_.v_open = 12 then
    if 0 ≤ r_.v_at then
    if r_.v_at < (r_.l.length : Int) then
    some (false, ref7_reader.mk r_.l r_.v_at r_.v_open (api_Fault.mk 14 ((r_.l.getD r_.v_at.toNat api_Token.z).At))) else none else none else
    some (true, ref7_reader.mk r_.l (w64 (r_.v_at + 1)) (w64 (r_.v_open + 1)) r_.bad)
noncomputable abbrev ref7_reader_enter_T : Tab S := ⟨[], [], false, false, none, []⟩
noncomputable def ref7_reader_enter_L (k : Nat) : Nat → List (Lab S (Bool × ref7_reader))
  | _ => []
theorem ref7_reader_enter_eq (k : Nat) (r_ : ref7_reader) : ref7_reader_enter r_ = exec S (ref7_reader_enter_T) byt (labs S (ref7_reader_enter_T) (ref7_reader_enter_L k)) (ac [] Tryz.f45) (frame0 S [.obj [.data (.st 8)]] r_) (retK S (ref7_reader_enter_T) Tryz.f45 [.obj [.data (.st 8)]] [.val (.data .bool)]) := by kernel_rfl
theorem ref7_reader_enter_vc (k : Nat) : VC S (ref7_reader_enter_T) byt (ref7_reader_enter_L k) (ref7_reader_enter_L (k + 1)) (ac [] Tryz.f45) (retK S (ref7_reader_enter_T) Tryz.f45 [.obj [.data (.st 8)]] [.val (.data .bool)]) = [] := by kernel_rfl
theorem ref7_reader_enter_snd : Snd Tryz.prog S ⟨45, [.obj [.data (.st 8)]], [.val (.data .bool)], fun x => ref7_reader_enter x⟩ :=
  fn_ok progOk (T := (ref7_reader_enter_T)) (all_nil) (all_nil) (all_nil) mixed Tryz.func45 rfl (by kernel_rfl) (ac_code [] Tryz.f45 rfl) (L := ref7_reader_enter_L)
    (fun n l h x => by cases h) (fun k n l h => by cases h)
    (fun k => All.mem (ref7_reader_enter_vc k) trivial) (fun x r h => ⟨0, (ref7_reader_enter_eq 0 x).symm.trans h⟩) (by kernel_rfl) (by kernel_rfl) (Nat.le_of_ble_eq_true (by kernel_rfl)) (by kernel_rfl)
/-! ### 44 (*cotillion/cotillionref7.reader).prim -/
noncomputable def ref7_reader_prim (self_ref7_reader_binary : ref7_reader → Int → Option (api_Expr × ref7_reader))  (r_ : ref7_reader) : Option (api_Expr × ref7_reader) := if 0 ≤ r_.v_at then
    if r_.v_at < (r_.l.length : Int) then
    if ((r_.l.getD r_.v_at.toNat api_Token.z).Kind) = 2 then
    some (api_Expr.mk 1 ((r_.l.getD r_.v_at.toNat api_Token.z).N) [] [] ((r_.l.getD r_.v_at.toNat api_Token.z).At), ref7_reader.mk r_.l (w64 (r_.v_at + 1)) r_.v_open r_.bad) else
    (ref7_reader_is r_ s_dollar).bind fun r1 =>
    bif r1.1 then
    some (api_Expr.mk 3 0 [] [] ((r_.l.getD r_.v_at.toNat api_Token.z).At), ref7_reader.mk r1.2.l (w64 (r1.2.v_at + 1)) r1.2.v_open r1.2.bad) else
    (ref7_reader_is r1.2 s_in).bind fun r2 =>
    bif r2.1 then
    (ref7_reader_want (ref7_reader.mk r2.2.l (w64 (r2.2.v_at + 1)) r2.2.v_open r2.2.bad) s_lp).bind fun r3 =>
    if r3.bad.Code ≠ 0 then
    some (api_Expr.mk 0 0 [] [] 0, r3) else
    (ref6_Named r3.l r3.v_at).bind fun r4 =>
    bif !r4 then
    (ref7_reader_wrong r3).bind fun r5 =>
    some (api_Expr.mk r5.1.Kind r5.1.N r5.1.Name r5.1.Kids r5.1.At, r5.2) else
    if 0 ≤ r3.v_at then
    if r3.v_at < (r3.l.length : Int) then
    (ref7_reader_want (ref7_reader.mk r3.l (w64 (r3.v_at + 1)) r3.v_open r3.bad) s_rp).bind fun r6 =>
    some (api_Expr.mk 4 0 ((r3.l.getD r3.v_at.toNat api_Token.z).Text) [] ((r_.l.getD r_.v_at.toNat api_Token.z).At), r6) else none else none else
    (ref7_reader_is r2.2 s_lp).bind fun r7 =>
    bif r7.1 then
    (ref7_reader_enter r7.2).bind fun r8 =>
    bif !r8.1 then
    some (api_Expr.mk 0 0 [] [] 0, r8.2) else
    (self_ref7_reader_binary r8.2 1).bind fun r9 =>
    (ref7_reader_want r9.2 s_rp).bind fun r10 =>
    some (api_Expr.mk r9.1.Kind r9.1.N r9.1.Name r9.1.Kids r9.1.At, ref7_reader.mk r10.l r10.v_at (w64 (r10.v_open - 1)) r10.bad) else
    (ref6_Named r7.2.l r7.2.v_at).bind fun r11 =>
    bif r11 then
    some (api_Expr.mk 2 0 ((r_.l.getD r_.v_at.toNat api_Token.z).Text) [] ((r_.l.getD r_.v_at.toNat api_Token.z).At), ref7_reader.mk r7.2.l (w64 (r7.2.v_at + 1)) r7.2.v_open r7.2.bad) else
    (ref7_reader_wrong r7.2).bind fun r12 =>
    some (api_Expr.mk r12.1.Kind r12.1.N r12.1.Name r12.1.Kids r12.1.At, r12.2) else none else none
noncomputable abbrev ref7_reader_prim_T (self_ref7_reader_binary : ref7_reader → Int → Option (api_Expr × ref7_reader)) : Tab S := ⟨[⟨43, [.obj [.data (.st 8)], .val (.data .str)], [.val (.data .bool)], fun x => ref7_reader_is x.1 x.2⟩, ⟨62, [.obj [.data (.st 8)], .val (.data .str)], [], fun x => ref7_reader_want x.1 x.2⟩, ⟨63, [.val (.data (.sl (.st 0))), .val (.data (.int .i64))], [.val (.data .bool)], fun x => ref6_Named x.1 x.2⟩, ⟨64, [.obj [.data (.st 8)]], [.val (.data (.st 3))], fun x => ref7_reader_wrong x⟩, ⟨45, [.obj [.data (.st 8)]], [.val (.data .bool)], fun x => ref7_reader_enter x⟩, ⟨17, [.obj [.data (.st 8)], .val (.data (.int .i64))], [.val (.data (.st 3))], fun x => self_ref7_reader_binary x.1 x.2⟩], [], false, false, none, []⟩
noncomputable def ref7_reader_prim_L (self_ref7_reader_binary : ref7_reader → Int → Option (api_Expr × ref7_reader)) (k : Nat) : Nat → List (Lab S (api_Expr × ref7_reader))
  | _ => []
theorem ref7_reader_prim_eq (self_ref7_reader_binary : ref7_reader → Int → Option (api_Expr × ref7_reader)) (k : Nat) (r_ : ref7_reader) : ref7_reader_prim self_ref7_reader_binary r_ = exec S (ref7_reader_prim_T self_ref7_reader_binary) byt (labs S (ref7_reader_prim_T self_ref7_reader_binary) (ref7_reader_prim_L self_ref7_reader_binary k)) (ac [] Tryz.f44) (frame0 S [.obj [.data (.st 8)]] r_) (retK S (ref7_reader_prim_T self_ref7_reader_binary) Tryz.f44 [.obj [.data (.st 8)]] [.val (.data (.st 3))]) := by kernel_rfl
theorem ref7_reader_prim_vc (self_ref7_reader_binary : ref7_reader → Int → Option (api_Expr × ref7_reader)) (k : Nat) : VC S (ref7_reader_prim_T self_ref7_reader_binary) byt (ref7_reader_prim_L self_ref7_reader_binary k) (ref7_reader_prim_L self_ref7_reader_binary (k + 1)) (ac [] Tryz.f44) (retK S (ref7_reader_prim_T self_ref7_reader_binary) Tryz.f44 [.obj [.data (.st 8)]] [.val (.data (.st 3))]) = [] := by kernel_rfl
theorem ref7_reader_prim_snd (self_ref7_reader_binary : ref7_reader → Int → Option (api_Expr × ref7_reader)) (hself_ref7_reader_binary : Snd Tryz.prog S ⟨17, [.obj [.data (.st 8)], .val (.data (.int .i64))], [.val (.data (.st 3))], fun x => self_ref7_reader_binary x.1 x.2⟩) : Snd Tryz.prog S ⟨44, [.obj [.data (.st 8)]], [.val (.data (.st 3))], fun x => ref7_reader_prim self_ref7_reader_binary x⟩ :=
  fn_ok progOk (T := (ref7_reader_prim_T self_ref7_reader_binary)) (all_cons ref7_reader_is_snd (all_cons ref7_reader_want_snd (all_cons ref6_Named_snd (all_cons ref7_reader_wrong_snd (all_cons ref7_reader_enter_snd (all_cons hself_ref7_reader_binary (all_nil))))))) (all_nil) (all_nil) mixed Tryz.func44 rfl (by kernel_rfl) (ac_code [] Tryz.f44 rfl) (L := ref7_reader_prim_L self_ref7_reader_binary)
    (fun n l h x => by cases h) (fun k n l h => by cases h)
    (fun k => All.mem (ref7_reader_prim_vc self_ref7_reader_binary k) trivial) (fun x r h => ⟨0, (ref7_reader_prim_eq self_ref7_reader_binary 0 x).symm.trans h⟩) (by kernel_rfl) (by kernel_rfl) (Nat.le_of_ble_eq_true (by kernel_rfl)) (by kernel_rfl)
/-! ### 29 (*cotillion/cotillionref7.reader).unary -/
noncomputable def ref7_reader_unary_b (self_ref7_reader_unary : ref7_reader → Option (api_Expr × ref7_reader)) (self_ref7_reader_binary : ref7_reader → Int → Option (api_Expr × ref7_reader)) (k : Nat) (r_ : ref7_reader) : Option (api_Expr × ref7_reader) := (ref7_reader_is r_ s_minus).bind fun r1 =>
    bif r1.1 then
    (ref7_reader_is r1.2 s_bang).bind fun r2 =>
    bif r2.1 then
    if (6 : Int) = 0 then
    (ref7_reader_prim self_ref7_reader_binary r2.2).bind fun r3 =>
    some (api_Expr.mk r3.1.Kind r3.1.N r3.1.Name r3.1.Kids r3.1.At, r3.2) else
    if 0 ≤ r2.2.v_at then
    if r2.2.v_at < (r2.2.l.length : Int) then
    (ref7_reader_enter r2.2).bind fun r4 =>
    bif !r4.1 then
    some (api_Expr.mk 0 0 [] [] 0, r4.2) else
    (self_ref7_reader_unary r4.2).bind fun r5 =>
    some (api_Expr.mk 6 0 [] [api_Expr.mk r5.1.Kind r5.1.N r5.1.Name r5.1.Kids r5.1.At] ((r2.2.l.getD r2.2.v_at.toNat api_Token.z).At), ref7_reader.mk r5.2.l r5.2.v_at (w64 (r5.2.v_open - 1)) r5.2.bad) else none else none else
    if (5 : Int) = 0 then
    (ref7_reader_prim self_ref7_reader_binary r2.2).bind fun r6 =>
    some (api_Expr.mk r6.1.Kind r6.1.N r6.1.Name r6.1.Kids r6.1.At, r6.2) else
    if 0 ≤ r2.2.v_at then
    if r2.2.v_at < (r2.2.l.length : Int) then
    (ref7_reader_enter r2.2).bind fun r7 =>
    bif !r7.1 then
    some (api_Expr.mk 0 0 [] [] 0, r7.2) else
    (self_ref7_reader_unary r7.2).bind fun r8 =>
    some (api_Expr.mk 5 0 [] [api_Expr.mk r8.1.Kind r8.1.N r8.1.Name r8.1.Kids r8.1.At] ((r2.2.l.getD r2.2.v_at.toNat api_Token.z).At), ref7_reader.mk r8.2.l r8.2.v_at (w64 (r8.2.v_open - 1)) r8.2.bad) else none else none else
    (ref7_reader_is r1.2 s_bang).bind fun r9 =>
    bif r9.1 then
    if (6 : Int) = 0 then
    (ref7_reader_prim self_ref7_reader_binary r9.2).bind fun r10 =>
    some (api_Expr.mk r10.1.Kind r10.1.N r10.1.Name r10.1.Kids r10.1.At, r10.2) else
    if 0 ≤ r9.2.v_at then
    if r9.2.v_at < (r9.2.l.length : Int) then
    (ref7_reader_enter r9.2).bind fun r11 =>
    bif !r11.1 then
    some (api_Expr.mk 0 0 [] [] 0, r11.2) else
    (self_ref7_reader_unary r11.2).bind fun r12 =>
    some (api_Expr.mk 6 0 [] [api_Expr.mk r12.1.Kind r12.1.N r12.1.Name r12.1.Kids r12.1.At] ((r9.2.l.getD r9.2.v_at.toNat api_Token.z).At), ref7_reader.mk r12.2.l r12.2.v_at (w64 (r12.2.v_open - 1)) r12.2.bad) else none else none else
    if (0 : Int) = 0 then
    (ref7_reader_prim self_ref7_reader_binary r9.2).bind fun r13 =>
    some (api_Expr.mk r13.1.Kind r13.1.N r13.1.Name r13.1.Kids r13.1.At, r13.2) else
    if 0 ≤ r9.2.v_at then
    if r9.2.v_at < (r9.2.l.length : Int) then
    (ref7_reader_enter r9.2).bind fun r14 =>
    bif !r14.1 then
    some (api_Expr.mk 0 0 [] [] 0, r14.2) else
    (self_ref7_reader_unary r14.2).bind fun r15 =>
    some (api_Expr.mk 0 0 [] [api_Expr.mk r15.1.Kind r15.1.N r15.1.Name r15.1.Kids r15.1.At] ((r9.2.l.getD r9.2.v_at.toNat api_Token.z).At), ref7_reader.mk r15.2.l r15.2.v_at (w64 (r15.2.v_open - 1)) r15.2.bad) else none else none
noncomputable def ref7_reader_unary_f (self_ref7_reader_binary : ref7_reader → Int → Option (api_Expr × ref7_reader)) : Nat → ref7_reader → Option (api_Expr × ref7_reader)
  | 0, _ => none
  | k + 1, x0 => ref7_reader_unary_b (ref7_reader_unary_f self_ref7_reader_binary k) self_ref7_reader_binary k x0
noncomputable def ref7_reader_unary (self_ref7_reader_binary : ref7_reader → Int → Option (api_Expr × ref7_reader))  (r_ : ref7_reader) : Option (api_Expr × ref7_reader) := lim (fun k (x : ref7_reader) => ref7_reader_unary_f self_ref7_reader_binary k x) r_
noncomputable abbrev ref7_reader_unary_T (self_ref7_reader_unary : ref7_reader → Option (api_Expr × ref7_reader)) (self_ref7_reader_binary : ref7_reader → Int → Option (api_Expr × ref7_reader)) : Tab S := ⟨[⟨43, [.obj [.data (.st 8)], .val (.data .str)], [.val (.data .bool)], fun x => ref7_reader_is x.1 x.2⟩, ⟨44, [.obj [.data (.st 8)]], [.val (.data (.st 3))], fun x => ref7_reader_prim self_ref7_reader_binary x⟩, ⟨45, [.obj [.data (.st 8)]], [.val (.data .bool)], fun x => ref7_reader_enter x⟩, ⟨29, [.obj [.data (.st 8)]], [.val (.data (.st 3))], fun x => self_ref7_reader_unary x⟩], [], false, false, none, []⟩
noncomputable def ref7_reader_unary_L (self_ref7_reader_unary : ref7_reader → Option (api_Expr × ref7_reader)) (self_ref7_reader_binary : ref7_reader → Int → Option (api_Expr × ref7_reader)) (k : Nat) : Nat → List (Lab S (api_Expr × ref7_reader))
  | _ => []
theorem ref7_reader_unary_eq (self_ref7_reader_unary : ref7_reader → Option (api_Expr × ref7_reader)) (self_ref7_reader_binary : ref7_reader → Int → Option (api_Expr × ref7_reader)) (k : Nat) (r_ : ref7_reader) : ref7_reader_unary_b self_ref7_reader_unary self_ref7_reader_binary k r_ = exec S (ref7_reader_unary_T self_ref7_reader_unary self_ref7_reader_binary) byt (labs S (ref7_reader_unary_T self_ref7_reader_unary self_ref7_reader_binary) (ref7_reader_unary_L self_ref7_reader_unary self_ref7_reader_binary k)) (ac [] Tryz.f29) (frame0 S [.obj [.data (.st 8)]] r_) (retK S (ref7_reader_unary_T self_ref7_reader_unary self_ref7_reader_binary) Tryz.f29 [.obj [.data (.st 8)]] [.val (.data (.st 3))]) := by kernel_rfl
theorem ref7_reader_unary_vc (self_ref7_reader_unary : ref7_reader → Option (api_Expr × ref7_reader)) (self_ref7_reader_binary : ref7_reader → Int → Option (api_Expr × ref7_reader)) (k : Nat) : VC S (ref7_reader_unary_T self_ref7_reader_unary self_ref7_reader_binary) byt (ref7_reader_unary_L self_ref7_reader_unary self_ref7_reader_binary k) (ref7_reader_unary_L self_ref7_reader_unary self_ref7_reader_binary (k + 1)) (ac [] Tryz.f29) (retK S (ref7_reader_unary_T self_ref7_reader_unary self_ref7_reader_binary) Tryz.f29 [.obj [.data (.st 8)]] [.val (.data (.st 3))]) = [] := by kernel_rfl
theorem ref7_reader_unary_sndk (self_ref7_reader_unary : ref7_reader → Option (api_Expr × ref7_reader)) (self_ref7_reader_binary : ref7_reader → Int → Option (api_Expr × ref7_reader)) (hself : Snd Tryz.prog S ⟨29, [.obj [.data (.st 8)]], [.val (.data (.st 3))], fun x => self_ref7_reader_unary x⟩) (hself_ref7_reader_binary : Snd Tryz.prog S ⟨17, [.obj [.data (.st 8)], .val (.data (.int .i64))], [.val (.data (.st 3))], fun x => self_ref7_reader_binary x.1 x.2⟩) (k : Nat) : Snd Tryz.prog S ⟨29, [.obj [.data (.st 8)]], [.val (.data (.st 3))], fun x => ref7_reader_unary_b self_ref7_reader_unary self_ref7_reader_binary k x⟩ :=
  fn_ok progOk (T := (ref7_reader_unary_T self_ref7_reader_unary self_ref7_reader_binary)) (all_cons ref7_reader_is_snd (all_cons (ref7_reader_prim_snd self_ref7_reader_binary hself_ref7_reader_binary) (all_cons ref7_reader_enter_snd (all_cons hself (all_nil))))) (all_nil) (all_nil) mixed Tryz.func29 rfl (by kernel_rfl) (ac_code [] Tryz.f29 rfl) (L := ref7_reader_unary_L self_ref7_reader_unary self_ref7_reader_binary)
    (fun n l h x => by cases h) (fun k n l h => by cases h)
    (fun k => All.mem (ref7_reader_unary_vc self_ref7_reader_unary self_ref7_reader_binary k) trivial) (fun x r h => ⟨k, (ref7_reader_unary_eq self_ref7_reader_unary self_ref7_reader_binary k x).symm.trans h⟩) (by kernel_rfl) (by kernel_rfl) (Nat.le_of_ble_eq_true (by kernel_rfl)) (by kernel_rfl)
theorem ref7_reader_unary_sndf (self_ref7_reader_binary : ref7_reader → Int → Option (api_Expr × ref7_reader)) (hself_ref7_reader_binary : Snd Tryz.prog S ⟨17, [.obj [.data (.st 8)], .val (.data (.int .i64))], [.val (.data (.st 3))], fun x => self_ref7_reader_binary x.1 x.2⟩) : ∀ k, Snd Tryz.prog S ⟨29, [.obj [.data (.st 8)]], [.val (.data (.st 3))], fun x => ref7_reader_unary_f self_ref7_reader_binary k x⟩
  | 0 => Snd.none ⟨_, Tryz.func29, by kernel_rfl, by kernel_rfl⟩ fun _ => rfl
  | k + 1 => ref7_reader_unary_sndk (ref7_reader_unary_f self_ref7_reader_binary k) self_ref7_reader_binary (ref7_reader_unary_sndf self_ref7_reader_binary hself_ref7_reader_binary k) hself_ref7_reader_binary k
theorem ref7_reader_unary_snd (self_ref7_reader_binary : ref7_reader → Int → Option (api_Expr × ref7_reader)) (hself_ref7_reader_binary : Snd Tryz.prog S ⟨17, [.obj [.data (.st 8)], .val (.data (.int .i64))], [.val (.data (.st 3))], fun x => self_ref7_reader_binary x.1 x.2⟩) : Snd Tryz.prog S ⟨29, [.obj [.data (.st 8)]], [.val (.data (.st 3))], fun x => ref7_reader_unary self_ref7_reader_binary x⟩ := Snd.lim (ref7_reader_unary_sndf self_ref7_reader_binary hself_ref7_reader_binary)
/-! ### 46 cotillion/cotillionref7.at -/
noncomputable def ref7_at  (level : Int) (own : Int) (kind : Int) : Option Int := if level = own then some kind else some 0
noncomputable abbrev ref7_at_T : Tab S := ⟨[], [], false, false, none, []⟩
noncomputable def ref7_at_L (k : Nat) : Nat → List (Lab S Int)
  | _ => []
theorem ref7_at_eq (k : Nat) (level : Int) (own : Int) (kind : Int) : ref7_at level own kind = exec S (ref7_at_T) byt (labs S (ref7_at_T) (ref7_at_L k)) (ac [] Tryz.f46) (frame0 S [.val (.data (.int .i64)), .val (.data (.int .i64)), .val (.data (.int .i64))] (level, own, kind)) (retK S (ref7_at_T) Tryz.f46 [.val (.data (.int .i64)), .val (.data (.int .i64)), .val (.data (.int .i64))] [.val (.data (.int .i64))]) := by kernel_rfl
theorem ref7_at_vc (k : Nat) : VC S (ref7_at_T) byt (ref7_at_L k) (ref7_at_L (k + 1)) (ac [] Tryz.f46) (retK S (ref7_at_T) Tryz.f46 [.val (.data (.int .i64)), .val (.data (.int .i64)), .val (.data (.int .i64))] [.val (.data (.int .i64))]) = [] := by kernel_rfl
theorem ref7_at_snd : Snd Tryz.prog S ⟨46, [.val (.data (.int .i64)), .val (.data (.int .i64)), .val (.data (.int .i64))], [.val (.data (.int .i64))], fun x => ref7_at x.1 x.2.1 x.2.2⟩ :=
  fn_ok progOk (T := (ref7_at_T)) (all_nil) (all_nil) (all_nil) mixed Tryz.func46 rfl (by kernel_rfl) (ac_code [] Tryz.f46 rfl) (L := ref7_at_L)
    (fun n l h x => by cases h) (fun k n l h => by cases h)
    (fun k => All.mem (ref7_at_vc k) trivial) (fun x r h => ⟨0, (ref7_at_eq 0 x.1 x.2.1 x.2.2).symm.trans h⟩) (by kernel_rfl) (by kernel_rfl) (Nat.le_of_ble_eq_true (by kernel_rfl)) (by kernel_rfl)
/-! ### 30 cotillion/cotillionref7.kind -/
noncomputable def ref7_kind  (level : Int) (s : List UInt8) : Option Int := if s = s_bar_bar then
    (ref7_at level 1 19).bind fun r1 =>
    some r1 else
    if s = s_amp_amp then
    (ref7_at level 2 18).bind fun r2 =>
    some r2 else
    if s = s_lt then
    (ref7_at level 3 12).bind fun r3 =>
    some r3 else
    if s = s_lt_eq then
    (ref7_at level 3 13).bind fun r4 =>
    some r4 else
    if s = s_gt then
    (ref7_at level 3 14).bind fun r5 =>
    some r5 else
    if s = s_gt_eq then
    (ref7_at level 3 15).bind fun r6 =>
    some r6 else
    if s = s_eq_eq then
    (ref7_at level 3 16).bind fun r7 =>
    some r7 else
    if s = s_bang_eq then
    (ref7_at level 3 17).bind fun r8 =>
    some r8 else
    if s = s_plus then
    (ref7_at level 4 10).bind fun r9 =>
    some r9 else
    if s = s_minus then
    (ref7_at level 4 11).bind fun r10 =>
    some r10 else
    if s = s_star then
    (ref7_at level 5 7).bind fun r11 =>
    some r11 else
    if s = s_slash then
    (ref7_at level 5 8).bind fun r12 =>
    some r12 else
    if s = s_pct then
    (ref7_at level 5 9).bind fun r13 =>
    some r13 else
    some 0
noncomputable abbrev ref7_kind_T : Tab S := ⟨[⟨46, [.val (.data (.int .i64)), .val (.data (.int .i64)), .val (.data (.int .i64))], [.val (.data (.int .i64))], fun x => ref7_at x.1 x.2.1 x.2.2⟩], [], false, false, none, []⟩
noncomputable def ref7_kind_L (k : Nat) : Nat → List (Lab S Int)
  | _ => []
theorem ref7_kind_eq (k : Nat) (level : Int) (s : List UInt8) : ref7_kind level s = exec S (ref7_kind_T) byt (labs S (ref7_kind_T) (ref7_kind_L k)) (ac [] Tryz.f30) (frame0 S [.val (.data (.int .i64)), .val (.data .str)] (level, s)) (retK S (ref7_kind_T) Tryz.f30 [.val (.data (.int .i64)), .val (.data .str)] [.val (.data (.int .i64))]) := by kernel_rfl
theorem ref7_kind_vc (k : Nat) : VC S (ref7_kind_T) byt (ref7_kind_L k) (ref7_kind_L (k + 1)) (ac [] Tryz.f30) (retK S (ref7_kind_T) Tryz.f30 [.val (.data (.int .i64)), .val (.data .str)] [.val (.data (.int .i64))]) = [] := by kernel_rfl
theorem ref7_kind_snd : Snd Tryz.prog S ⟨30, [.val (.data (.int .i64)), .val (.data .str)], [.val (.data (.int .i64))], fun x => ref7_kind x.1 x.2⟩ :=
  fn_ok progOk (T := (ref7_kind_T)) (all_cons ref7_at_snd (all_nil)) (all_nil) (all_nil) mixed Tryz.func30 rfl (by kernel_rfl) (ac_code [] Tryz.f30 rfl) (L := ref7_kind_L)
    (fun n l h x => by cases h) (fun k n l h => by cases h)
    (fun k => All.mem (ref7_kind_vc k) trivial) (fun x r h => ⟨0, (ref7_kind_eq 0 x.1 x.2).symm.trans h⟩) (by kernel_rfl) (by kernel_rfl) (Nat.le_of_ble_eq_true (by kernel_rfl)) (by kernel_rfl)
/-! ### 17 (*cotillion/cotillionref7.reader).binary -/
mutual
noncomputable def ref7_reader_binary_l0 (self_ref7_reader_binary : ref7_reader → Int → Option (api_Expr × ref7_reader)) : Nat → (List api_Token) → Int → Int → Int → Int → Int → Int → Int → (List UInt8) → (List api_Expr) → Int → Int → Int → (List UInt8) → (List api_Expr) → Int → Option (api_Expr × ref7_reader)
  | 0, _, _, _, _, _, _, _, _, _, _, _, _, _, _, _, _ => none
  | k + 1, r__l, r__v_at, r__v_open, r__bad_Code, r__bad_At, level, x4_Kind, x4_N, x4_Name, x4_Kids, x4_At, e_Kind, e_N, e_Name, e_Kids, e_At => if r__bad_Code = 0 then
    if r__v_at < (r__l.length : Int) then
    if 0 ≤ r__v_at then
    if r__v_at < (r__l.length : Int) then
    if ((r__l.getD r__v_at.toNat api_Token.z).Kind) = 3 then
    ref7_reader_binary_c0 self_ref7_reader_binary k r__l r__v_at r__v_open r__bad_Code r__bad_At level x4_Kind x4_N x4_Name x4_Kids x4_At e_Kind e_N e_Name e_Kids e_At else
    some (api_Expr.mk e_Kind e_N e_Name e_Kids e_At, ref7_reader.mk r__l r__v_at r__v_open (api_Fault.mk r__bad_Code r__bad_At)) else none else none else
    some (api_Expr.mk e_Kind e_N e_Name e_Kids e_At, ref7_reader.mk r__l r__v_at r__v_open (api_Fault.mk r__bad_Code r__bad_At)) else
    some (api_Expr.mk e_Kind e_N e_Name e_Kids e_At, ref7_reader.mk r__l r__v_at r__v_open (api_Fault.mk r__bad_Code r__bad_At))
noncomputable def ref7_reader_binary_c0 (self_ref7_reader_binary : ref7_reader → Int → Option (api_Expr × ref7_reader)) : Nat → (List api_Token) → Int → Int → Int → Int → Int → Int → Int → (List UInt8) → (List api_Expr) → Int → Int → Int → (List UInt8) → (List api_Expr) → Int → Option (api_Expr × ref7_reader)
  | 0, _, _, _, _, _, _, _, _, _, _, _, _, _, _, _, _ => none
  | k + 1, r__l, r__v_at, r__v_open, r__bad_Code, r__bad_At, level, x4_Kind, x4_N, x4_Name, x4_Kids, x4_At, e_Kind, e_N, e_Name, e_Kids, e_At => if 0 ≤ r__v_at then
    if r__v_at < (r__l.length : Int) then
    (ref7_kind level ((r__l.getD r__v_at.toNat api_Token.z).Text)).bind fun r3 =>
    if r3 = 0 then
    some (api_Expr.mk e_Kind e_N e_Name e_Kids e_At, ref7_reader.mk r__l r__v_at r__v_open (api_Fault.mk r__bad_Code r__bad_At)) else
    if 0 ≤ r__v_at then
    if r__v_at < (r__l.length : Int) then
    (self_ref7_reader_binary (ref7_reader.mk r__l (w64 (r__v_at + 1)) r__v_open (api_Fault.mk r__bad_Code r__bad_At)) (w64 (level + 1))).bind fun r4 =>
    if level = 3 then
    some (api_Expr.mk r3 0 [] [api_Expr.mk e_Kind e_N e_Name e_Kids e_At, api_Expr.mk r4.1.Kind r4.1.N r4.1.Name r4.1.Kids r4.1.At] ((r__l.getD r__v_at.toNat api_Token.z).At), r4.2) else
    ref7_reader_binary_l0 self_ref7_reader_binary k r4.2.l r4.2.v_at r4.2.v_open r4.2.bad.Code r4.2.bad.At level x4_Kind x4_N x4_Name x4_Kids x4_At r3 0 [] [api_Expr.mk e_Kind e_N e_Name e_Kids e_At, api_Expr.mk r4.1.Kind r4.1.N r4.1.Name r4.1.Kids r4.1.At] ((r__l.getD r__v_at.toNat api_Token.z).At) else none else none else none else none
end
noncomputable def ref7_reader_binary_b (self_ref7_reader_binary : ref7_reader → Int → Option (api_Expr × ref7_reader)) (k : Nat) (r_ : ref7_reader) (level : Int) : Option (api_Expr × ref7_reader) := if level = 6 then
    (ref7_reader_unary self_ref7_reader_binary r_).bind fun r1 =>
    some (api_Expr.mk r1.1.Kind r1.1.N r1.1.Name r1.1.Kids r1.1.At, r1.2) else
    (self_ref7_reader_binary r_ (w64 (level + 1))).bind fun r2 =>
    ref7_reader_binary_l0 self_ref7_reader_binary k r2.2.l r2.2.v_at r2.2.v_open r2.2.bad.Code r2.2.bad.At level 0 0 [] [] 0 r2.1.Kind r2.1.N r2.1.Name r2.1.Kids r2.1.At
noncomputable def ref7_reader_binary_f : Nat → ref7_reader → Int → Option (api_Expr × ref7_reader)
  | 0, _, _ => none
  | k + 1, x0, x1 => ref7_reader_binary_b (ref7_reader_binary_f k) k x0 x1
noncomputable def ref7_reader_binary  (r_ : ref7_reader) (level : Int) : Option (api_Expr × ref7_reader) := lim (fun k (x : ref7_reader × Int) => ref7_reader_binary_f k x.1 x.2) (r_, level)
noncomputable abbrev ref7_reader_binary_T (self_ref7_reader_binary : ref7_reader → Int → Option (api_Expr × ref7_reader)) : Tab S := ⟨[⟨29, [.obj [.data (.st 8)]], [.val (.data (.st 3))], fun x => ref7_reader_unary self_ref7_reader_binary x⟩, ⟨17, [.obj [.data (.st 8)], .val (.data (.int .i64))], [.val (.data (.st 3))], fun x => self_ref7_reader_binary x.1 x.2⟩, ⟨30, [.val (.data (.int .i64)), .val (.data .str)], [.val (.data (.int .i64))], fun x => ref7_kind x.1 x.2⟩], [], false, false, none, []⟩
noncomputable def ref7_reader_binary_L (self_ref7_reader_binary : ref7_reader → Int → Option (api_Expr × ref7_reader)) (k : Nat) : Nat → List (Lab S (api_Expr × ref7_reader))
  | 0 => [⟨[0, 1, 4, 5], [.obj [.data (.sl (.st 0)), .data (.int .i64), .data (.int .i64), .data (.int .i64), .data (.int .i64)], .val (.data (.int .i64)), .obj [.data (.int .i64), .data (.int .i64), .data .str, .marr (.st 3), .data (.int .i64)], .obj [.data (.int .i64), .data (.int .i64), .data .str, .data (.sl (.st 3)), .data (.int .i64)]], fun x => ref7_reader_binary_l0 self_ref7_reader_binary k x.1.1 x.1.2.1 x.1.2.2.1 x.1.2.2.2.1 x.1.2.2.2.2 x.2.1 x.2.2.1.1 x.2.2.1.2.1 x.2.2.1.2.2.1 x.2.2.1.2.2.2.1 x.2.2.1.2.2.2.2 x.2.2.2.1 x.2.2.2.2.1 x.2.2.2.2.2.1 x.2.2.2.2.2.2.1 x.2.2.2.2.2.2.2, false⟩]
  | 1 => [⟨[0, 1, 4, 5], [.obj [.data (.sl (.st 0)), .data (.int .i64), .data (.int .i64), .data (.int .i64), .data (.int .i64)], .val (.data (.int .i64)), .obj [.data (.int .i64), .data (.int .i64), .data .str, .marr (.st 3), .data (.int .i64)], .obj [.data (.int .i64), .data (.int .i64), .data .str, .data (.sl (.st 3)), .data (.int .i64)]], fun x => ref7_reader_binary_c0 self_ref7_reader_binary k x.1.1 x.1.2.1 x.1.2.2.1 x.1.2.2.2.1 x.1.2.2.2.2 x.2.1 x.2.2.1.1 x.2.2.1.2.1 x.2.2.1.2.2.1 x.2.2.1.2.2.2.1 x.2.2.1.2.2.2.2 x.2.2.2.1 x.2.2.2.2.1 x.2.2.2.2.2.1 x.2.2.2.2.2.2.1 x.2.2.2.2.2.2.2, false⟩]
  | _ + 2 => []
theorem ref7_reader_binary_eq (self_ref7_reader_binary : ref7_reader → Int → Option (api_Expr × ref7_reader)) (k : Nat) (r_ : ref7_reader) (level : Int) : ref7_reader_binary_b self_ref7_reader_binary k r_ level = exec S (ref7_reader_binary_T self_ref7_reader_binary) byt (labs S (ref7_reader_binary_T self_ref7_reader_binary) (ref7_reader_binary_L self_ref7_reader_binary k)) (ac [6] Tryz.f17) (frame0 S [.obj [.data (.st 8)], .val (.data (.int .i64))] (r_, level)) (retK S (ref7_reader_binary_T self_ref7_reader_binary) Tryz.f17 [.obj [.data (.st 8)], .val (.data (.int .i64))] [.val (.data (.st 3))]) := by kernel_rfl
theorem ref7_reader_binary_vc (self_ref7_reader_binary : ref7_reader → Int → Option (api_Expr × ref7_reader)) (k : Nat) : VC S (ref7_reader_binary_T self_ref7_reader_binary) byt (ref7_reader_binary_L self_ref7_reader_binary k) (ref7_reader_binary_L self_ref7_reader_binary (k + 1)) (ac [6] Tryz.f17) (retK S (ref7_reader_binary_T self_ref7_reader_binary) Tryz.f17 [.obj [.data (.st 8)], .val (.data (.int .i64))] [.val (.data (.st 3))]) = [∀ x : (List api_Token × Int × Int × Int × Int) × Int × (Int × Int × List UInt8 × List api_Expr × Int) × (Int × Int × List UInt8 × List api_Expr × Int), ref7_reader_binary_c0 self_ref7_reader_binary (k + 1) x.1.1 x.1.2.1 x.1.2.2.1 x.1.2.2.2.1 x.1.2.2.2.2 x.2.1 x.2.2.1.1 x.2.2.1.2.1 x.2.2.1.2.2.1 x.2.2.1.2.2.2.1 x.2.2.1.2.2.2.2 x.2.2.2.1 x.2.2.2.2.1 x.2.2.2.2.2.1 x.2.2.2.2.2.2.1 x.2.2.2.2.2.2.2 = ref7_reader_binary_c0 self_ref7_reader_binary (k + 1) x.1.1 x.1.2.1 x.1.2.2.1 x.1.2.2.2.1 x.1.2.2.2.2 x.2.1 x.2.2.1.1 x.2.2.1.2.1 x.2.2.1.2.2.1 x.2.2.1.2.2.2.1 x.2.2.1.2.2.2.2 x.2.2.2.1 x.2.2.2.2.1 x.2.2.2.2.2.1 x.2.2.2.2.2.2.1 x.2.2.2.2.2.2.2, ∀ x : (List api_Token × Int × Int × Int × Int) × Int × (Int × Int × List UInt8 × List api_Expr × Int) × (Int × Int × List UInt8 × List api_Expr × Int), ref7_reader_binary_l0 self_ref7_reader_binary (k + 1) x.1.1 x.1.2.1 x.1.2.2.1 x.1.2.2.2.1 x.1.2.2.2.2 x.2.1 x.2.2.1.1 x.2.2.1.2.1 x.2.2.1.2.2.1 x.2.2.1.2.2.2.1 x.2.2.1.2.2.2.2 x.2.2.2.1 x.2.2.2.2.1 x.2.2.2.2.2.1 x.2.2.2.2.2.2.1 x.2.2.2.2.2.2.2 = ref7_reader_binary_l0 self_ref7_reader_binary (k + 1) x.1.1 x.1.2.1 x.1.2.2.1 x.1.2.2.2.1 x.1.2.2.2.2 x.2.1 x.2.2.1.1 x.2.2.1.2.1 x.2.2.1.2.2.1 x.2.2.1.2.2.2.1 x.2.2.1.2.2.2.2 x.2.2.2.1 x.2.2.2.2.1 x.2.2.2.2.2.1 x.2.2.2.2.2.2.1 x.2.2.2.2.2.2.2] := by kernel_rfl
theorem ref7_reader_binary_sndk (self_ref7_reader_binary : ref7_reader → Int → Option (api_Expr × ref7_reader)) (hself : Snd Tryz.prog S ⟨17, [.obj [.data (.st 8)], .val (.data (.int .i64))], [.val (.data (.st 3))], fun x => self_ref7_reader_binary x.1 x.2⟩) (k : Nat) : Snd Tryz.prog S ⟨17, [.obj [.data (.st 8)], .val (.data (.int .i64))], [.val (.data (.st 3))], fun x => ref7_reader_binary_b self_ref7_reader_binary k x.1 x.2⟩ :=
  fn_ok progOk (T := (ref7_reader_binary_T self_ref7_reader_binary)) (all_cons (ref7_reader_unary_snd self_ref7_reader_binary hself) (all_cons hself (all_cons ref7_kind_snd (all_nil)))) (all_nil) (all_nil) mixed Tryz.func17 rfl (by kernel_rfl) (ac_code [6] Tryz.f17 rfl) (L := ref7_reader_binary_L self_ref7_reader_binary)
    (fun n l h x => by match n, h with
        | 0, h => 
          rcases List.mem_cons.1 h with rfl | h
          · rfl
          cases h
        | 1, h => 
          rcases List.mem_cons.1 h with rfl | h
          · rfl
          cases h
        | _ + 2, h => cases h) (fun k n l h => by match n, h with
        | 0, h => 
          rcases List.mem_cons.1 h with rfl | h
          · rfl
          cases h
        | 1, h => 
          rcases List.mem_cons.1 h with rfl | h
          · rfl
          cases h
        | _ + 2, h => cases h)
    (fun k => All.mem (ref7_reader_binary_vc self_ref7_reader_binary k) ⟨fun _ => rfl, ⟨fun _ => rfl, trivial⟩⟩) (fun x r h => ⟨k, (ref7_reader_binary_eq self_ref7_reader_binary k x.1 x.2).symm.trans h⟩) (by kernel_rfl) (by kernel_rfl) (Nat.le_of_ble_eq_true (by kernel_rfl)) (by kernel_rfl)
theorem ref7_reader_binary_sndf : ∀ k, Snd Tryz.prog S ⟨17, [.obj [.data (.st 8)], .val (.data (.int .i64))], [.val (.data (.st 3))], fun x => ref7_reader_binary_f k x.1 x.2⟩
  | 0 => Snd.none ⟨_, Tryz.func17, by kernel_rfl, by kernel_rfl⟩ fun _ => rfl
  | k + 1 => ref7_reader_binary_sndk (ref7_reader_binary_f k) (ref7_reader_binary_sndf k) k
theorem ref7_reader_binary_snd : Snd Tryz.prog S ⟨17, [.obj [.data (.st 8)], .val (.data (.int .i64))], [.val (.data (.st 3))], fun x => ref7_reader_binary x.1 x.2⟩ := Snd.lim (ref7_reader_binary_sndf)
/-! ### 8 cotillion/cotillionref7.Parse -/
noncomputable def ref7_Parse  (l : List api_Token) (v_at : Int) : Option (api_Expr × Int × api_Fault) := (ref7_reader_binary (ref7_reader.mk l v_at 0 (api_Fault.mk 0 0)) 1).bind fun r1 =>
    if r1.2.bad.Code ≠ 0 then
    some (api_Expr.mk 0 0 [] [] 0, 0, r1.2.bad) else
    some (api_Expr.mk r1.1.Kind r1.1.N r1.1.Name r1.1.Kids r1.1.At, r1.2.v_at, api_Fault.mk 0 0)
noncomputable abbrev ref7_Parse_T : Tab S := ⟨[⟨17, [.obj [.data (.st 8)], .val (.data (.int .i64))], [.val (.data (.st 3))], fun x => ref7_reader_binary x.1 x.2⟩], [], false, false, none, []⟩
noncomputable def ref7_Parse_L (k : Nat) : Nat → List (Lab S (api_Expr × Int × api_Fault))
  | _ => []
theorem ref7_Parse_eq (k : Nat) (l : List api_Token) (v_at : Int) : ref7_Parse l v_at = exec S (ref7_Parse_T) byt (labs S (ref7_Parse_T) (ref7_Parse_L k)) (ac [] Tryz.f8) (frame0 S [.val (.data (.sl (.st 0))), .val (.data (.int .i64))] (l, v_at)) (retK S (ref7_Parse_T) Tryz.f8 [.val (.data (.sl (.st 0))), .val (.data (.int .i64))] [.val (.data (.st 3)), .val (.data (.int .i64)), .val (.data (.st 1))]) := by kernel_rfl
theorem ref7_Parse_vc (k : Nat) : VC S (ref7_Parse_T) byt (ref7_Parse_L k) (ref7_Parse_L (k + 1)) (ac [] Tryz.f8) (retK S (ref7_Parse_T) Tryz.f8 [.val (.data (.sl (.st 0))), .val (.data (.int .i64))] [.val (.data (.st 3)), .val (.data (.int .i64)), .val (.data (.st 1))]) = [] := by kernel_rfl
theorem ref7_Parse_snd : Snd Tryz.prog S ⟨8, [.val (.data (.sl (.st 0))), .val (.data (.int .i64))], [.val (.data (.st 3)), .val (.data (.int .i64)), .val (.data (.st 1))], fun x => ref7_Parse x.1 x.2⟩ :=
  fn_ok progOk (T := (ref7_Parse_T)) (all_cons ref7_reader_binary_snd (all_nil)) (all_nil) (all_nil) mixed Tryz.func8 rfl (by kernel_rfl) (ac_code [] Tryz.f8 rfl) (L := ref7_Parse_L)
    (fun n l h x => by cases h) (fun k n l h => by cases h)
    (fun k => All.mem (ref7_Parse_vc k) trivial) (fun x r h => ⟨0, (ref7_Parse_eq 0 x.1 x.2).symm.trans h⟩) (by kernel_rfl) (by kernel_rfl) (Nat.le_of_ble_eq_true (by kernel_rfl)) (by kernel_rfl)
/-! ### 9 cotillion/cotillionlaw7.same -/
noncomputable def law7_same_l0 (self_law7_same : api_Expr → api_Expr → Option Bool) : Nat → Int → Int → (List UInt8) → (List api_Expr) → Int → Int → Int → (List UInt8) → (List api_Expr) → Int → Int → Option Bool
  | 0, _, _, _, _, _, _, _, _, _, _, _ => none
  | k + 1, a_Kind, a_N, a_Name, a_Kids, a_At, b_Kind, b_N, b_Name, b_Kids, b_At, i => if i < (a_Kids.length : Int) then
    if 0 ≤ i then
    if i < (a_Kids.length : Int) then
    if 0 ≤ i then
    if i < (b_Kids.length : Int) then
    (self_law7_same (a_Kids.getD i.toNat api_Expr.z) (b_Kids.getD i.toNat api_Expr.z)).bind fun r1 =>
    bif !r1 then
    some false else
    law7_same_l0 self_law7_same k a_Kind a_N a_Name a_Kids a_At b_Kind b_N b_Name b_Kids b_At (w64 (i + 1)) else none else none else none else none else
    some true
noncomputable def law7_same_b (self_law7_same : api_Expr → api_Expr → Option Bool) (k : Nat) (a : api_Expr) (b : api_Expr) : Option Bool := if a.At ≠ b.At then
    some false else
    if a.Kind ≠ b.Kind then
    some false else
    if a.N ≠ b.N then
    some false else
    if a.Name ≠ b.Name then
    some false else
    if (a.Kids.length : Int) ≠ (b.Kids.length : Int) then
    some false else
    law7_same_l0 self_law7_same k a.Kind a.N a.Name a.Kids a.At b.Kind b.N b.Name b.Kids b.At 0
noncomputable def law7_same_f : Nat → api_Expr → api_Expr → Option Bool
  | 0, _, _ => none
  | k + 1, x0, x1 => law7_same_b (law7_same_f k) k x0 x1
noncomputable def law7_same  (a : api_Expr) (b : api_Expr) : Option Bool := lim (fun k (x : api_Expr × api_Expr) => law7_same_f k x.1 x.2) (a, b)
noncomputable abbrev law7_same_T (self_law7_same : api_Expr → api_Expr → Option Bool) : Tab S := ⟨[⟨9, [.val (.data (.st 3)), .val (.data (.st 3))], [.val (.data .bool)], fun x => self_law7_same x.1 x.2⟩], [], false, false, none, []⟩
noncomputable def law7_same_L (self_law7_same : api_Expr → api_Expr → Option Bool) (k : Nat) : Nat → List (Lab S Bool)
  | 0 => [⟨[2, 3, 5], [.obj [.data (.int .i64), .data (.int .i64), .data .str, .data (.sl (.st 3)), .data (.int .i64)], .obj [.data (.int .i64), .data (.int .i64), .data .str, .data (.sl (.st 3)), .data (.int .i64)], .val (.data (.int .i64))], fun x => law7_same_l0 self_law7_same k x.1.1 x.1.2.1 x.1.2.2.1 x.1.2.2.2.1 x.1.2.2.2.2 x.2.1.1 x.2.1.2.1 x.2.1.2.2.1 x.2.1.2.2.2.1 x.2.1.2.2.2.2 x.2.2, false⟩]
  | _ + 1 => []
theorem law7_same_eq (self_law7_same : api_Expr → api_Expr → Option Bool) (k : Nat) (a : api_Expr) (b : api_Expr) : law7_same_b self_law7_same k a b = exec S (law7_same_T self_law7_same) byt (labs S (law7_same_T self_law7_same) (law7_same_L self_law7_same k)) (ac [] Tryz.f9) (frame0 S [.val (.data (.st 3)), .val (.data (.st 3))] (a, b)) (retK S (law7_same_T self_law7_same) Tryz.f9 [.val (.data (.st 3)), .val (.data (.st 3))] [.val (.data .bool)]) := by kernel_rfl
theorem law7_same_vc (self_law7_same : api_Expr → api_Expr → Option Bool) (k : Nat) : VC S (law7_same_T self_law7_same) byt (law7_same_L self_law7_same k) (law7_same_L self_law7_same (k + 1)) (ac [] Tryz.f9) (retK S (law7_same_T self_law7_same) Tryz.f9 [.val (.data (.st 3)), .val (.data (.st 3))] [.val (.data .bool)]) = [∀ x : (Int × Int × List UInt8 × List api_Expr × Int) × (Int × Int × List UInt8 × List api_Expr × Int) × Int, law7_same_l0 self_law7_same (k + 1) x.1.1 x.1.2.1 x.1.2.2.1 x.1.2.2.2.1 x.1.2.2.2.2 x.2.1.1 x.2.1.2.1 x.2.1.2.2.1 x.2.1.2.2.2.1 x.2.1.2.2.2.2 x.2.2 = law7_same_l0 self_law7_same (k + 1) x.1.1 x.1.2.1 x.1.2.2.1 x.1.2.2.2.1 x.1.2.2.2.2 x.2.1.1 x.2.1.2.1 x.2.1.2.2.1 x.2.1.2.2.2.1 x.2.1.2.2.2.2 x.2.2] := by kernel_rfl
theorem law7_same_sndk (self_law7_same : api_Expr → api_Expr → Option Bool) (hself : Snd Tryz.prog S ⟨9, [.val (.data (.st 3)), .val (.data (.st 3))], [.val (.data .bool)], fun x => self_law7_same x.1 x.2⟩) (k : Nat) : Snd Tryz.prog S ⟨9, [.val (.data (.st 3)), .val (.data (.st 3))], [.val (.data .bool)], fun x => law7_same_b self_law7_same k x.1 x.2⟩ :=
  fn_ok progOk (T := (law7_same_T self_law7_same)) (all_cons hself (all_nil)) (all_nil) (all_nil) mixed Tryz.func9 rfl (by kernel_rfl) (ac_code [] Tryz.f9 rfl) (L := law7_same_L self_law7_same)
    (fun n l h x => by match n, h with
        | 0, h => 
          rcases List.mem_cons.1 h with rfl | h
          · rfl
          cases h
        | _ + 1, h => cases h) (fun k n l h => by match n, h with
        | 0, h => 
          rcases List.mem_cons.1 h with rfl | h
          · rfl
          cases h
        | _ + 1, h => cases h)
    (fun k => All.mem (law7_same_vc self_law7_same k) ⟨fun _ => rfl, trivial⟩) (fun x r h => ⟨k, (law7_same_eq self_law7_same k x.1 x.2).symm.trans h⟩) (by kernel_rfl) (by kernel_rfl) (Nat.le_of_ble_eq_true (by kernel_rfl)) (by kernel_rfl)
theorem law7_same_sndf : ∀ k, Snd Tryz.prog S ⟨9, [.val (.data (.st 3)), .val (.data (.st 3))], [.val (.data .bool)], fun x => law7_same_f k x.1 x.2⟩
  | 0 => Snd.none ⟨_, Tryz.func9, by kernel_rfl, by kernel_rfl⟩ fun _ => rfl
  | k + 1 => law7_same_sndk (law7_same_f k) (law7_same_sndf k) k
theorem law7_same_snd : Snd Tryz.prog S ⟨9, [.val (.data (.st 3)), .val (.data (.st 3))], [.val (.data .bool)], fun x => law7_same x.1 x.2⟩ := Snd.lim (law7_same_sndf)
/-! ### 3 cotillion/cotillionlaw7.ExprReads -/
noncomputable def law7_ExprReads  (s : List UInt8) (v_at : Int) : Option Bool := (ref6_All s).bind fun r1 =>
    if r1.2.Code ≠ 0 then
    (law7_known).bind fun r2 =>
    some r2 else
    if 2000 < (s.length : Int) then
    (law7_known).bind fun r3 =>
    some r3 else
    (ref37_Place v_at (r1.1.length : Int)).bind fun r4 =>
    (expr_Parse r1.1 r4).bind fun r5 =>
    (ref7_Parse r1.1 r4).bind fun r6 =>
    if r5.2.1 = r6.2.1 then
    if r5.2.2.Code = r6.2.2.Code ∧ r5.2.2.At = r6.2.2.At then
    (law7_same (api_Expr.mk r5.1.Kind r5.1.N r5.1.Name r5.1.Kids r5.1.At) (api_Expr.mk r6.1.Kind r6.1.N r6.1.Name r6.1.Kids r6.1.At)).bind fun r7 =>
    bif r7 then
    (law7_known).bind fun r8 =>
    some r8 else
    some false else
    some false else
    some false
noncomputable abbrev law7_ExprReads_T : Tab S := ⟨[⟨4, [.val (.data .str)], [.val (.town (.st 0)), .val (.data (.st 1))], fun x => ref6_All x⟩, ⟨5, [], [.val (.data .bool)], fun x => law7_known⟩, ⟨6, [.val (.data (.int .i64)), .val (.data (.int .i64))], [.val (.data (.int .i64))], fun x => ref37_Place x.1 x.2⟩, ⟨7, [.val (.data (.sl (.st 0))), .val (.data (.int .i64))], [.val (.data (.st 3)), .val (.data (.int .i64)), .val (.data (.st 1))], fun x => expr_Parse x.1 x.2⟩, ⟨8, [.val (.data (.sl (.st 0))), .val (.data (.int .i64))], [.val (.data (.st 3)), .val (.data (.int .i64)), .val (.data (.st 1))], fun x => ref7_Parse x.1 x.2⟩, ⟨9, [.val (.data (.st 3)), .val (.data (.st 3))], [.val (.data .bool)], fun x => law7_same x.1 x.2⟩], [], false, false, none, []⟩
noncomputable def law7_ExprReads_L (k : Nat) : Nat → List (Lab S Bool)
  | _ => []
theorem law7_ExprReads_eq (k : Nat) (s : List UInt8) (v_at : Int) : law7_ExprReads s v_at = exec S (law7_ExprReads_T) byt (labs S (law7_ExprReads_T) (law7_ExprReads_L k)) (ac [] Tryz.f3) (frame0 S [.val (.data .str), .val (.data (.int .i64))] (s, v_at)) (retK S (law7_ExprReads_T) Tryz.f3 [.val (.data .str), .val (.data (.int .i64))] [.val (.data .bool)]) := by kernel_rfl
theorem law7_ExprReads_vc (k : Nat) : VC S (law7_ExprReads_T) byt (law7_ExprReads_L k) (law7_ExprReads_L (k + 1)) (ac [] Tryz.f3) (retK S (law7_ExprReads_T) Tryz.f3 [.val (.data .str), .val (.data (.int .i64))] [.val (.data .bool)]) = [] := by kernel_rfl
theorem law7_ExprReads_snd : Snd Tryz.prog S ⟨3, [.val (.data .str), .val (.data (.int .i64))], [.val (.data .bool)], fun x => law7_ExprReads x.1 x.2⟩ :=
  fn_ok progOk (T := (law7_ExprReads_T)) (all_cons ref6_All_snd (all_cons law7_known_snd (all_cons ref37_Place_snd (all_cons expr_Parse_snd (all_cons ref7_Parse_snd (all_cons law7_same_snd (all_nil))))))) (all_nil) (all_nil) mixed Tryz.func3 rfl (by kernel_rfl) (ac_code [] Tryz.f3 rfl) (L := law7_ExprReads_L)
    (fun n l h x => by cases h) (fun k n l h => by cases h)
    (fun k => All.mem (law7_ExprReads_vc k) trivial) (fun x r h => ⟨0, (law7_ExprReads_eq 0 x.1 x.2).symm.trans h⟩) (by kernel_rfl) (by kernel_rfl) (Nat.le_of_ble_eq_true (by kernel_rfl)) (by kernel_rfl)
end Go.Sy.Ex
/-! The start of a call: the package variables. -/
namespace Go.Sy.Ex
open Go Go.Sy Go.Proofs Go.Proofs.YtakpokjdemielaaGreatDoor
abbrev L7 : List (String × DataW Unit) := [("math/bits.deBruijn32tab", Rows.laid_math_bits_deBruijn32tab), ("math/bits.deBruijn64tab", Rows.laid_math_bits_deBruijn64tab), ("internal/strconv.uint64pow10", Rows.laid_internal_strconv_uint64pow10), ("strconv.ErrRange", Rows.laid_strconv_ErrRange), ("strconv.ErrSyntax", Rows.laid_strconv_ErrSyntax)]
theorem gER : Tryz.prog.globalNamed "strconv.ErrRange" = some 3 := by kernel_rfl
theorem gES : Tryz.prog.globalNamed "strconv.ErrSyntax" = some 2 := by kernel_rfl
theorem tER : (Tryz.prog.globals[3]?).map (·.type) = some 74 := by kernel_rfl
theorem tES : (Tryz.prog.globals[2]?).map (·.type) = some 74 := by kernel_rfl
theorem star : "*" ++ "errors.errorString" = "*errors.errorString" := by decide
theorem rowE (u : TypeId) (h : Tryz.prog.typeName? 3 u = some "*errors.errorString") : u = 133 :=
  typeName_ptr_named (nm := "errors.errorString") (by rw [star]; kernel_rfl) (by kernel_rfl) (by decide) u (by rw [star]; exact h)
theorem gPT : Tryz.prog.globalNamed "internal/strconv.uint64pow10" = some 0 := by kernel_rfl
theorem tPT : (Tryz.prog.globals[0]?).map (·.type) = some 113 := by kernel_rfl
theorem maxLen_cell {W : World} (h : W.ShapedOpen Tryz.prog) : ∃ m, W.cell? ⟨1, 0, none⟩ = some (.int .i64 m) :=
  cell_of_shapedOpen_int (t := 3) (zero := #[.int .i64 0]) h (of_decide_eq_true (by kernel_rfl)) (by kernel_rfl) rfl (by kernel_rfl) (by kernel_rfl) Tryz.underlying3
theorem glob0 {W : World} {M : St} (hM : NoSt M) (hL : laidMetH Tryz.prog L7 W) (hsh : W.ShapedOpen Tryz.prog) : Glob S W M := by
  rw [MakeChecks.laidMetH_plain _ _ _ (by kernel_rfl)] at hL
  have hT : Lib.TabIs Tryz.prog W "internal/strconv.uint64pow10" .u64 Lib.pow10Tab := Lib.tabIs_of_head gPT tPT Tryz.underlying113 Tryz.underlying104 (by kernel_rfl) (by kernel_rfl) hL.tail.tail
  obtain ⟨a0, s0, hv0, -, -, -⟩ := laid_sentinel hL.tail.tail.tail gER tER Tryz.underlying74 rowE Tryz.underlying133 Tryz.underlying135 rfl rfl Tryz.underlying9 (by kernel_rfl) (by kernel_rfl)
  have c1 := World.var?_cell gER hv0 0
  obtain ⟨a1, s1, hv1, -, -, -⟩ := laid_sentinel hL.tail.tail.tail.tail gES tES Tryz.underlying74 rowE Tryz.underlying133 Tryz.underlying135 rfl rfl Tryz.underlying9 (by kernel_rfl) (by kernel_rfl)
  have c0 := World.var?_cell gES hv1 0
  obtain ⟨m, c3⟩ := maxLen_cell hsh
  refine ⟨fun g hg => ?_, fun g hg => ?_⟩
  · simp only [List.mem_cons, List.not_mem_nil, or_false] at hg
    rcases hg with rfl | rfl | rfl
    · exact ⟨World.block_lt_of_cell? _ _ c3, hM _ _, _, c3, m, rfl⟩
    · exact ⟨World.block_lt_of_cell? _ _ (by simpa using c1), hM _ _, _, by simpa using c1, .inr ⟨_, _, rfl⟩⟩
    · exact ⟨World.block_lt_of_cell? _ _ (by simpa using c0), hM _ _, _, by simpa using c0, .inr ⟨_, _, rfl⟩⟩
  · simp only [List.mem_cons, List.not_mem_nil, or_false] at hg
    subst hg
    unfold Lib.TabIs World.var? at hT
    rw [gPT] at hT
    simp only [Option.bind_some] at hT
    split at hT
    · rename_i cs t f hb
      cases hT
      exact ⟨(Array.getElem?_eq_some_iff.1 hb).1, fun o => hM _ _, _, hb, t, f, rfl⟩
    · cases hT
end Go.Sy.Ex
namespace Go.Sy.Ex
open Go Go.Sy Go.Proofs Go.Proofs.YtakpokjdemielaaGreatDoor Go.ChangeShapes Go.WideShapes Go.RowKit
/-- A contract under a condition on the memory, the world's shape kept. -/
theorem returns_and_shaped {H : Type} {enc : TypeId × Value → H} {a : Assume} {C : Checked} {os : Os} {f : FuncId} {fn : Func} {s : ChangeSpec} {conds : List PathCond} {apart fresh handsOn again : Bool} {X : World → Array Value → Prop}
    (hX : ∀ (w w' : World) (args : Array Value), w.heap = w'.heap → X w args → X w' args)
    (own : ownKnob C.prog.godebug = none) (started : os.Started) (noInit : C.prog.inits.idxOf? f = none) (hfn : C.prog.funcs[f]? = some fn)
    (witness : ∃ (w : World) (tape : Tape) (i : Input), w.os = os ∧ (w.forCall tape i).Shaped C.prog ∧ i.vars = [] ∧ Input.okWide C.prog (w.forCall tape i) .any w.heap.size f i ∧
      ((s.pre enc C.prog fn conds apart (w.forCall tape i).memory i.args ∧ X (w.forCall tape i).memory i.args) ∧ sizedMet enc C.prog fn (OpenSpec.ofChange s) apart (w.forCall tape i).memory i.args) ∧ a.holds C.prog (lone (Frame.enter C.prog f i.args .normal) [] (w.forCall tape i)))
    (contract : ∀ (W : World) (base : Nat) (args : Array Value) (ds gs : List (DataW H)) (before : List MemPlace),
      (∀ (j : Nat) t v, fn.params[j]? = some t → args[j]? = some v → Value.okWide C.prog W .any base t v) →
      DataW.Whole enc C.prog fn.params.toList s.vars apart W args.toList ds gs before →
      conds.all (PathCond.test C.prog ⟨fn.params.toList, ds, s.plain.varTypes C.prog, gs⟩) = true →
      (DataW.weightsEach C.prog (fn.params.toList ++ s.plain.varTypes C.prog) (ds ++ gs)).all (· ≤ reachBytes) = true → X W args → W.ShapedOpen C.prog →
      a.holds C.prog (lone (Frame.enter C.prog f args .normal) [] W) →
      Calls C.prog f args W fun e W' => ∃ v, e = .returned v ∧ s.post enc C.prog fn apart fresh handsOn again W args v W') :
    ReturnsInHanded a C os f .any (fun w args => (s.pre enc C.prog fn conds apart w args ∧ X w args) ∧ sizedMet enc C.prog fn (OpenSpec.ofChange s) apart w args) (s.post enc C.prog fn apart fresh handsOn again) := by
  refine returnsInHanded_of_calls own started noInit witness ?_
  intro w tape i _ hsh _ hok hpre hholds
  obtain ⟨_, _, _, fn', hfn', _, _, _, _, hval⟩ := hok
  have e : fn' = fn := Option.some.inj (hfn'.symm.trans hfn)
  subst e
  obtain ⟨⟨⟨ds, gs, before, hw, hc⟩, hx⟩, hz⟩ := hpre
  have hw' := DataW.Whole.of_heap (w' := w.forCall tape i) (by rfl) hw
  refine (contract (w.forCall tape i) w.heap.size i.args ds gs before hval hw' hc (hz.weights hw) (hX _ _ _ (by rfl) hx) hsh hholds).mono fun e W' ⟨v, he, hp⟩ => ?_
  subst he
  exact ChangeSpec.post_blind hp
set_option maxRecDepth 100000 in
theorem door_met (os : Os) (args : Array Value) : laidMetH Tryz.prog L7 ((World.laidAll Tryz.prog os L7).forCall (fun _ _ => 0) ⟨#[], args, []⟩).memory := by
  rw [MakeChecks.laidMetH_plain _ _ _ (by kernel_rfl)]
  exact laidMet_laidAll _ (by kernel_rfl) (by kernel_rfl)
end Go.Sy.Ex
