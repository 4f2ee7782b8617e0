import Derived.Shelf.Strings.Builder1
import Derived.Shelf.Small.Strs
import Derived.Shelf.Strings.BuilderF
import Derived.Shelf.Strings.BuilderK
import Derived.Shelf.Strconv.Itoa0
import Derived.Shelf.Strconv.Itoa1
import Derived.Shelf.LaysM
import Derived.Shelf.Strconv.Itoa2
import Derived.Shelf.Strconv.Itoa3
import Derived.Shelf.Strconv.Itoa4
import Derived.Shelf.Strconv.ParseIntEmpty
import Derived.Shelf.Strconv.Clone
import Derived.Shelf.Strconv.SyntaxError
import Derived.Shelf.LaysC
import Derived.Shelf.Strconv.ToError
import Derived.Shelf.Strconv.Lower
import Derived.Shelf.Strconv.ParseUint10
import Derived.Shelf.Strconv.ParseUint10Empty
import Derived.Shelf.Strconv.ParseUint10Any
import Derived.Shelf.Strconv.ParseInt10
import Derived.Shelf.Strconv.RangeError
import Derived.Shelf.Strconv.ToErrorRange
import Derived.Shelf.Strconv.ParseUintEmpty
import Derived.Shelf.Strconv.ParseUint10b64
import Derived.Shelf.Strconv.ParseUint10b32
import Derived.Shelf.Strconv.ParseUint10b16
import Derived.Shelf.Strconv.ParseUint10b8
import Derived.Shelf.Strconv.ParseUint10At
import Derived.Shelf.Strconv.ParseInt10At64
import Derived.Shelf.Strconv.ParseInt10At32
import Derived.Shelf.Strconv.ParseInt10At16
import Derived.Shelf.Strconv.ParseInt10At8
import Derived.Shelf.Strconv.ParseInt10All
import Derived.Shelf.Strconv.ParseIntPublic10
import Derived.Shelf.Strings.Search1
import Derived.Shelf.Strings.Search2
import Derived.Shelf.Strings.Search3
import Derived.Shelf.Strings.Shaped
import Derived.Lib.ItoaMem
import Derived.Stop.LaidErr
import Derived.Shelf.Vars
import Derived.MakeChecks
import Derived.LaidHandle
import Derived.ChangeSame
import Derived.ChangeVars
import Derived.JoinedOf
import Derived.RowKit
import Derived.HandedShaped
import Derived.LaidMore
import Derived.LaidLaws
import Derived.Lay
import Derived.Test.YtakpokjdemielaaDoorProg
import Derived.Test.YtakpokjdemielaaDoorRows
import Derived.Test.YtakpokjdemielaaDoorSc
set_option linter.unusedVariables false
set_option linter.unusedSimpArgs false
/-
  DERIVED: THE SHELF's CONTRACTS AT THIS DUMP, IN PLAIN WORDS (tools/lay-plain.mjs out of 'XExL.lean', which tools/lay-shelf.mjs wrote): THE SAME DECLARATIONS UNDER THE SAME NAMES: 'import', 'namespace', 'open', 'def', 'theorem' AND NOTHING ELSE: no command of the shelf's: FOR A HAND-IN. Each laying: the table of numbers ('.._ren') and one theorem, a field a fact of the dump's own or the kernel's comparison; each contract: ONE APPLICATION.
-/
namespace Go.Proofs
open Go.Shelf
def Tryd.lays137_ren : Go.Shelf.Ren := ⟨fun | 137 => 37 | 217 => 54 | 266 => 66 | n => n, fun | 9 => 9 | 5 => 5 | 3 => 3 | n => n, fun | n => n⟩
theorem Tryd.lays137 : Go.Proofs.Lays.n137 Tryd.prog Tryd.lays137_ren := {
  mixed := by kernel_rfl
  f137 := Tryd.func37.trans (congrArg some (by kernel_rfl))
  f217 := Tryd.func54.trans (congrArg some (by kernel_rfl))
  f266 := Tryd.func66.trans (congrArg some (by kernel_rfl))
  t3 := Tryd.underlying3
  a3 := Tryd.isAgg3
  z3 := Tryd.sizeOf3
  v3 := Tryd.zeroValue3
  t5 := Tryd.underlying5
  a5 := Tryd.isAgg5
  z5 := Tryd.sizeOf5
  v5 := Tryd.zeroValue5
  t9 := Tryd.underlying9
  a9 := Tryd.isAgg9
  z9 := Tryd.sizeOf9
  v9 := Tryd.zeroValue9 }
open Go.RowKit in
/-- strings.IndexByte: "IndexByte returns the index of the first instance of c in s, or -1 if c is not present in s.": IT RETURNS 'Lib.indexByte s c'; the world is as it was. (LAID: no walk: one application.) -/
theorem Tryd.strings_IndexByte (s : ByteArray) (c : Int) (w : World) :
    Calls Tryd.prog 37 #[.string s, .int .u8 c] w fun e w' => e = .returned (.int .i64 (Lib.indexByte s.data.toList c.toNat.toUInt8)) ∧ w' = w := Any.strings_IndexByte Tryd.lays137 s c w
def Tryd.lays144_ren : Go.Shelf.Ren := ⟨fun | 144 => 56 | 143 => 69 | 219 => 87 | 217 => 54 | 225 => 98 | 224 => 99 | 267 => 100 | 266 => 66 | 314 => 104 | n => n, fun | 9 => 9 | 4 => 4 | 3 => 3 | 5 => 5 | 46 => 125 | 146 => 143 | 51 => 131 | n => n, fun | 1 => 0 | n => n⟩
theorem Tryd.lays144 : Go.Proofs.Lays.n144 Tryd.prog Tryd.lays144_ren := {
  mixed := by kernel_rfl
  f143 := Tryd.func69.trans (congrArg some (by kernel_rfl))
  f144 := Tryd.func56.trans (congrArg some (by kernel_rfl))
  f217 := Tryd.func54.trans (congrArg some (by kernel_rfl))
  f219 := Tryd.func87.trans (congrArg some (by kernel_rfl))
  f224 := Tryd.func99.trans (congrArg some (by kernel_rfl))
  f225 := Tryd.func98.trans (congrArg some (by kernel_rfl))
  f266 := Tryd.func66.trans (congrArg some (by kernel_rfl))
  f267 := Tryd.func100.trans (congrArg some (by kernel_rfl))
  f314 := Tryd.func104.trans (congrArg some (by kernel_rfl))
  t3 := Tryd.underlying3
  a3 := Tryd.isAgg3
  z3 := Tryd.sizeOf3
  v3 := Tryd.zeroValue3
  t4 := Tryd.underlying4
  a4 := Tryd.isAgg4
  z4 := Tryd.sizeOf4
  v4 := Tryd.zeroValue4
  t5 := Tryd.underlying5
  a5 := Tryd.isAgg5
  z5 := Tryd.sizeOf5
  v5 := Tryd.zeroValue5
  t9 := Tryd.underlying9
  a9 := Tryd.isAgg9
  z9 := Tryd.sizeOf9
  v9 := Tryd.zeroValue9
  t46 := Tryd.underlying125
  a46 := Tryd.isAgg125
  z46 := Tryd.sizeOf125
  v46 := Tryd.zeroValue125
  t51 := Tryd.underlying131
  a51 := Tryd.isAgg131
  z51 := Tryd.sizeOf131
  v51 := Tryd.zeroValue131
  t146 := Tryd.underlying143
  a146 := Tryd.isAgg143
  z146 := Tryd.sizeOf143
  v146 := Tryd.zeroValue143
  g1 := by kernel_rfl }
open Go.RowKit Go.Lib in
/-- strings.Contains: "Contains reports whether substr is within s.": IT RETURNS 'Lib.contains s substr'; the world is as it was. (LAID: no walk: one application.) -/
theorem Tryd.strings_Contains (s sub : ByteArray) (m : Int) (w : World) (hs : s.size < 4294967281) (hm : w.cell? ⟨0, 0, none⟩ = some (.int .i64 m)) :
    Calls Tryd.prog 56 #[.string s, .string sub] w fun e w' => e = .returned (.bool (Lib.contains s.data.toList sub.data.toList)) ∧ w' = w := Any.strings_Contains Tryd.lays144 s sub m w hs hm
def Tryd.laysC174_ren : Go.Shelf.Ren := ⟨fun | 174 => 55 | 247 => 67 | 245 => 68 | 287 => 82 | 279 => 83 | 280 => 84 | 281 => 85 | 282 => 86 | 321 => 93 | 322 => 94 | 316 => 95 | 171 => 97 | 205 => 96 | 243 => 103 | 246 => 65 | 283 => 78 | 284 => 79 | 285 => 80 | 286 => 81 | 129 => 89 | 317 => 88 | 318 => 90 | 319 => 91 | 320 => 92 | 337 => 101 | 338 => 102 | n => n, fun | 9 => 9 | 3 => 3 | 2 => 2 | 75 => 93 | 85 => 103 | 4 => 4 | 167 => 122 | 5 => 5 | 53 => 117 | 175 => 123 | 46 => 125 | 168 => 126 | 37 => 68 | 0 => 0 | 210 => 137 | 21 => 21 | 127 => 100 | 145 => 142 | 143 => 140 | 171 => 116 | 173 => 120 | 212 => 130 | 51 => 131 | 20 => 20 | 213 => 132 | 232 => 145 | 233 => 146 | 80 => 72 | n => n, fun | 15 => 2 | 16 => 3 | 17 => 1 | 18 => 4 | 19 => 5 | n => n⟩
theorem Tryd.laysC174 : Go.Proofs.LaysC.n174 Tryd.prog Tryd.laysC174_ren := {
  mixed := by kernel_rfl
  f129 := Tryd.func89.trans (congrArg some (by kernel_rfl))
  f171 := Tryd.func97.trans (congrArg some (by kernel_rfl))
  f174 := Tryd.func55.trans (congrArg some (by kernel_rfl))
  f205 := Tryd.func96.trans (congrArg some (by kernel_rfl))
  f243 := Tryd.func103.trans (congrArg some (by kernel_rfl))
  f245 := Tryd.func68.trans (congrArg some (by kernel_rfl))
  f246 := Tryd.func65.trans (congrArg some (by kernel_rfl))
  f247 := Tryd.func67.trans (congrArg some (by kernel_rfl))
  f279 := Tryd.func83.trans (congrArg some (by kernel_rfl))
  f280 := Tryd.func84.trans (congrArg some (by kernel_rfl))
  f281 := Tryd.func85.trans (congrArg some (by kernel_rfl))
  f282 := Tryd.func86.trans (congrArg some (by kernel_rfl))
  f283 := Tryd.func78.trans (congrArg some (by kernel_rfl))
  f284 := Tryd.func79.trans (congrArg some (by kernel_rfl))
  f285 := Tryd.func80.trans (congrArg some (by kernel_rfl))
  f286 := Tryd.func81.trans (congrArg some (by kernel_rfl))
  f287 := Tryd.func82.trans (congrArg some (by kernel_rfl))
  f316 := Tryd.func95.trans (congrArg some (by kernel_rfl))
  f317 := Tryd.func88.trans (congrArg some (by kernel_rfl))
  f318 := Tryd.func90.trans (congrArg some (by kernel_rfl))
  f319 := Tryd.func91.trans (congrArg some (by kernel_rfl))
  f320 := Tryd.func92.trans (congrArg some (by kernel_rfl))
  f321 := Tryd.func93.trans (congrArg some (by kernel_rfl))
  f322 := Tryd.func94.trans (congrArg some (by kernel_rfl))
  f337 := Tryd.func101.trans (congrArg some (by kernel_rfl))
  f338 := Tryd.func102.trans (congrArg some (by kernel_rfl))
  t0 := Tryd.underlying0
  a0 := Tryd.isAgg0
  z0 := Tryd.sizeOf0
  v0 := Tryd.zeroValue0
  t2 := Tryd.underlying2
  a2 := Tryd.isAgg2
  z2 := Tryd.sizeOf2
  v2 := Tryd.zeroValue2
  t3 := Tryd.underlying3
  a3 := Tryd.isAgg3
  z3 := Tryd.sizeOf3
  v3 := Tryd.zeroValue3
  t4 := Tryd.underlying4
  a4 := Tryd.isAgg4
  z4 := Tryd.sizeOf4
  v4 := Tryd.zeroValue4
  t5 := Tryd.underlying5
  a5 := Tryd.isAgg5
  z5 := Tryd.sizeOf5
  v5 := Tryd.zeroValue5
  t9 := Tryd.underlying9
  a9 := Tryd.isAgg9
  z9 := Tryd.sizeOf9
  v9 := Tryd.zeroValue9
  t20 := Tryd.underlying20
  a20 := Tryd.isAgg20
  z20 := Tryd.sizeOf20
  v20 := Tryd.zeroValue20
  t21 := Tryd.underlying21
  a21 := Tryd.isAgg21
  z21 := Tryd.sizeOf21
  v21 := Tryd.zeroValue21
  t37 := Tryd.underlying68
  a37 := Tryd.isAgg68
  z37 := Tryd.sizeOf68
  v37 := Tryd.zeroValue68
  t46 := Tryd.underlying125
  a46 := Tryd.isAgg125
  z46 := Tryd.sizeOf125
  v46 := Tryd.zeroValue125
  t51 := Tryd.underlying131
  a51 := Tryd.isAgg131
  z51 := Tryd.sizeOf131
  v51 := Tryd.zeroValue131
  t53 := Tryd.underlying117
  a53 := Tryd.isAgg117
  z53 := Tryd.sizeOf117
  v53 := Tryd.zeroValue117
  t75 := Tryd.underlying93
  a75 := Tryd.isAgg93
  z75 := Tryd.sizeOf93
  v75 := Tryd.zeroValue93
  t85 := Tryd.underlying103
  a85 := Tryd.isAgg103
  z85 := Tryd.sizeOf103
  v85 := Tryd.zeroValue103
  t127 := Tryd.underlying100
  a127 := Tryd.isAgg100
  z127 := Tryd.sizeOf100
  v127 := Tryd.zeroValue100
  t143 := Tryd.underlying140
  a143 := Tryd.isAgg140
  z143 := Tryd.sizeOf140
  v143 := Tryd.zeroValue140
  t145 := Tryd.underlying142
  a145 := Tryd.isAgg142
  z145 := Tryd.sizeOf142
  v145 := Tryd.zeroValue142
  t167 := Tryd.underlying122
  a167 := Tryd.isAgg122
  z167 := Tryd.sizeOf122
  v167 := Tryd.zeroValue122
  t168 := Tryd.underlying126
  a168 := Tryd.isAgg126
  z168 := Tryd.sizeOf126
  v168 := Tryd.zeroValue126
  t171 := Tryd.underlying116
  a171 := Tryd.isAgg116
  z171 := Tryd.sizeOf116
  v171 := Tryd.zeroValue116
  t173 := Tryd.underlying120
  a173 := Tryd.isAgg120
  z173 := Tryd.sizeOf120
  v173 := Tryd.zeroValue120
  t175 := Tryd.underlying123
  a175 := Tryd.isAgg123
  z175 := Tryd.sizeOf123
  v175 := Tryd.zeroValue123
  t210 := Tryd.underlying137
  a210 := Tryd.isAgg137
  z210 := Tryd.sizeOf137
  v210 := Tryd.zeroValue137
  t212 := Tryd.underlying130
  a212 := Tryd.isAgg130
  z212 := Tryd.sizeOf130
  v212 := Tryd.zeroValue130
  t213 := Tryd.underlying132
  a213 := Tryd.isAgg132
  z213 := Tryd.sizeOf132
  t232 := Tryd.underlying145
  a232 := Tryd.isAgg145
  z232 := Tryd.sizeOf145
  v232 := Tryd.zeroValue145
  t233 := Tryd.underlying146
  a233 := Tryd.isAgg146
  z233 := Tryd.sizeOf146
  v233 := Tryd.zeroValue146
  g15 := by kernel_rfl
  g16 := by kernel_rfl
  g17 := by kernel_rfl
  g18 := by kernel_rfl
  g19 := by kernel_rfl
  t80 := Tryd.underlying72
  a80 := Tryd.isAgg72
  z80 := Tryd.sizeOf72
  v80 := Tryd.zeroValue72
  i0 := by kernel_rfl
  i2 := by kernel_rfl
  i3 := by kernel_rfl
  i4 := by kernel_rfl
  i5 := by kernel_rfl
  i9 := by kernel_rfl
  i20 := by kernel_rfl
  i21 := by kernel_rfl
  i37 := by kernel_rfl
  i46 := by kernel_rfl
  i51 := by kernel_rfl
  i53 := by kernel_rfl
  i75 := by kernel_rfl
  i80 := by kernel_rfl
  i85 := by kernel_rfl
  i127 := by kernel_rfl
  i143 := by kernel_rfl
  i145 := by kernel_rfl
  i167 := by kernel_rfl
  i168 := by kernel_rfl
  i171 := by kernel_rfl
  i173 := by kernel_rfl
  i175 := by kernel_rfl
  i210 := by kernel_rfl
  i212 := by kernel_rfl
  i232 := by kernel_rfl
  i233 := by kernel_rfl
  m15 := by kernel_rfl
  m16 := by kernel_rfl
  m17 := by kernel_rfl
  m18 := by kernel_rfl
  m19 := by kernel_rfl
  c0 := by kernel_rfl
  c2 := by kernel_rfl
  c3 := by kernel_rfl
  c4 := by kernel_rfl
  c5 := by kernel_rfl
  c9 := by kernel_rfl
  c20 := by kernel_rfl
  c21 := by kernel_rfl
  c37 := by kernel_rfl
  c46 := by kernel_rfl
  c51 := by kernel_rfl
  c53 := by kernel_rfl
  c75 := by kernel_rfl
  c80 := by kernel_rfl
  c85 := by kernel_rfl
  c127 := by kernel_rfl
  c143 := by kernel_rfl
  c145 := by kernel_rfl
  c167 := by kernel_rfl
  c168 := by kernel_rfl
  c171 := by kernel_rfl
  c173 := by kernel_rfl
  c175 := by kernel_rfl
  c210 := by kernel_rfl
  c212 := by kernel_rfl
  c213 := by kernel_rfl
  c232 := by kernel_rfl
  c233 := by kernel_rfl }
open Go.RowKit in
/-- strconv.ParseInt(s, 10, 64), AT EVERY STRING THAT SPELLS AN int64 ('Lib.parseIntB 64 s.data.toList = .ok v'): v, AND NO ERROR. (LAID: no walk: one application.) -/
theorem Tryd.strconv_ParseInt_10_at64_ok (s : ByteArray) (hmax : s.size ≤ 9223372036854775806) (v : Int) (h : Lib.parseIntB 64 s.data.toList = .ok v) (w : World) :
    Calls Tryd.prog 55 #[.string s, .int .i64 10, .int .i64 64] w fun e w' => e = .returned (.tuple #[.int .i64 v, .nilIface]) ∧ (w' = w ∨ ∃ t, w' = Lib.bytesWorld w 5 t) := Any.strconv_ParseInt_10_at64_ok Tryd.laysC174 s hmax v h w
open Go.RowKit in
/-- strconv.ParseInt(s, 10, 64), AT EVERY NUMERAL THAT NO int64 HOLDS: THE GREATEST OR THE LEAST int64, BY THE SIGN ('Lib.intSat 64'), AND AN ERROR THAT IS NOT nil: a *NumError in a new block N: {Func: "ParseInt", Num: s's bytes, Err: what the variable ErrRange holds}. Of what was there nothing has turned. (LAID: no walk: one application.) -/
theorem Tryd.strconv_ParseInt_10_at64_range (s : ByteArray) (hlim : s.size ≤ 281474976710656) (h : Lib.parseIntB 64 s.data.toList = .range) (ev : Value) (w : World) (hv : w.cell? ⟨3, 0, none⟩ = some ev) (hev : ev = .nilIface ∨ ∃ te pe, ev = .iface te pe) :
    Calls Tryd.prog 55 #[.string s, .int .i64 10, .int .i64 64] w fun e w' => ∃ N, e = .returned (.tuple #[.int .i64 (Lib.intSat 64 s.data.toList), .iface 126 (.pointer (some ⟨N, 0, none⟩))]) ∧ w.heap.size ≤ N ∧ w'.heap[N]? = some (.cells #[.string ⟨#[80, 97, 114, 115, 101, 73, 110, 116]⟩, .string s, ev] 137 (0, 0)) ∧ Below w.heap.size w w' := Any.strconv_ParseInt_10_at64_range Tryd.laysC174 s hlim h ev w hv hev
def Tryd.laysM173_ren : Go.Shelf.Ren := ⟨fun | 173 => 51 | 246 => 65 | 283 => 78 | 284 => 79 | 285 => 80 | 286 => 81 | 129 => 89 | 317 => 88 | 318 => 90 | 319 => 91 | 320 => 92 | 337 => 101 | 338 => 102 | n => n, fun | 2 => 2 | 3 => 3 | 9 => 9 | 4 => 4 | 171 => 116 | 0 => 0 | 53 => 117 | 37 => 68 | 5 => 5 | 173 => 120 | 212 => 130 | 51 => 131 | 20 => 20 | 213 => 132 | 46 => 125 | 232 => 145 | 233 => 146 | n => n, fun | 17 => 1 | 18 => 4 | 19 => 5 | n => n⟩
theorem Tryd.laysM173 : Go.Proofs.LaysM.n173 Tryd.prog Tryd.laysM173_ren := {
  mixed := by kernel_rfl
  f129 := Tryd.func89.trans (congrArg some (by kernel_rfl))
  f173 := Tryd.func51.trans (congrArg some (by kernel_rfl))
  f246 := Tryd.func65.trans (congrArg some (by kernel_rfl))
  f283 := Tryd.func78.trans (congrArg some (by kernel_rfl))
  f284 := Tryd.func79.trans (congrArg some (by kernel_rfl))
  f285 := Tryd.func80.trans (congrArg some (by kernel_rfl))
  f286 := Tryd.func81.trans (congrArg some (by kernel_rfl))
  f317 := Tryd.func88.trans (congrArg some (by kernel_rfl))
  f318 := Tryd.func90.trans (congrArg some (by kernel_rfl))
  f319 := Tryd.func91.trans (congrArg some (by kernel_rfl))
  f320 := Tryd.func92.trans (congrArg some (by kernel_rfl))
  f337 := Tryd.func101.trans (congrArg some (by kernel_rfl))
  f338 := Tryd.func102.trans (congrArg some (by kernel_rfl))
  t0 := Tryd.underlying0
  a0 := Tryd.isAgg0
  z0 := Tryd.sizeOf0
  v0 := Tryd.zeroValue0
  t2 := Tryd.underlying2
  a2 := Tryd.isAgg2
  z2 := Tryd.sizeOf2
  v2 := Tryd.zeroValue2
  t3 := Tryd.underlying3
  a3 := Tryd.isAgg3
  z3 := Tryd.sizeOf3
  v3 := Tryd.zeroValue3
  t4 := Tryd.underlying4
  a4 := Tryd.isAgg4
  z4 := Tryd.sizeOf4
  v4 := Tryd.zeroValue4
  t5 := Tryd.underlying5
  a5 := Tryd.isAgg5
  z5 := Tryd.sizeOf5
  v5 := Tryd.zeroValue5
  t9 := Tryd.underlying9
  a9 := Tryd.isAgg9
  z9 := Tryd.sizeOf9
  v9 := Tryd.zeroValue9
  t20 := Tryd.underlying20
  a20 := Tryd.isAgg20
  z20 := Tryd.sizeOf20
  v20 := Tryd.zeroValue20
  t37 := Tryd.underlying68
  a37 := Tryd.isAgg68
  z37 := Tryd.sizeOf68
  v37 := Tryd.zeroValue68
  t46 := Tryd.underlying125
  a46 := Tryd.isAgg125
  z46 := Tryd.sizeOf125
  v46 := Tryd.zeroValue125
  t51 := Tryd.underlying131
  a51 := Tryd.isAgg131
  z51 := Tryd.sizeOf131
  v51 := Tryd.zeroValue131
  t53 := Tryd.underlying117
  a53 := Tryd.isAgg117
  z53 := Tryd.sizeOf117
  v53 := Tryd.zeroValue117
  t171 := Tryd.underlying116
  a171 := Tryd.isAgg116
  z171 := Tryd.sizeOf116
  v171 := Tryd.zeroValue116
  t173 := Tryd.underlying120
  a173 := Tryd.isAgg120
  z173 := Tryd.sizeOf120
  v173 := Tryd.zeroValue120
  t212 := Tryd.underlying130
  a212 := Tryd.isAgg130
  z212 := Tryd.sizeOf130
  v212 := Tryd.zeroValue130
  t213 := Tryd.underlying132
  a213 := Tryd.isAgg132
  z213 := Tryd.sizeOf132
  t232 := Tryd.underlying145
  a232 := Tryd.isAgg145
  z232 := Tryd.sizeOf145
  v232 := Tryd.zeroValue145
  t233 := Tryd.underlying146
  a233 := Tryd.isAgg146
  z233 := Tryd.sizeOf146
  v233 := Tryd.zeroValue146
  g17 := by kernel_rfl
  g18 := by kernel_rfl
  g19 := by kernel_rfl
  i0 := by kernel_rfl
  i2 := by kernel_rfl
  i3 := by kernel_rfl
  i4 := by kernel_rfl
  i5 := by kernel_rfl
  i9 := by kernel_rfl
  i20 := by kernel_rfl
  i37 := by kernel_rfl
  i46 := by kernel_rfl
  i51 := by kernel_rfl
  i53 := by kernel_rfl
  i171 := by kernel_rfl
  i173 := by kernel_rfl
  i212 := by kernel_rfl
  i232 := by kernel_rfl
  i233 := by kernel_rfl
  m17 := by kernel_rfl
  m18 := by kernel_rfl
  m19 := by kernel_rfl }
open Go.RowKit Go.Sort Go.Lib in
/-- strconv.FormatInt: "FormatInt returns the string representation of i in the given base": AT BASE 10: i's decimal numeral, for every int64. (LAID: no walk: one application.) -/
theorem Tryd.strconv_FormatInt_10 (n : Int) (h0 : -9223372036854775808 ≤ n) (h1 : n ≤ 9223372036854775807) (w : World) (htab : Lib.TabIs Tryd.prog w "internal/strconv.uint64pow10" .u64 Lib.pow10Tab) :
    Calls Tryd.prog 51 #[.int .i64 n, .int .i64 10] w fun e w' => e = .returned (.string ⟨(Lib.itoa n).toArray⟩) ∧ ∃ k os, w' = grow (w.drewN k) os := Any.strconv_FormatInt_10 Tryd.laysM173 n h0 h1 w htab
def Tryd.lays169_ren : Go.Shelf.Ren := ⟨fun | 169 => 29 | n => n, fun | 70 => 67 | 9 => 9 | 0 => 0 | 72 => 70 | 37 => 68 | 127 => 100 | 3 => 3 | 5 => 5 | n => n, fun | n => n⟩
theorem Tryd.lays169 : Go.Proofs.Lays.n169 Tryd.prog Tryd.lays169_ren := {
  mixed := by kernel_rfl
  f169 := Tryd.func29.trans (congrArg some (by kernel_rfl))
  t0 := Tryd.underlying0
  a0 := Tryd.isAgg0
  z0 := Tryd.sizeOf0
  v0 := Tryd.zeroValue0
  t3 := Tryd.underlying3
  a3 := Tryd.isAgg3
  z3 := Tryd.sizeOf3
  v3 := Tryd.zeroValue3
  t9 := Tryd.underlying9
  a9 := Tryd.isAgg9
  z9 := Tryd.sizeOf9
  v9 := Tryd.zeroValue9
  t37 := Tryd.underlying68
  a37 := Tryd.isAgg68
  z37 := Tryd.sizeOf68
  v37 := Tryd.zeroValue68
  t70 := Tryd.underlying67
  a70 := Tryd.isAgg67
  z70 := Tryd.sizeOf67
  v70 := Tryd.zeroValue67
  t72 := Tryd.underlying70
  a72 := Tryd.isAgg70
  z72 := Tryd.sizeOf70
  v72 := Tryd.zeroValue70
  t127 := Tryd.underlying100
  a127 := Tryd.isAgg100
  z127 := Tryd.sizeOf100
  v127 := Tryd.zeroValue100 }
theorem Tryd.Builder_Extra_169 : Builder.Extra Tryd.prog Tryd.lays169_ren := {
  sizeBuilder := by kernel_rfl
  liesBuilder := by kernel_rfl
  t5 := Tryd.underlying5
  a5 := Tryd.isAgg5
  z5 := Tryd.sizeOf5
  v5 := Tryd.zeroValue5
  infoByte := by kernel_rfl
  cellsByte := by kernel_rfl
  sizeByte := by kernel_rfl
  neB5 := by decide }
open Go.RowKit in
/-- (*strings.Builder).String: "String returns the accumulated string.": OF A BUILDER THAT HOLDS AT LEAST ONE BYTE. ✋ THE MODEL FREEZES THOSE BYTES IN THE BUFFER (unsafe.String): a later write INTO them ends the model's run without an answer; a later append BEHIND them goes on. The statement's order of evaluation is drawn: one draw. THE FORM '_k': OVER 'Lib.IsBuilderF' (a builder that 'String()' may have read), AND WITH THE FRAME THAT REACHES ABOVE THE BUILDER: 'Lib.OthersKept': every block that is not b and is no row of uint8's stands as it stood: the iterator of a range among them. (LAID: no walk: one application.) -/
theorem Tryd.Builder_String_k (B b : Nat) (l : List UInt8) (w : World) (h : Lib.IsBuilderF 70 5 B b (Lib.byteCells l) w) (h0 : l ≠ []) :
    Calls Tryd.prog 29 #[.pointer (some ⟨b, 0, none⟩)] w fun e w' => e = .returned (.string ⟨l.toArray⟩) ∧ (Lib.IsBuilderF 70 5 B b (Lib.byteCells l) w' ∧ Below B w w' ∧ Lib.OthersKept 5 (some b) w w') := Any.Builder_String_k Tryd.lays169 Tryd.Builder_Extra_169 B b l w h h0
end Go.Proofs
namespace Go.Proofs
open Go.Shelf
def Tryd.lays166_ren : Go.Shelf.Ren := ⟨fun | 166 => 50 | 240 => 64 | 276 => 77 | n => n, fun | 0 => 0 | 3 => 3 | 4 => 4 | 5 => 5 | 9 => 9 | 20 => 20 | 31 => 44 | 37 => 68 | 70 => 67 | 72 => 70 | 75 => 93 | 76 => 95 | 80 => 72 | 127 => 100 | 164 => 114 | n => n, fun | n => n⟩
theorem Tryd.lays166 : Go.Proofs.Lays.n166 Tryd.prog Tryd.lays166_ren := {
  mixed := by kernel_rfl
  f166 := Tryd.func50.trans (congrArg some (by kernel_rfl))
  f240 := Tryd.func64.trans (congrArg some (by kernel_rfl))
  f276 := Tryd.func77.trans (congrArg some (by kernel_rfl))
  t0 := Tryd.underlying0
  a0 := Tryd.isAgg0
  z0 := Tryd.sizeOf0
  v0 := Tryd.zeroValue0
  t3 := Tryd.underlying3
  a3 := Tryd.isAgg3
  z3 := Tryd.sizeOf3
  v3 := Tryd.zeroValue3
  t4 := Tryd.underlying4
  a4 := Tryd.isAgg4
  z4 := Tryd.sizeOf4
  v4 := Tryd.zeroValue4
  t9 := Tryd.underlying9
  a9 := Tryd.isAgg9
  z9 := Tryd.sizeOf9
  v9 := Tryd.zeroValue9
  t20 := Tryd.underlying20
  a20 := Tryd.isAgg20
  z20 := Tryd.sizeOf20
  v20 := Tryd.zeroValue20
  t37 := Tryd.underlying68
  a37 := Tryd.isAgg68
  z37 := Tryd.sizeOf68
  v37 := Tryd.zeroValue68
  t70 := Tryd.underlying67
  a70 := Tryd.isAgg67
  z70 := Tryd.sizeOf67
  v70 := Tryd.zeroValue67
  t72 := Tryd.underlying70
  a72 := Tryd.isAgg70
  z72 := Tryd.sizeOf70
  v72 := Tryd.zeroValue70
  t75 := Tryd.underlying93
  a75 := Tryd.isAgg93
  z75 := Tryd.sizeOf93
  v75 := Tryd.zeroValue93
  t164 := Tryd.underlying114
  a164 := Tryd.isAgg114
  z164 := Tryd.sizeOf114
  v164 := Tryd.zeroValue114 }
theorem Tryd.Builder_Extra_166 : Builder.Extra Tryd.prog Tryd.lays166_ren := {
  sizeBuilder := by kernel_rfl
  liesBuilder := by kernel_rfl
  t5 := Tryd.underlying5
  a5 := Tryd.isAgg5
  z5 := Tryd.sizeOf5
  v5 := Tryd.zeroValue5
  infoByte := by kernel_rfl
  cellsByte := by kernel_rfl
  sizeByte := by kernel_rfl
  neB5 := by decide }
def Tryd.lays167_ren : Go.Shelf.Ren := ⟨fun | 167 => 49 | 240 => 64 | 276 => 77 | n => n, fun | 0 => 0 | 3 => 3 | 4 => 4 | 5 => 5 | 9 => 9 | 20 => 20 | 31 => 44 | 37 => 68 | 70 => 67 | 72 => 70 | 75 => 93 | 76 => 95 | 80 => 72 | 127 => 100 | 164 => 114 | n => n, fun | n => n⟩
theorem Tryd.lays167 : Go.Proofs.Lays.n167 Tryd.prog Tryd.lays167_ren := {
  mixed := by kernel_rfl
  f167 := Tryd.func49.trans (congrArg some (by kernel_rfl))
  f240 := Tryd.func64.trans (congrArg some (by kernel_rfl))
  f276 := Tryd.func77.trans (congrArg some (by kernel_rfl))
  t0 := Tryd.underlying0
  a0 := Tryd.isAgg0
  z0 := Tryd.sizeOf0
  v0 := Tryd.zeroValue0
  t4 := Tryd.underlying4
  a4 := Tryd.isAgg4
  z4 := Tryd.sizeOf4
  v4 := Tryd.zeroValue4
  t5 := Tryd.underlying5
  a5 := Tryd.isAgg5
  z5 := Tryd.sizeOf5
  v5 := Tryd.zeroValue5
  t9 := Tryd.underlying9
  a9 := Tryd.isAgg9
  z9 := Tryd.sizeOf9
  v9 := Tryd.zeroValue9
  t20 := Tryd.underlying20
  a20 := Tryd.isAgg20
  z20 := Tryd.sizeOf20
  v20 := Tryd.zeroValue20
  t37 := Tryd.underlying68
  a37 := Tryd.isAgg68
  z37 := Tryd.sizeOf68
  v37 := Tryd.zeroValue68
  t70 := Tryd.underlying67
  a70 := Tryd.isAgg67
  z70 := Tryd.sizeOf67
  v70 := Tryd.zeroValue67
  t72 := Tryd.underlying70
  a72 := Tryd.isAgg70
  z72 := Tryd.sizeOf70
  v72 := Tryd.zeroValue70
  t75 := Tryd.underlying93
  a75 := Tryd.isAgg93
  z75 := Tryd.sizeOf93
  v75 := Tryd.zeroValue93
  t164 := Tryd.underlying114
  a164 := Tryd.isAgg114
  z164 := Tryd.sizeOf114
  v164 := Tryd.zeroValue114 }
theorem Tryd.Builder_Extra_167 : Builder.Extra Tryd.prog Tryd.lays167_ren := {
  sizeBuilder := by kernel_rfl
  liesBuilder := by kernel_rfl
  t5 := Tryd.underlying5
  a5 := Tryd.isAgg5
  z5 := Tryd.sizeOf5
  v5 := Tryd.zeroValue5
  infoByte := by kernel_rfl
  cellsByte := by kernel_rfl
  sizeByte := by kernel_rfl
  neB5 := by decide }
end Go.Proofs
set_option maxRecDepth 100000
namespace Go.Sy.Ex
open Go.Sy Go.Proofs
structure api_Expr where
  Kind : Int
  N : Int
  Name : List UInt8
  Kids : List api_Expr
  At : Int
def api_Expr.z : api_Expr := ⟨0, 0, [], [], 0⟩
structure api_Token where
  Kind : Int
  At : Int
  End : Int
  Text : List UInt8
  N : Int
  deriving DecidableEq
def api_Token.z : api_Token := ⟨0, 0, 0, [], 0⟩
structure api_Fault where
  Code : Int
  At : Int
  deriving DecidableEq
def api_Fault.z : api_Fault := ⟨0, 0⟩
structure read_Row where
  L : List api_Token
  At : Int
  Fault : api_Fault
  deriving DecidableEq
def read_Row.z : read_Row := ⟨[], 0, api_Fault.z⟩
structure expr_reader where
  Row : read_Row
  v_open : Int
  deriving DecidableEq
def expr_reader.z : expr_reader := ⟨read_Row.z, 0⟩
structure ref37_Scope where
  Vars : List (List UInt8)
  Ports : List (List UInt8)
  Timers : List (List UInt8)
  States : List (List UInt8)
  deriving DecidableEq
def ref37_Scope.z : ref37_Scope := ⟨[], [], [], []⟩
structure ref37_Row where
  L : List Int
  At : Int
  deriving DecidableEq
def ref37_Row.z : ref37_Row := ⟨[], 0⟩
def C : Nat → Type
  | 0 => api_Expr
  | 1 => api_Token
  | 2 => api_Fault
  | 3 => read_Row
  | 4 => expr_reader
  | 5 => Unit
  | 6 => List UInt8 × List UInt8 × List UInt8 × List UInt8 × List UInt8 × List UInt8 × List UInt8 × List UInt8 × List UInt8 × List UInt8 × List UInt8 × List UInt8 × List UInt8
  | 7 => List UInt8 × List UInt8 × List UInt8 × List UInt8 × List UInt8 × List UInt8 × List UInt8 × List UInt8 × List UInt8 × List UInt8 × List UInt8 × List UInt8 × List UInt8 × List UInt8 × List UInt8 × List UInt8 × List UInt8 × List UInt8 × List UInt8 × List UInt8 × List UInt8 × List UInt8 × List UInt8 × List UInt8 × List UInt8 × List UInt8 × List UInt8 × List UInt8 × List UInt8 × List UInt8 × List UInt8 × List UInt8 × List UInt8 × List UInt8 × List UInt8
  | 8 => List UInt8 × List UInt8 × List UInt8 × List UInt8 × List UInt8 × List UInt8 × List UInt8 × List UInt8 × List UInt8 × List UInt8 × List UInt8 × List UInt8 × List UInt8 × List UInt8 × List UInt8 × List UInt8 × List UInt8 × List UInt8 × List UInt8 × List UInt8
  | 9 => ref37_Scope
  | 10 => ref37_Row
  | 11 => Int × Int × Int × Int × Int × Int
  | _ + 12 => Unit
def F : Nat → List Ty
  | 0 => [.int .i64, .int .i64, .str, .sl (.st 0), .int .i64]
  | 1 => [.int .i64, .int .i64, .int .i64, .str, .int .i64]
  | 2 => [.int .i64, .int .i64]
  | 3 => [.sl (.st 1), .int .i64, .int .i64, .int .i64]
  | 4 => [.sl (.st 1), .int .i64, .int .i64, .int .i64, .int .i64]
  | 5 => []
  | 6 => [.str, .str, .str, .str, .str, .str, .str, .str, .str, .str, .str, .str, .str]
  | 7 => [.str, .str, .str, .str, .str, .str, .str, .str, .str, .str, .str, .str, .str, .str, .str, .str, .str, .str, .str, .str, .str, .str, .str, .str, .str, .str, .str, .str, .str, .str, .str, .str, .str, .str, .str]
  | 8 => [.str, .str, .str, .str, .str, .str, .str, .str, .str, .str, .str, .str, .str, .str, .str, .str, .str, .str, .str, .str]
  | 9 => [.sl .str, .sl .str, .sl .str, .sl .str]
  | 10 => [.sl (.int .i64), .int .i64]
  | 11 => [.int .i64, .int .i64, .int .i64, .int .i64, .int .i64, .int .i64]
  | _ + 12 => []
def ex : (t : Nat) → C t → Tup C (F t)
  | 0, (x : api_Expr) => (x.Kind, x.N, x.Name, x.Kids, x.At)
  | 1, (x : api_Token) => (x.Kind, x.At, x.End, x.Text, x.N)
  | 2, (x : api_Fault) => (x.Code, x.At)
  | 3, (x : read_Row) => (x.L, x.At, x.Fault.Code, x.Fault.At)
  | 4, (x : expr_reader) => (x.Row.L, x.Row.At, x.Row.Fault.Code, x.Row.Fault.At, x.v_open)
  | 5, _ => ()
  | 6, (x : List UInt8 × List UInt8 × List UInt8 × List UInt8 × List UInt8 × List UInt8 × List UInt8 × List UInt8 × List UInt8 × List UInt8 × List UInt8 × List UInt8 × List UInt8) => (x.1, x.2.1, x.2.2.1, x.2.2.2.1, x.2.2.2.2.1, x.2.2.2.2.2.1, x.2.2.2.2.2.2.1, x.2.2.2.2.2.2.2.1, x.2.2.2.2.2.2.2.2.1, x.2.2.2.2.2.2.2.2.2.1, x.2.2.2.2.2.2.2.2.2.2.1, x.2.2.2.2.2.2.2.2.2.2.2.1, x.2.2.2.2.2.2.2.2.2.2.2.2)
  | 7, (x : List UInt8 × List UInt8 × List UInt8 × List UInt8 × List UInt8 × List UInt8 × List UInt8 × List UInt8 × List UInt8 × List UInt8 × List UInt8 × List UInt8 × List UInt8 × List UInt8 × List UInt8 × List UInt8 × List UInt8 × List UInt8 × List UInt8 × List UInt8 × List UInt8 × List UInt8 × List UInt8 × List UInt8 × List UInt8 × List UInt8 × List UInt8 × List UInt8 × List UInt8 × List UInt8 × List UInt8 × List UInt8 × List UInt8 × List UInt8 × List UInt8) => (x.1, x.2.1, x.2.2.1, x.2.2.2.1, x.2.2.2.2.1, x.2.2.2.2.2.1, x.2.2.2.2.2.2.1, x.2.2.2.2.2.2.2.1, x.2.2.2.2.2.2.2.2.1, x.2.2.2.2.2.2.2.2.2.1, x.2.2.2.2.2.2.2.2.2.2.1, x.2.2.2.2.2.2.2.2.2.2.2.1, x.2.2.2.2.2.2.2.2.2.2.2.2.1, x.2.2.2.2.2.2.2.2.2.2.2.2.2.1, x.2.2.2.2.2.2.2.2.2.2.2.2.2.2.1, x.2.2.2.2.2.2.2.2.2.2.2.2.2.2.2.1, x.2.2.2.2.2.2.2.2.2.2.2.2.2.2.2.2.1, x.2.2.2.2.2.2.2.2.2.2.2.2.2.2.2.2.2.1, x.2.2.2.2.2.2.2.2.2.2.2.2.2.2.2.2.2.2.1, x.2.2.2.2.2.2.2.2.2.2.2.2.2.2.2.2.2.2.2.1, x.2.2.2.2.2.2.2.2.2.2.2.2.2.2.2.2.2.2.2.2.1, x.2.2.2.2.2.2.2.2.2.2.2.2.2.2.2.2.2.2.2.2.2.1, x.2.2.2.2.2.2.2.2.2.2.2.2.2.2.2.2.2.2.2.2.2.2.1, x.2.2.2.2.2.2.2.2.2.2.2.2.2.2.2.2.2.2.2.2.2.2.2.1, x.2.2.2.2.2.2.2.2.2.2.2.2.2.2.2.2.2.2.2.2.2.2.2.2.1, x.2.2.2.2.2.2.2.2.2.2.2.2.2.2.2.2.2.2.2.2.2.2.2.2.2.1, x.2.2.2.2.2.2.2.2.2.2.2.2.2.2.2.2.2.2.2.2.2.2.2.2.2.2.1, x.2.2.2.2.2.2.2.2.2.2.2.2.2.2.2.2.2.2.2.2.2.2.2.2.2.2.2.1, x.2.2.2.2.2.2.2.2.2.2.2.2.2.2.2.2.2.2.2.2.2.2.2.2.2.2.2.2.1, x.2.2.2.2.2.2.2.2.2.2.2.2.2.2.2.2.2.2.2.2.2.2.2.2.2.2.2.2.2.1, x.2.2.2.2.2.2.2.2.2.2.2.2.2.2.2.2.2.2.2.2.2.2.2.2.2.2.2.2.2.2.1, x.2.2.2.2.2.2.2.2.2.2.2.2.2.2.2.2.2.2.2.2.2.2.2.2.2.2.2.2.2.2.2.1, x.2.2.2.2.2.2.2.2.2.2.2.2.2.2.2.2.2.2.2.2.2.2.2.2.2.2.2.2.2.2.2.2.1, x.2.2.2.2.2.2.2.2.2.2.2.2.2.2.2.2.2.2.2.2.2.2.2.2.2.2.2.2.2.2.2.2.2.1, x.2.2.2.2.2.2.2.2.2.2.2.2.2.2.2.2.2.2.2.2.2.2.2.2.2.2.2.2.2.2.2.2.2.2)
  | 8, (x : List UInt8 × List UInt8 × List UInt8 × List UInt8 × List UInt8 × List UInt8 × List UInt8 × List UInt8 × List UInt8 × List UInt8 × List UInt8 × List UInt8 × List UInt8 × List UInt8 × List UInt8 × List UInt8 × List UInt8 × List UInt8 × List UInt8 × List UInt8) => (x.1, x.2.1, x.2.2.1, x.2.2.2.1, x.2.2.2.2.1, x.2.2.2.2.2.1, x.2.2.2.2.2.2.1, x.2.2.2.2.2.2.2.1, x.2.2.2.2.2.2.2.2.1, x.2.2.2.2.2.2.2.2.2.1, x.2.2.2.2.2.2.2.2.2.2.1, x.2.2.2.2.2.2.2.2.2.2.2.1, x.2.2.2.2.2.2.2.2.2.2.2.2.1, x.2.2.2.2.2.2.2.2.2.2.2.2.2.1, x.2.2.2.2.2.2.2.2.2.2.2.2.2.2.1, x.2.2.2.2.2.2.2.2.2.2.2.2.2.2.2.1, x.2.2.2.2.2.2.2.2.2.2.2.2.2.2.2.2.1, x.2.2.2.2.2.2.2.2.2.2.2.2.2.2.2.2.2.1, x.2.2.2.2.2.2.2.2.2.2.2.2.2.2.2.2.2.2.1, x.2.2.2.2.2.2.2.2.2.2.2.2.2.2.2.2.2.2.2)
  | 9, (x : ref37_Scope) => (x.Vars, x.Ports, x.Timers, x.States)
  | 10, (x : ref37_Row) => (x.L, x.At)
  | 11, (x : Int × Int × Int × Int × Int × Int) => (x.1, x.2.1, x.2.2.1, x.2.2.2.1, x.2.2.2.2.1, x.2.2.2.2.2)
  | _ + 12, _ => ()
def im : (t : Nat) → Tup C (F t) → C t
  | 0, (a0, a1, a2, a3, a4) => api_Expr.mk a0 a1 a2 a3 a4
  | 1, (a0, a1, a2, a3, a4) => api_Token.mk a0 a1 a2 a3 a4
  | 2, (a0, a1) => api_Fault.mk a0 a1
  | 3, (a0, a1, a2, a3) => read_Row.mk a0 a1 (api_Fault.mk a2 a3)
  | 4, (a0, a1, a2, a3, a4) => expr_reader.mk (read_Row.mk a0 a1 (api_Fault.mk a2 a3)) a4
  | 5, _ => ()
  | 6, (a0, a1, a2, a3, a4, a5, a6, a7, a8, a9, a10, a11, a12) => (a0, a1, a2, a3, a4, a5, a6, a7, a8, a9, a10, a11, a12)
  | 7, (a0, a1, a2, a3, a4, a5, a6, a7, a8, a9, a10, a11, a12, a13, a14, a15, a16, a17, a18, a19, a20, a21, a22, a23, a24, a25, a26, a27, a28, a29, a30, a31, a32, a33, a34) => (a0, a1, a2, a3, a4, a5, a6, a7, a8, a9, a10, a11, a12, a13, a14, a15, a16, a17, a18, a19, a20, a21, a22, a23, a24, a25, a26, a27, a28, a29, a30, a31, a32, a33, a34)
  | 8, (a0, a1, a2, a3, a4, a5, a6, a7, a8, a9, a10, a11, a12, a13, a14, a15, a16, a17, a18, a19) => (a0, a1, a2, a3, a4, a5, a6, a7, a8, a9, a10, a11, a12, a13, a14, a15, a16, a17, a18, a19)
  | 9, (a0, a1, a2, a3) => ref37_Scope.mk a0 a1 a2 a3
  | 10, (a0, a1) => ref37_Row.mk a0 a1
  | 11, (a0, a1, a2, a3, a4, a5) => (a0, a1, a2, a3, a4, a5)
  | _ + 12, _ => ()
def fldT : Nat → List (Nat × Ty)
  | 0 => [(0, .int .i64), (1, .int .i64), (2, .str), (3, .sl (.st 0)), (4, .int .i64)]
  | 1 => [(0, .int .i64), (1, .int .i64), (2, .int .i64), (3, .str), (4, .int .i64)]
  | 2 => [(0, .int .i64), (1, .int .i64)]
  | 3 => [(0, .sl (.st 1)), (1, .int .i64), (2, .st 2)]
  | 4 => [(0, .st 3), (4, .int .i64)]
  | 5 => []
  | 6 => rowFlds (.str) 13 0
  | 7 => rowFlds (.str) 35 0
  | 8 => rowFlds (.str) 20 0
  | 9 => [(0, .sl .str), (1, .sl .str), (2, .sl .str), (3, .sl .str)]
  | 10 => [(0, .sl (.int .i64)), (1, .int .i64)]
  | 11 => rowFlds (.int .i64) 6 0
  | _ + 12 => []
def z : (t : Nat) → C t
  | 0 => api_Expr.z
  | 1 => api_Token.z
  | 2 => api_Fault.z
  | 3 => read_Row.z
  | 4 => expr_reader.z
  | 5 => ()
  | 6 => ([], [], [], [], [], [], [], [], [], [], [], [], [])
  | 7 => ([], [], [], [], [], [], [], [], [], [], [], [], [], [], [], [], [], [], [], [], [], [], [], [], [], [], [], [], [], [], [], [], [], [], [])
  | 8 => ([], [], [], [], [], [], [], [], [], [], [], [], [], [], [], [], [], [], [], [])
  | 9 => ref37_Scope.z
  | 10 => ref37_Row.z
  | 11 => (0, 0, 0, 0, 0, 0)
  | _ + 12 => ()
def tyT : List (Nat × Ty) := [(2, .int .i64), (3, .int .i64), (4, .bool), (5, .int .u8), (9, .str), (22, .sl .bool), (24, .sl (.st 1)), (25, .int .i64), (27, .st 2), (30, .sl (.st 0)), (32, .st 0), (37, .sl (.int .i64)), (44, .sl .str), (46, .st 9), (50, .st 10), (56, .st 1), (61, .st 3), (63, .st 4), (78, .st 11), (101, .st 8), (108, .st 6), (113, .st 7)]
def arT : List (Nat × (Nat × Ty)) := [(78, 6, .int .i64), (101, 20, .str), (108, 13, .str), (113, 35, .str)]
def eqT : List (Nat × Unit) := [(27, ())]
def ifcT : List (Nat × Unit) := [(93, ())]
def ptT : List (Nat × Unit) := []
def spT : List (Nat × Unit) := []
abbrev S : Sen := ⟨C, F, ex, im, fun u f => (fldT u)[f]?, z, look tyT, fun t => (look ptT t).isSome, look arT, fun t => (look eqT t).isSome, fun t => (look ifcT t).isSome, [((0, 0), fun v => ∃ m, v = .int .i64 m), ((3, 0), fun v => v = .nilIface ∨ ∃ t p, v = .iface t p), ((2, 0), fun v => v = .nilIface ∨ ∃ t p, v = .iface t p)], [(1, fun ob => ∃ t f, ob = .cells (Go.Lib.pow10Tab.map fun z => Value.int .u64 z).toArray t f)], some (70, 5), fun t => (look spT t).isSome⟩
def bytT : List (Nat × Nat) := [(22, 1), (24, 48), (30, 64), (37, 8), (44, 16)]
def byt (t : Nat) : Nat := (look bytT t).getD 1
theorem senOk : SenOk S := ⟨fun | 0 => rfl | 1 => rfl | 2 => rfl | 3 => rfl | 4 => rfl | 5 => rfl | 6 => rfl | 7 => rfl | 8 => rfl | 9 => rfl | 10 => rfl | 11 => rfl | _ + 12 => rfl, fun | 0, _ => rfl | 1, _ => rfl | 2, _ => rfl | 3, _ => rfl | 4, _ => rfl | 5, _ => rfl | 6, _ => rfl | 7, _ => rfl | 8, _ => rfl | 9, _ => rfl | 10, _ => rfl | 11, _ => rfl | _ + 12, _ => rfl⟩
theorem ty2 : TyAt Tryd.prog S byt 2 (.int .i64) := tyAt_int rfl (by kernel_rfl) (by kernel_rfl) (by kernel_rfl)
theorem ty3 : TyAt Tryd.prog S byt 3 (.int .i64) := tyAt_int rfl (by kernel_rfl) (by kernel_rfl) (by kernel_rfl)
theorem ty4 : TyAt Tryd.prog S byt 4 (.bool) := tyAt_bool rfl (by kernel_rfl) (by kernel_rfl) (by kernel_rfl)
theorem ty5 : TyAt Tryd.prog S byt 5 (.int .u8) := tyAt_int rfl (by kernel_rfl) (by kernel_rfl) (by kernel_rfl)
theorem ty9 : TyAt Tryd.prog S byt 9 (.str) := tyAt_str rfl (by kernel_rfl) (by kernel_rfl) (by kernel_rfl)
theorem ty22 : TyAt Tryd.prog S byt 22 (.sl .bool) := tyAt_sl rfl (by kernel_rfl) (by kernel_rfl) Tryd.underlying22 rfl rfl (by kernel_rfl) (by kernel_rfl)
theorem ty24 : TyAt Tryd.prog S byt 24 (.sl (.st 1)) := tyAt_sl rfl (by kernel_rfl) (by kernel_rfl) Tryd.underlying24 rfl rfl (by kernel_rfl) (by kernel_rfl)
theorem ty25 : TyAt Tryd.prog S byt 25 (.int .i64) := tyAt_int rfl (by kernel_rfl) (by kernel_rfl) (by kernel_rfl)
theorem ty27 : TyAt Tryd.prog S byt 27 (.st 2) := tyAt_st (l := fldT 2) rfl (by kernel_rfl) rfl (by kernel_rfl) (by kernel_rfl) rfl (by kernel_rfl) Tryd.underlying27 (by kernel_rfl) (fun _ => rfl) rfl
theorem ty30 : TyAt Tryd.prog S byt 30 (.sl (.st 0)) := tyAt_sl rfl (by kernel_rfl) (by kernel_rfl) Tryd.underlying30 rfl rfl (by kernel_rfl) (by kernel_rfl)
theorem ty32 : TyAt Tryd.prog S byt 32 (.st 0) := tyAt_st (l := fldT 0) rfl (by kernel_rfl) rfl (by kernel_rfl) (by kernel_rfl) rfl (by kernel_rfl) Tryd.underlying32 (by kernel_rfl) (fun _ => rfl) rfl
theorem ty37 : TyAt Tryd.prog S byt 37 (.sl (.int .i64)) := tyAt_sl rfl (by kernel_rfl) (by kernel_rfl) Tryd.underlying37 rfl rfl (by kernel_rfl) (by kernel_rfl)
theorem ty44 : TyAt Tryd.prog S byt 44 (.sl .str) := tyAt_sl rfl (by kernel_rfl) (by kernel_rfl) Tryd.underlying44 rfl rfl (by kernel_rfl) (by kernel_rfl)
theorem ty46 : TyAt Tryd.prog S byt 46 (.st 9) := tyAt_st (l := fldT 9) rfl (by kernel_rfl) rfl (by kernel_rfl) (by kernel_rfl) rfl (by kernel_rfl) Tryd.underlying46 (by kernel_rfl) (fun _ => rfl) rfl
theorem ty50 : TyAt Tryd.prog S byt 50 (.st 10) := tyAt_st (l := fldT 10) rfl (by kernel_rfl) rfl (by kernel_rfl) (by kernel_rfl) rfl (by kernel_rfl) Tryd.underlying50 (by kernel_rfl) (fun _ => rfl) rfl
theorem ty56 : TyAt Tryd.prog S byt 56 (.st 1) := tyAt_st (l := fldT 1) rfl (by kernel_rfl) rfl (by kernel_rfl) (by kernel_rfl) rfl (by kernel_rfl) Tryd.underlying56 (by kernel_rfl) (fun _ => rfl) rfl
theorem ty61 : TyAt Tryd.prog S byt 61 (.st 3) := tyAt_st (l := fldT 3) rfl (by kernel_rfl) rfl (by kernel_rfl) (by kernel_rfl) rfl (by kernel_rfl) Tryd.underlying61 (by kernel_rfl) (fun _ => rfl) rfl
theorem ty63 : TyAt Tryd.prog S byt 63 (.st 4) := tyAt_st (l := fldT 4) rfl (by kernel_rfl) rfl (by kernel_rfl) (by kernel_rfl) rfl (by kernel_rfl) Tryd.underlying63 (by kernel_rfl) (fun _ => rfl) rfl
theorem ty78 : TyAt Tryd.prog S byt 78 (.st 11) := tyAt_ar rfl (by kernel_rfl) rfl (by kernel_rfl) (by kernel_rfl) rfl (by kernel_rfl) Tryd.underlying78 rfl rfl rfl (by kernel_rfl) (fun _ => rfl) rfl
theorem ty101 : TyAt Tryd.prog S byt 101 (.st 8) := tyAt_ar rfl (by kernel_rfl) rfl (by kernel_rfl) (by kernel_rfl) rfl (by kernel_rfl) Tryd.underlying101 rfl rfl rfl (by kernel_rfl) (fun _ => rfl) rfl
theorem ty108 : TyAt Tryd.prog S byt 108 (.st 6) := tyAt_ar rfl (by kernel_rfl) rfl (by kernel_rfl) (by kernel_rfl) rfl (by kernel_rfl) Tryd.underlying108 rfl rfl rfl (by kernel_rfl) (fun _ => rfl) rfl
theorem ty113 : TyAt Tryd.prog S byt 113 (.st 7) := tyAt_ar rfl (by kernel_rfl) rfl (by kernel_rfl) (by kernel_rfl) rfl (by kernel_rfl) Tryd.underlying113 rfl rfl rfl (by kernel_rfl) (fun _ => rfl) rfl
theorem progOk : ProgOk Tryd.prog S byt := ⟨senOk, fun t T h0 => by
  have h := look_mem (show look tyT t = some T from h0)
  simp only [tyT, List.mem_cons, Prod.mk.injEq, List.not_mem_nil, or_false] at h
  rcases h with ⟨rfl, rfl⟩ | ⟨rfl, rfl⟩ | ⟨rfl, rfl⟩ | ⟨rfl, rfl⟩ | ⟨rfl, rfl⟩ | ⟨rfl, rfl⟩ | ⟨rfl, rfl⟩ | ⟨rfl, rfl⟩ | ⟨rfl, rfl⟩ | ⟨rfl, rfl⟩ | ⟨rfl, rfl⟩ | ⟨rfl, rfl⟩ | ⟨rfl, rfl⟩ | ⟨rfl, rfl⟩ | ⟨rfl, rfl⟩ | ⟨rfl, rfl⟩ | ⟨rfl, rfl⟩ | ⟨rfl, rfl⟩ | ⟨rfl, rfl⟩ | ⟨rfl, rfl⟩ | ⟨rfl, rfl⟩ | ⟨rfl, rfl⟩
  · exact ty2
  · exact ty3
  · exact ty4
  · exact ty5
  · exact ty9
  · exact ty22
  · exact ty24
  · exact ty25
  · exact ty27
  · exact ty30
  · exact ty32
  · exact ty37
  · exact ty44
  · exact ty46
  · exact ty50
  · exact ty56
  · exact ty61
  · exact ty63
  · exact ty78
  · exact ty101
  · exact ty108
  · exact ty113, fun t h => by
  have h2 : ∃ u, look ptT t = some u := Option.isSome_iff_exists.1 h
  obtain ⟨u, h2⟩ := h2
  have h := look_mem h2
  simp [ptT] at h, fun t h => by
  have h2 : ∃ u, look eqT t = some u := Option.isSome_iff_exists.1 h
  obtain ⟨u, h2⟩ := h2
  have h := look_mem h2
  simp only [eqT, List.mem_cons, Prod.mk.injEq, List.not_mem_nil, or_false] at h
  rcases h with ⟨rfl, _⟩
  · exact ⟨2, rfl, ⟨_, Tryd.underlying27, eqFlds_of (by kernel_rfl)⟩, by kernel_rfl, by kernel_rfl⟩, fun t h => by
  have h2 : ∃ u, look ifcT t = some u := Option.isSome_iff_exists.1 h
  obtain ⟨u, h2⟩ := h2
  have h := look_mem h2
  simp only [ifcT, List.mem_cons, Prod.mk.injEq, List.not_mem_nil, or_false] at h
  rcases h with ⟨rfl, _⟩
  · exact ⟨_, Tryd.underlying93⟩, bt_of (by kernel_rfl) (by decide)⟩
theorem mixed : Tryd.prog.follows .mixedOrders = true := by kernel_rfl
def bz (e : Ty) : Nat := if e = .bool then 1 else if e = .st 0 then 64 else if e = .int .i64 then 8 else 1
def tyA : List (Nat × Ty) := [(2, .int .i64), (3, .int .i64), (4, .bool), (5, .int .u8), (9, .str), (22, .sl .bool), (30, .sl (.st 0)), (32, .st 0), (37, .sl (.int .i64))]
/-- The arguments' types alone. -/
def arA : List (Nat × (Nat × Ty)) := []
abbrev SA : Sen := S.withT (look tyA) (fun _ => false) (look arA) (fun _ => false)
theorem tyA2 : TyAt Tryd.prog SA byt 2 (.int .i64) := tyAt_int rfl (by kernel_rfl) (by kernel_rfl) (by kernel_rfl)
theorem tyA3 : TyAt Tryd.prog SA byt 3 (.int .i64) := tyAt_int rfl (by kernel_rfl) (by kernel_rfl) (by kernel_rfl)
theorem tyA4 : TyAt Tryd.prog SA byt 4 (.bool) := tyAt_bool rfl (by kernel_rfl) (by kernel_rfl) (by kernel_rfl)
theorem tyA5 : TyAt Tryd.prog SA byt 5 (.int .u8) := tyAt_int rfl (by kernel_rfl) (by kernel_rfl) (by kernel_rfl)
theorem tyA9 : TyAt Tryd.prog SA byt 9 (.str) := tyAt_str rfl (by kernel_rfl) (by kernel_rfl) (by kernel_rfl)
theorem tyA22 : TyAt Tryd.prog SA byt 22 (.sl .bool) := tyAt_sl rfl (by kernel_rfl) (by kernel_rfl) Tryd.underlying22 rfl rfl (by kernel_rfl) (by kernel_rfl)
theorem tyA30 : TyAt Tryd.prog SA byt 30 (.sl (.st 0)) := tyAt_sl rfl (by kernel_rfl) (by kernel_rfl) Tryd.underlying30 rfl rfl (by kernel_rfl) (by kernel_rfl)
theorem tyA32 : TyAt Tryd.prog SA byt 32 (.st 0) := tyAt_st (l := fldT 0) rfl (by kernel_rfl) rfl (by kernel_rfl) (by kernel_rfl) rfl (by kernel_rfl) Tryd.underlying32 (by kernel_rfl) (fun _ => rfl) rfl
theorem tyA37 : TyAt Tryd.prog SA byt 37 (.sl (.int .i64)) := tyAt_sl rfl (by kernel_rfl) (by kernel_rfl) Tryd.underlying37 rfl rfl (by kernel_rfl) (by kernel_rfl)
theorem senOkA : SenOk SA := ⟨senOk.flat, senOk.exim⟩
theorem progOkA : ProgOk Tryd.prog SA byt := ⟨senOkA, fun t e h0 => by
  have h := look_mem (show look tyA t = some (e) from h0)
  simp only [tyA, List.mem_cons, Prod.mk.injEq, List.not_mem_nil, or_false] at h
  rcases h with ⟨rfl, h⟩ | ⟨rfl, h⟩ | ⟨rfl, h⟩ | ⟨rfl, h⟩ | ⟨rfl, h⟩ | ⟨rfl, h⟩ | ⟨rfl, h⟩ | ⟨rfl, h⟩ | ⟨rfl, h⟩
  · subst h; exact tyA2
  · subst h; exact tyA3
  · subst h; exact tyA4
  · subst h; exact tyA5
  · subst h; exact tyA9
  · subst h; exact tyA22
  · subst h; exact tyA30
  · subst h; exact tyA32
  · subst h; exact tyA37, fun t h => (nomatch h), fun t h => (nomatch h), progOk.ifc, progOk.bt⟩
theorem hbz : ∀ t e, SA.ty t = some (.sl e) → byt t = bz e := fun t e h0 => by
  have h := look_mem (show look tyA t = some (.sl e) from h0)
  simp only [tyA, List.mem_cons, Prod.mk.injEq, List.not_mem_nil, or_false] at h
  rcases h with ⟨rfl, h⟩ | ⟨rfl, h⟩ | ⟨rfl, h⟩ | ⟨rfl, h⟩ | ⟨rfl, h⟩ | ⟨rfl, h⟩ | ⟨rfl, h⟩ | ⟨rfl, h⟩ | ⟨rfl, h⟩
  · cases h
  · cases h
  · cases h
  · cases h
  · cases h
  · cases h; decide
  · cases h; decide
  · cases h
  · cases h; decide
theorem slOk : SlOk SA := ⟨fun t e h0 => by
  have h := look_mem (show look tyA t = some (.sl e) from h0)
  simp only [tyA, List.mem_cons, Prod.mk.injEq, List.not_mem_nil, or_false] at h
  rcases h with ⟨rfl, h⟩ | ⟨rfl, h⟩ | ⟨rfl, h⟩ | ⟨rfl, h⟩ | ⟨rfl, h⟩ | ⟨rfl, h⟩ | ⟨rfl, h⟩ | ⟨rfl, h⟩ | ⟨rfl, h⟩
  · cases h
  · cases h
  · cases h
  · cases h
  · cases h
  · cases h; decide
  · cases h; decide
  · cases h
  · cases h; decide, fun t h0 => by
  have h := look_mem (show look tyA t = some (.pt) from h0)
  simp only [tyA, List.mem_cons, Prod.mk.injEq, List.not_mem_nil, or_false] at h
  rcases h with ⟨rfl, h⟩ | ⟨rfl, h⟩ | ⟨rfl, h⟩ | ⟨rfl, h⟩ | ⟨rfl, h⟩ | ⟨rfl, h⟩ | ⟨rfl, h⟩ | ⟨rfl, h⟩ | ⟨rfl, h⟩
  · cases h
  · cases h
  · cases h
  · cases h
  · cases h
  · cases h
  · cases h
  · cases h
  · cases h⟩
theorem stOk : StOk Tryd.prog SA := fun t e h0 => by
  have h := look_mem (show look tyA t = some (.st e) from h0)
  simp only [tyA, List.mem_cons, Prod.mk.injEq, List.not_mem_nil, or_false] at h
  rcases h with ⟨rfl, h⟩ | ⟨rfl, h⟩ | ⟨rfl, h⟩ | ⟨rfl, h⟩ | ⟨rfl, h⟩ | ⟨rfl, h⟩ | ⟨rfl, h⟩ | ⟨rfl, h⟩ | ⟨rfl, h⟩
  · cases h
  · cases h
  · cases h
  · cases h
  · cases h
  · cases h
  · cases h
  · cases h; exact stOk_of Tryd.underlying32 (by kernel_rfl)
  · cases h
abbrev s_1_2_3_4_x666bb : List UInt8 := [49, 45, 40, 50, 45, 51, 41, 45, 40, 40, 52, 41, 41]
abbrev s_sp_tab_nl_cr : List UInt8 := [32, 9, 10, 13]
abbrev s_xe6575 : List UInt8 := [45, 62, 32, 61, 61, 32, 33, 61, 32, 60, 61, 32, 62, 61, 32, 38, 38, 32, 124, 124]
abbrev s_x5d46a : List UInt8 := [123, 125, 40, 41, 91, 93, 59, 44, 46, 58, 61, 60, 62, 43, 45, 42, 47, 37, 33, 36]
abbrev s_minus : List UInt8 := [45]
abbrev s_bang : List UInt8 := [33]
abbrev s_dollar : List UInt8 := [36]
abbrev s_system : List UInt8 := [115, 121, 115, 116, 101, 109]
abbrev s_age : List UInt8 := [97, 103, 101]
abbrev s_chart : List UInt8 := [99, 104, 97, 114, 116]
abbrev s_steps : List UInt8 := [115, 116, 101, 112, 115]
abbrev s_fuel : List UInt8 := [102, 117, 101, 108]
abbrev s_var : List UInt8 := [118, 97, 114]
abbrev s_port : List UInt8 := [112, 111, 114, 116]
abbrev s_timer : List UInt8 := [116, 105, 109, 101, 114]
abbrev s_state : List UInt8 := [115, 116, 97, 116, 101]
abbrev s_parallel : List UInt8 := [112, 97, 114, 97, 108, 108, 101, 108]
abbrev s_history : List UInt8 := [104, 105, 115, 116, 111, 114, 121]
abbrev s_deep : List UInt8 := [100, 101, 101, 112]
abbrev s_entry : List UInt8 := [101, 110, 116, 114, 121]
abbrev s_exit : List UInt8 := [101, 120, 105, 116]
abbrev s_on : List UInt8 := [111, 110]
abbrev s_auto : List UInt8 := [97, 117, 116, 111]
abbrev s_raise : List UInt8 := [114, 97, 105, 115, 101]
abbrev s_send : List UInt8 := [115, 101, 110, 100]
abbrev s_arm : List UInt8 := [97, 114, 109]
abbrev s_cancel : List UInt8 := [99, 97, 110, 99, 101, 108]
abbrev s_if : List UInt8 := [105, 102]
abbrev s_else : List UInt8 := [101, 108, 115, 101]
abbrev s_loop : List UInt8 := [108, 111, 111, 112]
abbrev s_in : List UInt8 := [105, 110]
abbrev s_inst : List UInt8 := [105, 110, 115, 116]
abbrev s_quantum : List UInt8 := [113, 117, 97, 110, 116, 117, 109]
abbrev s_ext : List UInt8 := [101, 120, 116]
abbrev s_prio : List UInt8 := [112, 114, 105, 111]
abbrev s_chan : List UInt8 := [99, 104, 97, 110]
abbrev s_cap : List UInt8 := [99, 97, 112]
abbrev s_cert : List UInt8 := [99, 101, 114, 116]
abbrev s_insts : List UInt8 := [105, 110, 115, 116, 115]
abbrev s_chans : List UInt8 := [99, 104, 97, 110, 115]
abbrev s_cell : List UInt8 := [99, 101, 108, 108]
abbrev s_off : List UInt8 := [111, 102, 102]
abbrev s_lp : List UInt8 := [40]
abbrev s_rp : List UInt8 := [41]
abbrev s_bar_bar : List UInt8 := [124, 124]
abbrev s_amp_amp : List UInt8 := [38, 38]
abbrev s_lt : List UInt8 := [60]
abbrev s_lt_eq : List UInt8 := [60, 61]
abbrev s_gt : List UInt8 := [62]
abbrev s_gt_eq : List UInt8 := [62, 61]
abbrev s_eq_eq : List UInt8 := [61, 61]
abbrev s_bang_eq : List UInt8 := [33, 61]
abbrev s_plus : List UInt8 := [43]
abbrev s_star : List UInt8 := [42]
abbrev s_slash : List UInt8 := [47]
abbrev s_pct : List UInt8 := [37]
abbrev s_x_y_x573a0 : List UInt8 := [45, 40, 45, 120, 41, 32, 42, 32, 40, 121, 41]
abbrev s_a_b_c_x6aaa8 : List UInt8 := [97, 32, 60, 32, 98, 32, 60, 32, 99]
abbrev s_in_xcc76e : List UInt8 := [105, 110, 40]
abbrev s_sp : List UInt8 := [32]
abbrev s_1_2_3_4_x693b6 : List UInt8 := [49, 32, 45, 32, 40, 50, 32, 45, 32, 51, 41, 32, 45, 32, 52]
abbrev s_x_y_x3bbf6 : List UInt8 := [45, 45, 120, 32, 42, 32, 121]
abbrev s_x : List UInt8 := [120]
abbrev s_0123456789 : List UInt8 := [48, 49, 50, 51, 52, 53, 54, 55, 56, 57]
abbrev s_y1 : List UInt8 := [121, 49]
abbrev s_z_xacb46 : List UInt8 := [95, 122]
abbrev s_idle : List UInt8 := [105, 100, 108, 101]
abbrev s_waiting : List UInt8 := [119, 97, 105, 116, 105, 110, 103]
abbrev s_0_x8c5fc : List UInt8 := [48, 32, 43, 32, 40]
abbrev s_1_x1f2f8 : List UInt8 := [41, 32, 42, 32, 49]
abbrev s_y : List UInt8 := [121]
abbrev arr_x03b7b : List UInt8 × List UInt8 × List UInt8 × List UInt8 × List UInt8 × List UInt8 × List UInt8 × List UInt8 × List UInt8 × List UInt8 × List UInt8 × List UInt8 × List UInt8 := (s_bar_bar, s_amp_amp, s_lt, s_lt_eq, s_gt, s_gt_eq, s_eq_eq, s_bang_eq, s_plus, s_minus, s_star, s_slash, s_pct)
abbrev arr_x8304b : List UInt8 × List UInt8 × List UInt8 × List UInt8 × List UInt8 × List UInt8 × List UInt8 × List UInt8 × List UInt8 × List UInt8 × List UInt8 × List UInt8 × List UInt8 × List UInt8 × List UInt8 × List UInt8 × List UInt8 × List UInt8 × List UInt8 × List UInt8 × List UInt8 × List UInt8 × List UInt8 × List UInt8 × List UInt8 × List UInt8 × List UInt8 × List UInt8 × List UInt8 × List UInt8 × List UInt8 × List UInt8 × List UInt8 × List UInt8 × List UInt8 := (s_system, s_age, s_chart, s_steps, s_fuel, s_var, s_port, s_timer, s_state, s_parallel, s_history, s_deep, s_entry, s_exit, s_on, s_auto, s_raise, s_send, s_arm, s_cancel, s_if, s_else, s_loop, s_in, s_inst, s_quantum, s_ext, s_prio, s_chan, s_cap, s_cert, s_insts, s_chans, s_cell, s_off)
abbrev row_x5f300 : List (List UInt8) := [[], [], [], [], [], s_minus, s_bang, s_star, s_slash, s_pct, s_plus, s_minus, s_lt, s_lt_eq, s_gt, s_gt_eq, s_eq_eq, s_bang_eq, s_amp_amp, s_bar_bar]
abbrev row_xe3552 : List Int := [0, 1, 2, 7, 1099511627776, 9223372036854775807]
end Go.Sy.Ex
/-! Callees by their contracts. -/
namespace Go.Sy.Ex
open Go.Sy Go.Proofs
theorem glob_I {w : World} {M : St} (h : Glob S w M) : (∃ m, w.cell? ⟨0, 0, none⟩ = some (.int .i64 m)) := by
  obtain ⟨_, _, v0, c0, m, rfl⟩ := h.1 (((0, 0), fun v => ∃ m, v = .int .i64 m)) (by simp)
  exact ⟨m, c0⟩
theorem glob_R {w : World} {M : St} (h : Glob S w M) : (∃ e, w.cell? ⟨3, 0, none⟩ = some e ∧ (e = .nilIface ∨ ∃ t p, e = .iface t p)) := by
  obtain ⟨_, _, v1, c1, p1⟩ := h.1 (((3, 0), fun v => v = .nilIface ∨ ∃ t p, v = .iface t p)) (by simp)
  exact ⟨v1, c1, p1⟩
theorem glob_S {w : World} {M : St} (h : Glob S w M) : (∃ e, w.cell? ⟨2, 0, none⟩ = some e ∧ (e = .nilIface ∨ ∃ t p, e = .iface t p)) := by
  obtain ⟨_, _, v1, c1, p1⟩ := h.1 (((2, 0), fun v => v = .nilIface ∨ ∃ t p, v = .iface t p)) (by simp)
  exact ⟨v1, c1, p1⟩
theorem glob_P {w : World} {M : St} (h : Glob S w M) : Lib.TabIs Tryd.prog w "internal/strconv.uint64pow10" .u64 Lib.pow10Tab := by
  obtain ⟨_, _, ob, c3, t, f, rfl⟩ := h.2 ((1, fun ob => ∃ t f, ob = .cells (Go.Lib.pow10Tab.map fun z => Value.int .u64 z).toArray t f)) (by simp)
  unfold Lib.TabIs World.var?
  rw [show Tryd.prog.globalNamed "internal/strconv.uint64pow10" = some 1 from by kernel_rfl]
  show (match w.heap[1]? with | some (.cells cs _ _) => some cs | _ => none) = _
  rw [c3]
theorem chg_of {w w' : World} {M : St} (h : RowKit.Below w.heap.size w w') : Chg w w' M := by
  obtain ⟨a, b, c, d, e⟩ := h
  exact ⟨a, b, c, d, fun k hk _ => e k hk, fun k o hk _ => cell_of_heap (e k hk), fun k o hk hs => by rw [cell_of_heap (e k hk)]; exact hs, fun k o hk _ => frz_of_heap (e k hk)⟩
theorem str_len (l : List UInt8) : (⟨l.toArray⟩ : ByteArray).size = l.length := by show l.toArray.size = _; simp
theorem below_grow (w : World) (k : Nat) (os : Array Obj) : RowKit.Below w.heap.size w (Go.Sort.grow (w.drewN k) os) :=
  ⟨rfl, rfl, rfl, by simp [Go.Sort.grow, World.drewN], fun j hj => by simp [Go.Sort.grow, World.drewN, Array.getElem?_append, hj]⟩
theorem str_res {w : World} {s M : St} (hM : NoSt M) (r : List UInt8) : KsRel Tryd.prog S w s M [.val (.data .str)] r [.string ⟨r.toArray⟩] :=
  ⟨_, _, _, _, splitL M, rfl, ⟨⟨hM, 1, rfl⟩, rfl⟩, fun _ _ h => h, rfl⟩
noncomputable def p_IndexByte (s : List UInt8) (c : Int) : Option Int := some (Lib.indexByte s c.toNat.toUInt8)
theorem p_IndexByte_snd37 : Snd Tryd.prog S ⟨37, [.val (.data .str), .val (.data (.int .u8))], [.val (.data (.int .i64))], fun x => p_IndexByte x.1 x.2⟩ := by
  refine ⟨⟨Tryd.f37, Tryd.func37, by kernel_rfl, by kernel_rfl⟩, fun w s M (x : List UInt8 × Int) args r hx hs hG hr => ?_⟩
  obtain ⟨x, y⟩ := x
  obtain ⟨M1, M2, v, rr, _, rfl, ⟨⟨_, n, h1⟩, h2⟩, M3, M4, v', rr', _, rfl, ⟨⟨_, n', h3⟩, h4⟩, _, rfl⟩ := hx
  have hv := RepV_str (w := w) (s := s) ⟨h2, n, h1⟩
  have hv' := RepV_int (w := w) (s := s) ⟨h4, n', h3⟩
  subst hv hv'
  cases hr
  refine (Tryd.strings_IndexByte _ _ w).mono ?_
  rintro e w' ⟨rfl, rfl⟩
  exact ⟨[.int .i64 _], fun _ _ => False, fun _ _ => False, rfl, Chg.refl _ _, ⟨_, _, _, _, noSplit', rfl, ⟨⟨fun _ _ h => h, 1, rfl⟩, rfl⟩, fun _ _ h => h, rfl⟩, fun _ _ h => h.elim, fun _ _ h => h.elim⟩
noncomputable def p_Contains (s sub : List UInt8) : Option Bool := if s.length < 4294967281 then some (Lib.contains s sub) else none
theorem p_Contains_snd56 : Snd Tryd.prog S ⟨56, [.val (.data .str), .val (.data .str)], [.val (.data .bool)], fun x => p_Contains x.1 x.2⟩ := by
  refine ⟨⟨Tryd.f56, Tryd.func56, by kernel_rfl, by kernel_rfl⟩, fun w s M (x : List UInt8 × List UInt8) args r hx hs hG hr => ?_⟩
  obtain ⟨x, y⟩ := x
  obtain ⟨M1, M2, v, rr, _, rfl, ⟨⟨_, n, h1⟩, h2⟩, M3, M4, v', rr', _, rfl, ⟨⟨_, n', h3⟩, h4⟩, _, rfl⟩ := hx
  have hv := RepV_str (w := w) (s := s) ⟨h2, n, h1⟩
  have hv' := RepV_str (w := w) (s := s) ⟨h4, n', h3⟩
  subst hv hv'
  obtain ⟨m, hm⟩ := glob_I hG
  replace hr : p_Contains x y = some r := hr
  unfold p_Contains at hr
  split at hr
  · rename_i hl
    cases hr
    refine (Tryd.strings_Contains ⟨x.toArray⟩ ⟨y.toArray⟩ m w (Nat.lt_of_le_of_lt (Nat.le_of_eq (str_len _)) hl) hm).mono ?_
    rintro e w' ⟨rfl, rfl⟩
    exact ⟨[.bool _], fun _ _ => False, fun _ _ => False, rfl, Chg.refl _ _, ⟨_, _, _, _, noSplit', rfl, ⟨⟨fun _ _ h => h, 1, rfl⟩, rfl⟩, fun _ _ h => h, rfl⟩, fun _ _ h => h.elim, fun _ _ h => h.elim⟩
  · cases hr
noncomputable def p_ParseInt (s : List UInt8) (b z : Int) : Option (Int × Bool) := if s.length ≤ 281474976710656 ∧ b = 10 ∧ z = 64 then some (match Lib.parseIntB 64 s with
  | .ok v => (v, true)
  | .range => (Lib.intSat 64 s, false)
  | _ => (0, false)) else none
theorem int_err {w : World} {s M : St} (hM : NoSt M) (v : Int) (b : Bool) (e : Value) (he : ErrRel b e) : KsRel Tryd.prog S w s M [.val (.data (.int .i64)), .err] (v, b) [.int .i64 v, e] :=
  ⟨_, _, _, _, splitL M, rfl, ⟨⟨hM, 1, rfl⟩, rfl⟩, _, _, _, _, noSplit', rfl, ⟨fun _ _ h => h, he⟩, fun _ _ h => h, rfl⟩
theorem p_ParseInt_snd55 : Snd Tryd.prog S ⟨55, [.val (.data .str), .val (.data (.int .i64)), .val (.data (.int .i64))], [.val (.data (.int .i64)), .err], fun x => p_ParseInt x.1 x.2.1 x.2.2⟩ := by
  refine ⟨⟨Tryd.f55, Tryd.func55, by kernel_rfl, by kernel_rfl⟩, fun w s M (x : List UInt8 × Int × Int) args r hx hs hG hr => ?_⟩
  obtain ⟨x, y, z⟩ := x
  obtain ⟨M1, M2, v, rr, _, rfl, ⟨⟨_, n, h1⟩, h2⟩, M3, M4, v', rr', _, rfl, ⟨⟨_, n', h3⟩, h4⟩, M5, M6, v'', rr'', _, rfl, ⟨⟨_, n'', h5⟩, h6⟩, _, rfl⟩ := hx
  have hv := RepV_str (w := w) (s := s) ⟨h2, n, h1⟩
  have hv' := RepV_int (w := w) (s := s) ⟨h4, n', h3⟩
  have hv'' := RepV_int (w := w) (s := s) ⟨h6, n'', h5⟩
  subst hv hv' hv''
  obtain ⟨e1, c1, k1⟩ := glob_R hG
  obtain ⟨e0, c0, k0⟩ := glob_S hG
  replace hr : p_ParseInt x y z = some r := hr
  unfold p_ParseInt at hr
  split at hr
  · rename_i hl
    obtain ⟨hl, rfl, rfl⟩ := hl
    have hsz : (⟨x.toArray⟩ : ByteArray).size ≤ 281474976710656 := Nat.le_trans (Nat.le_of_eq (str_len x)) hl
    have hfin : ∀ (r0 : Int × Bool) (e : Value) (w' : World), ErrRel r0.2 e → RowKit.Below w.heap.size w w' → ∃ us s' M', Ending.returned (Value.tuple #[.int .i64 r0.1, e]) = .returned (retV us) ∧ Chg w w' M ∧ KsRel Tryd.prog S w' s' M' [.val (.data (.int .i64)), .err] r0 (us ++ []) ∧
        (∀ b o, s' b o → b < w'.heap.size ∧ ¬ M' b o ∧ (s b o ∨ M b o ∨ w.heap.size ≤ b)) ∧ ∀ b o, M' b o → M b o ∨ w.heap.size ≤ b := fun r0 e w' he hb =>
      ⟨[.int .i64 r0.1, e], fun _ _ => False, fun _ _ => False, rfl, chg_of hb, int_err (fun _ _ h => h) _ _ _ he, fun _ _ h => h.elim, fun _ _ h => h.elim⟩
    cases hp : Lib.parseIntB 64 x with
    | ok v =>
      rw [hp] at hr
      cases hr
      refine (Tryd.strconv_ParseInt_10_at64_ok ⟨x.toArray⟩ (by omega) v hp w).mono ?_
      rintro e w' ⟨rfl, hw⟩
      refine hfin (v, true) .nilIface w' rfl ?_
      rcases hw with rfl | ⟨t, rfl⟩
      · exact RowKit.Below.refl _ _
      · exact ⟨rfl, rfl, rfl, by rw [Lib.bytesWorld_size]; omega, fun j hj => Lib.bytesWorld_at_old w 5 t j hj⟩
    | range =>
      rw [hp] at hr
      cases hr
      refine (Tryd.strconv_ParseInt_10_at64_range ⟨x.toArray⟩ hsz hp e1 w c1 k1).mono ?_
      rintro e w' ⟨N, rfl, _, _, hb⟩
      exact hfin (_, false) _ w' ⟨_, _, rfl⟩ hb
    | _ =>
      rw [hp] at hr
      cases hr
      refine (Any.strconv_ParseInt_10_at64_syntax Tryd.laysC174 ⟨x.toArray⟩ hsz hp e0 w c0 k0).mono ?_
      rintro e w' ⟨N, rfl, _, _, hb⟩
      exact hfin (0, false) _ w' ⟨_, _, rfl⟩ hb
  · cases hr
noncomputable def p_FormatInt (n b : Int) : Option (List UInt8) := if b = 10 ∧ -9223372036854775808 ≤ n ∧ n ≤ 9223372036854775807 then some (Lib.itoa n) else none
theorem p_FormatInt_snd51 : Snd Tryd.prog S ⟨51, [.val (.data (.int .i64)), .val (.data (.int .i64))], [.val (.data .str)], fun x => p_FormatInt x.1 x.2⟩ := by
  refine ⟨⟨Tryd.f51, Tryd.func51, by kernel_rfl, by kernel_rfl⟩, fun w s M (x : Int × Int) args r hx hs hG hr => ?_⟩
  obtain ⟨x, y⟩ := x
  obtain ⟨M1, M2, v, rr, _, rfl, ⟨⟨_, n, h1⟩, h2⟩, M3, M4, v', rr', _, rfl, ⟨⟨_, n', h3⟩, h4⟩, _, rfl⟩ := hx
  have hv := RepV_int (w := w) (s := s) ⟨h2, n, h1⟩
  have hv' := RepV_int (w := w) (s := s) ⟨h4, n', h3⟩
  subst hv hv'
  have ht := glob_P hG
  replace hr : p_FormatInt x y = some r := hr
  unfold p_FormatInt at hr
  split at hr
  · rename_i hl
    obtain ⟨rfl, hl⟩ := hl
    cases hr
    refine (Tryd.strconv_FormatInt_10 x hl.1 hl.2 w ht).mono ?_
    rintro e w' ⟨rfl, k, os, rfl⟩
    exact ⟨[.string _], fun _ _ => False, fun _ _ => False, rfl, chg_of (below_grow w k os), str_res (fun _ _ h => h) _, fun _ _ h => h.elim, fun _ _ h => h.elim⟩
  · cases hr
theorem p_bldStr_snd50 : Snd Tryd.prog S ⟨50, [.bld, .val (.data .str)], [.val (.data (.int .i64)), .err], fun x => bldStr x.1 x.2⟩ :=
  bldStr_snd (ρ := Tryd.lays166_ren) Tryd.lays166 Tryd.Builder_Extra_166 rfl ⟨Tryd.f50, Tryd.func50, by kernel_rfl, by kernel_rfl⟩
theorem p_bldByte_snd49 : Snd Tryd.prog S ⟨49, [.bld, .val (.data (.int .u8))], [.err], fun x => bldByte x.1 x.2⟩ :=
  bldByte_snd (ρ := Tryd.lays167_ren) Tryd.lays167 Tryd.Builder_Extra_167 rfl ⟨Tryd.f49, Tryd.func49, by kernel_rfl, by kernel_rfl⟩
theorem p_bldByte_sndD49 : SndD Tryd.prog S ⟨49, [.bld, .val (.data (.int .u8))], [.err], fun x => bldByte x.1 x.2⟩ :=
  bldByte_sndD (ρ := Tryd.lays167_ren) Tryd.lays167 Tryd.Builder_Extra_167 rfl ⟨Tryd.f49, Tryd.func49, by kernel_rfl, by kernel_rfl⟩
noncomputable def bldRead (x : List UInt8) : Option (List UInt8 × List UInt8) := some (x, x)
theorem p_bldRead_snd29 : Snd Tryd.prog S ⟨29, [.bld], [.val (.data .str)], fun x => bldRead x⟩ :=
  bldRead_snd (ρ := Tryd.lays169_ren) Tryd.lays169 Tryd.Builder_Extra_169 rfl ⟨Tryd.f29, Tryd.func29, by kernel_rfl, by kernel_rfl⟩
end Go.Sy.Ex
set_option maxRecDepth 100000
namespace Go.Sy.Ex
open Go.Sy Go.Proofs
/-! ### 21 cotillion/lex.skip -/
mutual
noncomputable def lex_skip_l0 : Nat → (List UInt8) → Int → Option Int
  | 0, _, _ => none
  | k + 1, text, v_at => if v_at < (text.length : Int) then
    if 0 ≤ v_at then
    if v_at < (text.length : Int) then
    (p_IndexByte s_sp_tab_nl_cr ((text.getD v_at.toNat 0).toNat : Int)).bind fun r1 =>
    if 0 ≤ r1 then
    lex_skip_l0 k text (w64 (v_at + 1)) else
    if 0 ≤ v_at then
    if v_at < (text.length : Int) then
    if ((text.getD v_at.toNat 0).toNat : Int) = 35 then
    lex_skip_l1 k text v_at else
    some v_at else none else none else none else none else
    some v_at
noncomputable def lex_skip_l1 : Nat → (List UInt8) → Int → Option Int
  | 0, _, _ => none
  | k + 1, text, v_at => if v_at < (text.length : Int) then
    if 0 ≤ v_at then
    if v_at < (text.length : Int) then
    if ((text.getD v_at.toNat 0).toNat : Int) ≠ 10 then
    lex_skip_l1 k text (w64 (v_at + 1)) else
    lex_skip_l0 k text v_at else none else none else
    lex_skip_l0 k text v_at
end
noncomputable def lex_skip_f (k : Nat) (text : List UInt8) (v_at : Int) : Option Int := lex_skip_l0 k text v_at
noncomputable def lex_skip  (text : List UInt8) (v_at : Int) : Option Int := lim (fun k (x : List UInt8 × Int) => lex_skip_f k x.1 x.2) (text, v_at)
noncomputable abbrev lex_skip_T : Tab S := ⟨[⟨37, [.val (.data .str), .val (.data (.int .u8))], [.val (.data (.int .i64))], fun x => p_IndexByte x.1 x.2⟩], [], false, false, none, []⟩
noncomputable def lex_skip_L (k : Nat) : Nat → List (Lab S Int)
  | 0 => [⟨[0, 1], [.val (.data .str), .val (.data (.int .i64))], fun x => lex_skip_l0 k x.1 x.2, false⟩]
  | 1 => []
  | 2 => [⟨[0, 1], [.val (.data .str), .val (.data (.int .i64))], fun x => lex_skip_l1 k x.1 x.2, false⟩]
  | _ + 3 => []
theorem lex_skip_eq (k : Nat) (text : List UInt8) (v_at : Int) : lex_skip_f k text v_at = exec S (lex_skip_T) byt (labs S (lex_skip_T) (lex_skip_L k)) (ac [] Tryd.f21) (frame0 S [.val (.data .str), .val (.data (.int .i64))] (text, v_at)) (retK S (lex_skip_T) Tryd.f21 [.val (.data .str), .val (.data (.int .i64))] [.val (.data (.int .i64))]) := by kernel_rfl
theorem lex_skip_vc (k : Nat) : VC S (lex_skip_T) byt (lex_skip_L k) (lex_skip_L (k + 1)) (ac [] Tryd.f21) (retK S (lex_skip_T) Tryd.f21 [.val (.data .str), .val (.data (.int .i64))] [.val (.data (.int .i64))]) = [∀ x : List UInt8 × Int, lex_skip_l1 (k + 1) x.1 x.2 = lex_skip_l1 (k + 1) x.1 x.2, ∀ x : List UInt8 × Int, lex_skip_l0 (k + 1) x.1 x.2 = lex_skip_l0 (k + 1) x.1 x.2] := by kernel_rfl
theorem lex_skip_sndk (k : Nat) : Snd Tryd.prog S ⟨21, [.val (.data .str), .val (.data (.int .i64))], [.val (.data (.int .i64))], fun x => lex_skip_f k x.1 x.2⟩ :=
  fn_ok progOk (T := (lex_skip_T)) (all_cons p_IndexByte_snd37 (all_nil)) (all_nil) (all_nil) mixed Tryd.func21 rfl (by kernel_rfl) (ac_code [] Tryd.f21 rfl) (L := lex_skip_L)
    (fun n l h x => by match n, h with
        | 0, h => 
          rcases List.mem_cons.1 h with rfl | h
          · rfl
          cases h
        | 1, h => cases h
        | 2, h => 
          rcases List.mem_cons.1 h with rfl | h
          · rfl
          cases h
        | _ + 3, h => cases h) (fun k n l h => by match n, h with
        | 0, h => 
          rcases List.mem_cons.1 h with rfl | h
          · rfl
          cases h
        | 1, h => cases h
        | 2, h => 
          rcases List.mem_cons.1 h with rfl | h
          · rfl
          cases h
        | _ + 3, h => cases h)
    (fun k => All.mem (lex_skip_vc k) ⟨fun _ => rfl, ⟨fun _ => rfl, trivial⟩⟩) (fun x r h => ⟨k, (lex_skip_eq k x.1 x.2).symm.trans h⟩) (by kernel_rfl) (by kernel_rfl) (Nat.le_of_ble_eq_true (by kernel_rfl)) (by kernel_rfl)
theorem lex_skip_snd : Snd Tryd.prog S ⟨21, [.val (.data .str), .val (.data (.int .i64))], [.val (.data (.int .i64))], fun x => lex_skip x.1 x.2⟩ := Snd.lim (lex_skip_sndk)
/-! ### 38 cotillion/lex.kind -/
noncomputable def lex_kind  (c : Int) : Option (Bool × Bool) := if 48 ≤ c then
    if c ≤ 57 then
    some (true, true) else
    if 97 ≤ c then
    if c ≤ 122 then
    if c ≤ 122 then
    some (true, false) else
    some (false, false) else
    if 65 ≤ c then
    if c ≤ 90 then
    if c ≤ 90 then
    some (true, false) else
    some (false, false) else
    if c = 95 then
    some (true, false) else
    some (false, false) else
    if c = 95 then
    some (true, false) else
    some (false, false) else
    if 65 ≤ c then
    if c ≤ 90 then
    if c ≤ 90 then
    some (true, false) else
    some (false, false) else
    if c = 95 then
    some (true, false) else
    some (false, false) else
    if c = 95 then
    some (true, false) else
    some (false, false) else
    if 97 ≤ c then
    if c ≤ 122 then
    if c ≤ 122 then
    some (true, false) else
    some (false, false) else
    if 65 ≤ c then
    if c ≤ 90 then
    if c ≤ 90 then
    some (true, false) else
    some (false, false) else
    if c = 95 then
    some (true, false) else
    some (false, false) else
    if c = 95 then
    some (true, false) else
    some (false, false) else
    if 65 ≤ c then
    if c ≤ 90 then
    if c ≤ 90 then
    some (true, false) else
    some (false, false) else
    if c = 95 then
    some (true, false) else
    some (false, false) else
    if c = 95 then
    some (true, false) else
    some (false, false)
noncomputable abbrev lex_kind_T : Tab S := ⟨[], [], false, false, none, []⟩
noncomputable def lex_kind_L (k : Nat) : Nat → List (Lab S (Bool × Bool))
  | _ => []
theorem lex_kind_eq (k : Nat) (c : Int) : lex_kind c = exec S (lex_kind_T) byt (labs S (lex_kind_T) (lex_kind_L k)) (ac [] Tryd.f38) (frame0 S [.val (.data (.int .u8))] c) (retK S (lex_kind_T) Tryd.f38 [.val (.data (.int .u8))] [.val (.data .bool), .val (.data .bool)]) := by kernel_rfl
theorem lex_kind_vc (k : Nat) : VC S (lex_kind_T) byt (lex_kind_L k) (lex_kind_L (k + 1)) (ac [] Tryd.f38) (retK S (lex_kind_T) Tryd.f38 [.val (.data (.int .u8))] [.val (.data .bool), .val (.data .bool)]) = [] := by kernel_rfl
theorem lex_kind_snd : Snd Tryd.prog S ⟨38, [.val (.data (.int .u8))], [.val (.data .bool), .val (.data .bool)], fun x => lex_kind x⟩ :=
  fn_ok progOk (T := (lex_kind_T)) (all_nil) (all_nil) (all_nil) mixed Tryd.func38 rfl (by kernel_rfl) (ac_code [] Tryd.f38 rfl) (L := lex_kind_L)
    (fun n l h x => by cases h) (fun k n l h => by cases h)
    (fun k => All.mem (lex_kind_vc k) trivial) (fun x r h => ⟨0, (lex_kind_eq 0 x).symm.trans h⟩) (by kernel_rfl) (by kernel_rfl) (Nat.le_of_ble_eq_true (by kernel_rfl)) (by kernel_rfl)
/-! ### 39 cotillion/lex.end -/
noncomputable def lex_end_l0 : Nat → (List UInt8) → Int → Bool → Option Int
  | 0, _, _, _ => none
  | k + 1, text, v_at, number => if v_at < (text.length : Int) then
    if 0 ≤ v_at then
    if v_at < (text.length : Int) then
    (lex_kind ((text.getD v_at.toNat 0).toNat : Int)).bind fun r2 =>
    bif !r2.1 then
    some v_at else
    bif number then
    bif !r2.2 then
    some v_at else
    lex_end_l0 k text (w64 (v_at + 1)) number else
    lex_end_l0 k text (w64 (v_at + 1)) number else none else none else
    some v_at
noncomputable def lex_end_f (k : Nat) (text : List UInt8) (v_at : Int) : Option Int := if 0 ≤ v_at then
    if v_at < (text.length : Int) then
    (lex_kind ((text.getD v_at.toNat 0).toNat : Int)).bind fun r1 =>
    lex_end_l0 k text v_at r1.2 else none else none
noncomputable def lex_end  (text : List UInt8) (v_at : Int) : Option Int := lim (fun k (x : List UInt8 × Int) => lex_end_f k x.1 x.2) (text, v_at)
noncomputable abbrev lex_end_T : Tab S := ⟨[⟨38, [.val (.data (.int .u8))], [.val (.data .bool), .val (.data .bool)], fun x => lex_kind x⟩], [], false, false, none, []⟩
noncomputable def lex_end_L (k : Nat) : Nat → List (Lab S Int)
  | 0 => [⟨[0, 1, 6], [.val (.data .str), .val (.data (.int .i64)), .val (.data .bool)], fun x => lex_end_l0 k x.1 x.2.1 x.2.2, false⟩]
  | _ + 1 => []
theorem lex_end_eq (k : Nat) (text : List UInt8) (v_at : Int) : lex_end_f k text v_at = exec S (lex_end_T) byt (labs S (lex_end_T) (lex_end_L k)) (ac [] Tryd.f39) (frame0 S [.val (.data .str), .val (.data (.int .i64))] (text, v_at)) (retK S (lex_end_T) Tryd.f39 [.val (.data .str), .val (.data (.int .i64))] [.val (.data (.int .i64))]) := by kernel_rfl
theorem lex_end_vc (k : Nat) : VC S (lex_end_T) byt (lex_end_L k) (lex_end_L (k + 1)) (ac [] Tryd.f39) (retK S (lex_end_T) Tryd.f39 [.val (.data .str), .val (.data (.int .i64))] [.val (.data (.int .i64))]) = [∀ x : List UInt8 × Int × Bool, lex_end_l0 (k + 1) x.1 x.2.1 x.2.2 = lex_end_l0 (k + 1) x.1 x.2.1 x.2.2] := by kernel_rfl
theorem lex_end_sndk (k : Nat) : Snd Tryd.prog S ⟨39, [.val (.data .str), .val (.data (.int .i64))], [.val (.data (.int .i64))], fun x => lex_end_f k x.1 x.2⟩ :=
  fn_ok progOk (T := (lex_end_T)) (all_cons lex_kind_snd (all_nil)) (all_nil) (all_nil) mixed Tryd.func39 rfl (by kernel_rfl) (ac_code [] Tryd.f39 rfl) (L := lex_end_L)
    (fun n l h x => by match n, h with
        | 0, h => 
          rcases List.mem_cons.1 h with rfl | h
          · rfl
          cases h
        | _ + 1, h => cases h) (fun k n l h => by match n, h with
        | 0, h => 
          rcases List.mem_cons.1 h with rfl | h
          · rfl
          cases h
        | _ + 1, h => cases h)
    (fun k => All.mem (lex_end_vc k) ⟨fun _ => rfl, trivial⟩) (fun x r h => ⟨k, (lex_end_eq k x.1 x.2).symm.trans h⟩) (by kernel_rfl) (by kernel_rfl) (Nat.le_of_ble_eq_true (by kernel_rfl)) (by kernel_rfl)
theorem lex_end_snd : Snd Tryd.prog S ⟨39, [.val (.data .str), .val (.data (.int .i64))], [.val (.data (.int .i64))], fun x => lex_end x.1 x.2⟩ := Snd.lim (lex_end_sndk)
/-! ### 40 cotillion/lex.number -/
noncomputable def lex_number  (s : List UInt8) : Option (Int × Int) := if 1 < (s.length : Int) then
    if (0 : Int) ≤ 0 then
    if 0 < (s.length : Int) then
    if ((s.getD (0 : Int).toNat 0).toNat : Int) = 48 then
    some (0, 11) else
    (p_ParseInt s 10 64).bind fun r1 =>
    bif !r1.2 then
    some (0, 16) else
    some (r1.1, 0) else none else none else
    (p_ParseInt s 10 64).bind fun r2 =>
    bif !r2.2 then
    some (0, 16) else
    some (r2.1, 0)
noncomputable abbrev lex_number_T : Tab S := ⟨[⟨55, [.val (.data .str), .val (.data (.int .i64)), .val (.data (.int .i64))], [.val (.data (.int .i64)), .err], fun x => p_ParseInt x.1 x.2.1 x.2.2⟩], [], false, false, none, []⟩
noncomputable def lex_number_L (k : Nat) : Nat → List (Lab S (Int × Int))
  | _ => []
theorem lex_number_eq (k : Nat) (s : List UInt8) : lex_number s = exec S (lex_number_T) byt (labs S (lex_number_T) (lex_number_L k)) (ac [] Tryd.f40) (frame0 S [.val (.data .str)] s) (retK S (lex_number_T) Tryd.f40 [.val (.data .str)] [.val (.data (.int .i64)), .val (.data (.int .i64))]) := by kernel_rfl
theorem lex_number_vc (k : Nat) : VC S (lex_number_T) byt (lex_number_L k) (lex_number_L (k + 1)) (ac [] Tryd.f40) (retK S (lex_number_T) Tryd.f40 [.val (.data .str)] [.val (.data (.int .i64)), .val (.data (.int .i64))]) = [] := by kernel_rfl
theorem lex_number_snd : Snd Tryd.prog S ⟨40, [.val (.data .str)], [.val (.data (.int .i64)), .val (.data (.int .i64))], fun x => lex_number x⟩ :=
  fn_ok progOk (T := (lex_number_T)) (all_cons p_ParseInt_snd55 (all_nil)) (all_nil) (all_nil) mixed Tryd.func40 rfl (by kernel_rfl) (ac_code [] Tryd.f40 rfl) (L := lex_number_L)
    (fun n l h x => by cases h) (fun k n l h => by cases h)
    (fun k => All.mem (lex_number_vc k) trivial) (fun x r h => ⟨0, (lex_number_eq 0 x).symm.trans h⟩) (by kernel_rfl) (by kernel_rfl) (Nat.le_of_ble_eq_true (by kernel_rfl)) (by kernel_rfl)
/-! ### 41 cotillion/lex.sign -/
noncomputable def lex_sign  (text : List UInt8) (v_at : Int) : Option Int := if (w64 (v_at + 1)) < (text.length : Int) then
    if 0 ≤ (w64 (v_at + 1)) then
    if (w64 (v_at + 1)) < (text.length : Int) then
    if ((text.getD (w64 (v_at + 1)).toNat 0).toNat : Int) ≠ 32 then
    if 0 ≤ (w64 (v_at + 2)) then
    if (w64 (v_at + 2)) ≤ (text.length : Int) then
    if 0 ≤ v_at then
    if v_at ≤ (w64 (v_at + 2)) then
    (p_Contains s_xe6575 (cut text v_at (w64 (v_at + 2)))).bind fun r1 =>
    bif r1 then
    some (w64 (v_at + 2)) else
    if 0 ≤ v_at then
    if v_at < (text.length : Int) then
    (p_IndexByte s_x5d46a ((text.getD v_at.toNat 0).toNat : Int)).bind fun r2 =>
    if 0 ≤ r2 then
    some (w64 (v_at + 1)) else
    some v_at else none else none else none else none else none else none else
    if 0 ≤ v_at then
    if v_at < (text.length : Int) then
    (p_IndexByte s_x5d46a ((text.getD v_at.toNat 0).toNat : Int)).bind fun r3 =>
    if 0 ≤ r3 then
    some (w64 (v_at + 1)) else
    some v_at else none else none else none else none else
    if 0 ≤ v_at then
    if v_at < (text.length : Int) then
    (p_IndexByte s_x5d46a ((text.getD v_at.toNat 0).toNat : Int)).bind fun r4 =>
    if 0 ≤ r4 then
    some (w64 (v_at + 1)) else
    some v_at else none else none
noncomputable abbrev lex_sign_T : Tab S := ⟨[⟨56, [.val (.data .str), .val (.data .str)], [.val (.data .bool)], fun x => p_Contains x.1 x.2⟩, ⟨37, [.val (.data .str), .val (.data (.int .u8))], [.val (.data (.int .i64))], fun x => p_IndexByte x.1 x.2⟩], [], false, false, none, []⟩
noncomputable def lex_sign_L (k : Nat) : Nat → List (Lab S Int)
  | _ => []
theorem lex_sign_eq (k : Nat) (text : List UInt8) (v_at : Int) : lex_sign text v_at = exec S (lex_sign_T) byt (labs S (lex_sign_T) (lex_sign_L k)) (ac [] Tryd.f41) (frame0 S [.val (.data .str), .val (.data (.int .i64))] (text, v_at)) (retK S (lex_sign_T) Tryd.f41 [.val (.data .str), .val (.data (.int .i64))] [.val (.data (.int .i64))]) := by kernel_rfl
theorem lex_sign_vc (k : Nat) : VC S (lex_sign_T) byt (lex_sign_L k) (lex_sign_L (k + 1)) (ac [] Tryd.f41) (retK S (lex_sign_T) Tryd.f41 [.val (.data .str), .val (.data (.int .i64))] [.val (.data (.int .i64))]) = [] := by kernel_rfl
theorem lex_sign_snd : Snd Tryd.prog S ⟨41, [.val (.data .str), .val (.data (.int .i64))], [.val (.data (.int .i64))], fun x => lex_sign x.1 x.2⟩ :=
  fn_ok progOk (T := (lex_sign_T)) (all_cons p_Contains_snd56 (all_cons p_IndexByte_snd37 (all_nil))) (all_nil) (all_nil) mixed Tryd.func41 rfl (by kernel_rfl) (ac_code [] Tryd.f41 rfl) (L := lex_sign_L)
    (fun n l h x => by cases h) (fun k n l h => by cases h)
    (fun k => All.mem (lex_sign_vc k) trivial) (fun x r h => ⟨0, (lex_sign_eq 0 x.1 x.2).symm.trans h⟩) (by kernel_rfl) (by kernel_rfl) (Nat.le_of_ble_eq_true (by kernel_rfl)) (by kernel_rfl)
/-! ### 22 cotillion/lex.token -/
noncomputable def lex_token  (text : List UInt8) (v_at : Int) : Option (api_Token × Int) := if 0 ≤ v_at then
    if v_at < (text.length : Int) then
    (lex_kind ((text.getD v_at.toNat 0).toNat : Int)).bind fun r1 =>
    bif r1.2 then
    (lex_end text v_at).bind fun r2 =>
    if 0 ≤ r2 then
    if r2 ≤ (text.length : Int) then
    if 0 ≤ v_at then
    if v_at ≤ r2 then
    (lex_number (cut text v_at r2)).bind fun r3 =>
    if r3.2 ≠ 0 then
    some (api_Token.mk 0 0 0 [] 0, r3.2) else
    if 0 ≤ r2 then
    if r2 ≤ (text.length : Int) then
    if 0 ≤ v_at then
    if v_at ≤ r2 then
    some (api_Token.mk 2 v_at r2 (cut text v_at r2) r3.1, 0) else none else none else none else none else none else none else none else none else
    bif r1.1 then
    (lex_end text v_at).bind fun r4 =>
    if 24 < (w64 (r4 - v_at)) then
    some (api_Token.mk 0 0 0 [] 0, 13) else
    if 0 ≤ r4 then
    if r4 ≤ (text.length : Int) then
    if 0 ≤ v_at then
    if v_at ≤ r4 then
    some (api_Token.mk 1 v_at r4 (cut text v_at r4) 0, 0) else none else none else none else none else
    (lex_sign text v_at).bind fun r5 =>
    if r5 = v_at then
    some (api_Token.mk 0 0 0 [] 0, 10) else
    if 0 ≤ r5 then
    if r5 ≤ (text.length : Int) then
    if 0 ≤ v_at then
    if v_at ≤ r5 then
    some (api_Token.mk 3 v_at r5 (cut text v_at r5) 0, 0) else none else none else none else none else none else none
noncomputable abbrev lex_token_T : Tab S := ⟨[⟨38, [.val (.data (.int .u8))], [.val (.data .bool), .val (.data .bool)], fun x => lex_kind x⟩, ⟨39, [.val (.data .str), .val (.data (.int .i64))], [.val (.data (.int .i64))], fun x => lex_end x.1 x.2⟩, ⟨40, [.val (.data .str)], [.val (.data (.int .i64)), .val (.data (.int .i64))], fun x => lex_number x⟩, ⟨41, [.val (.data .str), .val (.data (.int .i64))], [.val (.data (.int .i64))], fun x => lex_sign x.1 x.2⟩], [], false, false, none, []⟩
noncomputable def lex_token_L (k : Nat) : Nat → List (Lab S (api_Token × Int))
  | _ => []
theorem lex_token_eq (k : Nat) (text : List UInt8) (v_at : Int) : lex_token text v_at = exec S (lex_token_T) byt (labs S (lex_token_T) (lex_token_L k)) (ac [] Tryd.f22) (frame0 S [.val (.data .str), .val (.data (.int .i64))] (text, v_at)) (retK S (lex_token_T) Tryd.f22 [.val (.data .str), .val (.data (.int .i64))] [.val (.data (.st 1)), .val (.data (.int .i64))]) := by kernel_rfl
theorem lex_token_vc (k : Nat) : VC S (lex_token_T) byt (lex_token_L k) (lex_token_L (k + 1)) (ac [] Tryd.f22) (retK S (lex_token_T) Tryd.f22 [.val (.data .str), .val (.data (.int .i64))] [.val (.data (.st 1)), .val (.data (.int .i64))]) = [] := by kernel_rfl
theorem lex_token_snd : Snd Tryd.prog S ⟨22, [.val (.data .str), .val (.data (.int .i64))], [.val (.data (.st 1)), .val (.data (.int .i64))], fun x => lex_token x.1 x.2⟩ :=
  fn_ok progOk (T := (lex_token_T)) (all_cons lex_kind_snd (all_cons lex_end_snd (all_cons lex_number_snd (all_cons lex_sign_snd (all_nil))))) (all_nil) (all_nil) mixed Tryd.func22 rfl (by kernel_rfl) (ac_code [] Tryd.f22 rfl) (L := lex_token_L)
    (fun n l h x => by cases h) (fun k n l h => by cases h)
    (fun k => All.mem (lex_token_vc k) trivial) (fun x r h => ⟨0, (lex_token_eq 0 x.1 x.2).symm.trans h⟩) (by kernel_rfl) (by kernel_rfl) (Nat.le_of_ble_eq_true (by kernel_rfl)) (by kernel_rfl)
/-! ### 9 cotillion/lex.All -/
noncomputable def lex_All_l0 : Nat → (List UInt8) → Int → Int → (List api_Token) → Int → Option (List api_Token × api_Fault)
  | 0, _, _, _, _, _ => none
  | k + 1, text, x3_Code, x3_At, l, v_at => if v_at < (text.length : Int) then
    (lex_token text v_at).bind fun r2 =>
    if r2.2 ≠ 0 then
    some ([], api_Fault.mk r2.2 v_at) else
    if (l.length + [r2.1].length) * 48 ≤ 140737488355328 then
    (lex_skip text r2.1.End).bind fun r3 =>
    lex_All_l0 k text x3_Code x3_At (l ++ [r2.1]) r3 else none else
    if (l.length + [api_Token.mk 4 v_at v_at [] 0].length) * 48 ≤ 140737488355328 then
    some (l ++ [api_Token.mk 4 v_at v_at [] 0], api_Fault.mk 0 0) else none
noncomputable def lex_All_f (k : Nat) (text : List UInt8) : Option (List api_Token × api_Fault) := if 16384 < (text.length : Int) then
    some ([], api_Fault.mk 13 16384) else
    (lex_skip text 0).bind fun r1 =>
    lex_All_l0 k text 0 0 [] r1
noncomputable def lex_All  (text : List UInt8) : Option (List api_Token × api_Fault) := lim (fun k (x : List UInt8) => lex_All_f k x) text
noncomputable abbrev lex_All_T : Tab S := ⟨[⟨21, [.val (.data .str), .val (.data (.int .i64))], [.val (.data (.int .i64))], fun x => lex_skip x.1 x.2⟩, ⟨22, [.val (.data .str), .val (.data (.int .i64))], [.val (.data (.st 1)), .val (.data (.int .i64))], fun x => lex_token x.1 x.2⟩], [], false, false, none, []⟩
noncomputable def lex_All_L (k : Nat) : Nat → List (Lab S (List api_Token × api_Fault))
  | 0 => [⟨[0, 3, 4, 5], [.val (.data .str), .obj [.data (.int .i64), .data (.int .i64)], .val (.town (.st 1)), .val (.data (.int .i64))], fun x => lex_All_l0 k x.1 x.2.1.1 x.2.1.2 x.2.2.1 x.2.2.2, false⟩]
  | _ + 1 => []
theorem lex_All_eq (k : Nat) (text : List UInt8) : lex_All_f k text = exec S (lex_All_T) byt (labs S (lex_All_T) (lex_All_L k)) (ac [] Tryd.f9) (frame0 S [.val (.data .str)] text) (retK S (lex_All_T) Tryd.f9 [.val (.data .str)] [.val (.town (.st 1)), .val (.data (.st 2))]) := by kernel_rfl
theorem lex_All_vc (k : Nat) : VC S (lex_All_T) byt (lex_All_L k) (lex_All_L (k + 1)) (ac [] Tryd.f9) (retK S (lex_All_T) Tryd.f9 [.val (.data .str)] [.val (.town (.st 1)), .val (.data (.st 2))]) = [∀ x : List UInt8 × (Int × Int) × List api_Token × Int, lex_All_l0 (k + 1) x.1 x.2.1.1 x.2.1.2 x.2.2.1 x.2.2.2 = lex_All_l0 (k + 1) x.1 x.2.1.1 x.2.1.2 x.2.2.1 x.2.2.2] := by kernel_rfl
theorem lex_All_sndk (k : Nat) : Snd Tryd.prog S ⟨9, [.val (.data .str)], [.val (.town (.st 1)), .val (.data (.st 2))], fun x => lex_All_f k x⟩ :=
  fn_ok progOk (T := (lex_All_T)) (all_cons lex_skip_snd (all_cons lex_token_snd (all_nil))) (all_nil) (all_nil) mixed Tryd.func9 rfl (by kernel_rfl) (ac_code [] Tryd.f9 rfl) (L := lex_All_L)
    (fun n l h x => by match n, h with
        | 0, h => 
          rcases List.mem_cons.1 h with rfl | h
          · rfl
          cases h
        | _ + 1, h => cases h) (fun k n l h => by match n, h with
        | 0, h => 
          rcases List.mem_cons.1 h with rfl | h
          · rfl
          cases h
        | _ + 1, h => cases h)
    (fun k => All.mem (lex_All_vc k) ⟨fun _ => rfl, trivial⟩) (fun x r h => ⟨k, (lex_All_eq k x).symm.trans h⟩) (by kernel_rfl) (by kernel_rfl) (Nat.le_of_ble_eq_true (by kernel_rfl)) (by kernel_rfl)
theorem lex_All_snd : Snd Tryd.prog S ⟨9, [.val (.data .str)], [.val (.town (.st 1)), .val (.data (.st 2))], fun x => lex_All x⟩ := Snd.lim (lex_All_sndk)
/-! ### 24 (*cotillion/read.Row).OK -/
noncomputable def read_Row_OK  (r_ : expr_reader) : Option (Bool × expr_reader) := some (decide (r_.Row.Fault.Code = 0), r_)
noncomputable abbrev read_Row_OK_T : Tab S := ⟨[], [], false, false, none, []⟩
noncomputable def read_Row_OK_L (k : Nat) : Nat → List (Lab S (Bool × expr_reader))
  | _ => []
theorem read_Row_OK_eq (k : Nat) (r_ : expr_reader) : read_Row_OK r_ = exec S (read_Row_OK_T) byt (labs S (read_Row_OK_T) (read_Row_OK_L k)) (ac [] Tryd.f24) (frame0 S [.obj [.data (.st 4)]] r_) (retK S (read_Row_OK_T) Tryd.f24 [.obj [.data (.st 4)]] [.val (.data .bool)]) := by kernel_rfl
theorem read_Row_OK_vc (k : Nat) : VC S (read_Row_OK_T) byt (read_Row_OK_L k) (read_Row_OK_L (k + 1)) (ac [] Tryd.f24) (retK S (read_Row_OK_T) Tryd.f24 [.obj [.data (.st 4)]] [.val (.data .bool)]) = [] := by kernel_rfl
theorem read_Row_OK_snd : Snd Tryd.prog S ⟨24, [.obj [.data (.st 4)]], [.val (.data .bool)], fun x => read_Row_OK x⟩ :=
  fn_ok progOk (T := (read_Row_OK_T)) (all_nil) (all_nil) (all_nil) mixed Tryd.func24 rfl (by kernel_rfl) (ac_code [] Tryd.f24 rfl) (L := read_Row_OK_L)
    (fun n l h x => by cases h) (fun k n l h => by cases h)
    (fun k => All.mem (read_Row_OK_vc k) trivial) (fun x r h => ⟨0, (read_Row_OK_eq 0 x).symm.trans h⟩) (by kernel_rfl) (by kernel_rfl) (Nat.le_of_ble_eq_true (by kernel_rfl)) (by kernel_rfl)
/-! ### 43 (*cotillion/read.Row).Look -/
noncomputable def read_Row_Look  (r_ : expr_reader) : Option (api_Token × expr_reader) := (read_Row_OK r_).bind fun r1 =>
    bif !r1.1 then
    some (api_Token.mk 4 0 0 [] 0, r1.2) else
    if r1.2.Row.At < 0 then
    some (api_Token.mk 4 0 0 [] 0, r1.2) else
    if (r1.2.Row.L.length : Int) ≤ r1.2.Row.At then
    some (api_Token.mk 4 0 0 [] 0, r1.2) else
    if 0 ≤ r1.2.Row.At then
    if r1.2.Row.At < (r1.2.Row.L.length : Int) then
    some (r1.2.Row.L.getD r1.2.Row.At.toNat api_Token.z, r1.2) else none else none
noncomputable abbrev read_Row_Look_T : Tab S := ⟨[⟨24, [.obj [.data (.st 4)]], [.val (.data .bool)], fun x => read_Row_OK x⟩], [], false, false, none, []⟩
noncomputable def read_Row_Look_L (k : Nat) : Nat → List (Lab S (api_Token × expr_reader))
  | _ => []
theorem read_Row_Look_eq (k : Nat) (r_ : expr_reader) : read_Row_Look r_ = exec S (read_Row_Look_T) byt (labs S (read_Row_Look_T) (read_Row_Look_L k)) (ac [] Tryd.f43) (frame0 S [.obj [.data (.st 4)]] r_) (retK S (read_Row_Look_T) Tryd.f43 [.obj [.data (.st 4)]] [.val (.data (.st 1))]) := by kernel_rfl
theorem read_Row_Look_vc (k : Nat) : VC S (read_Row_Look_T) byt (read_Row_Look_L k) (read_Row_Look_L (k + 1)) (ac [] Tryd.f43) (retK S (read_Row_Look_T) Tryd.f43 [.obj [.data (.st 4)]] [.val (.data (.st 1))]) = [] := by kernel_rfl
theorem read_Row_Look_snd : Snd Tryd.prog S ⟨43, [.obj [.data (.st 4)]], [.val (.data (.st 1))], fun x => read_Row_Look x⟩ :=
  fn_ok progOk (T := (read_Row_Look_T)) (all_cons read_Row_OK_snd (all_nil)) (all_nil) (all_nil) mixed Tryd.func43 rfl (by kernel_rfl) (ac_code [] Tryd.f43 rfl) (L := read_Row_Look_L)
    (fun n l h x => by cases h) (fun k n l h => by cases h)
    (fun k => All.mem (read_Row_Look_vc k) trivial) (fun x r h => ⟨0, (read_Row_Look_eq 0 x).symm.trans h⟩) (by kernel_rfl) (by kernel_rfl) (Nat.le_of_ble_eq_true (by kernel_rfl)) (by kernel_rfl)
/-! ### 57 (*cotillion/read.Row).Is -/
noncomputable def read_Row_Is  (r_ : expr_reader) (s : List UInt8) : Option (Bool × expr_reader) := (read_Row_Look r_).bind fun r1 =>
    if r1.1.Kind = 3 then
    some (decide (r1.1.Text = s), r1.2) else
    if r1.1.Kind = 1 then
    some (decide (r1.1.Text = s), r1.2) else
    some (false, r1.2)
noncomputable abbrev read_Row_Is_T : Tab S := ⟨[⟨43, [.obj [.data (.st 4)]], [.val (.data (.st 1))], fun x => read_Row_Look x⟩], [], false, false, none, []⟩
noncomputable def read_Row_Is_L (k : Nat) : Nat → List (Lab S (Bool × expr_reader))
  | _ => []
theorem read_Row_Is_eq (k : Nat) (r_ : expr_reader) (s : List UInt8) : read_Row_Is r_ s = exec S (read_Row_Is_T) byt (labs S (read_Row_Is_T) (read_Row_Is_L k)) (ac [] Tryd.f57) (frame0 S [.obj [.data (.st 4)], .val (.data .str)] (r_, s)) (retK S (read_Row_Is_T) Tryd.f57 [.obj [.data (.st 4)], .val (.data .str)] [.val (.data .bool)]) := by kernel_rfl
theorem read_Row_Is_vc (k : Nat) : VC S (read_Row_Is_T) byt (read_Row_Is_L k) (read_Row_Is_L (k + 1)) (ac [] Tryd.f57) (retK S (read_Row_Is_T) Tryd.f57 [.obj [.data (.st 4)], .val (.data .str)] [.val (.data .bool)]) = [] := by kernel_rfl
theorem read_Row_Is_snd : Snd Tryd.prog S ⟨57, [.obj [.data (.st 4)], .val (.data .str)], [.val (.data .bool)], fun x => read_Row_Is x.1 x.2⟩ :=
  fn_ok progOk (T := (read_Row_Is_T)) (all_cons read_Row_Look_snd (all_nil)) (all_nil) (all_nil) mixed Tryd.func57 rfl (by kernel_rfl) (ac_code [] Tryd.f57 rfl) (L := read_Row_Is_L)
    (fun n l h x => by cases h) (fun k n l h => by cases h)
    (fun k => All.mem (read_Row_Is_vc k) trivial) (fun x r h => ⟨0, (read_Row_Is_eq 0 x.1 x.2).symm.trans h⟩) (by kernel_rfl) (by kernel_rfl) (Nat.le_of_ble_eq_true (by kernel_rfl)) (by kernel_rfl)
/-! ### 75 (*cotillion/read.Row).Fail -/
noncomputable def read_Row_Fail  (r_ : expr_reader) (code : Int) (v_at : Int) : Option expr_reader := (read_Row_OK r_).bind fun r1 =>
    bif r1.1 then
    some (expr_reader.mk (read_Row.mk r1.2.Row.L r1.2.Row.At (api_Fault.mk code v_at)) r1.2.v_open) else
    some r1.2
noncomputable abbrev read_Row_Fail_T : Tab S := ⟨[⟨24, [.obj [.data (.st 4)]], [.val (.data .bool)], fun x => read_Row_OK x⟩], [], false, false, none, []⟩
noncomputable def read_Row_Fail_L (k : Nat) : Nat → List (Lab S expr_reader)
  | _ => []
theorem read_Row_Fail_eq (k : Nat) (r_ : expr_reader) (code : Int) (v_at : Int) : read_Row_Fail r_ code v_at = exec S (read_Row_Fail_T) byt (labs S (read_Row_Fail_T) (read_Row_Fail_L k)) (ac [] Tryd.f75) (frame0 S [.obj [.data (.st 4)], .val (.data (.int .i64)), .val (.data (.int .i64))] (r_, code, v_at)) (retK S (read_Row_Fail_T) Tryd.f75 [.obj [.data (.st 4)], .val (.data (.int .i64)), .val (.data (.int .i64))] []) := by kernel_rfl
theorem read_Row_Fail_vc (k : Nat) : VC S (read_Row_Fail_T) byt (read_Row_Fail_L k) (read_Row_Fail_L (k + 1)) (ac [] Tryd.f75) (retK S (read_Row_Fail_T) Tryd.f75 [.obj [.data (.st 4)], .val (.data (.int .i64)), .val (.data (.int .i64))] []) = [] := by kernel_rfl
theorem read_Row_Fail_snd : Snd Tryd.prog S ⟨75, [.obj [.data (.st 4)], .val (.data (.int .i64)), .val (.data (.int .i64))], [], fun x => read_Row_Fail x.1 x.2.1 x.2.2⟩ :=
  fn_ok progOk (T := (read_Row_Fail_T)) (all_cons read_Row_OK_snd (all_nil)) (all_nil) (all_nil) mixed Tryd.func75 rfl (by kernel_rfl) (ac_code [] Tryd.f75 rfl) (L := read_Row_Fail_L)
    (fun n l h x => by cases h) (fun k n l h => by cases h)
    (fun k => All.mem (read_Row_Fail_vc k) trivial) (fun x r h => ⟨0, (read_Row_Fail_eq 0 x.1 x.2.1 x.2.2).symm.trans h⟩) (by kernel_rfl) (by kernel_rfl) (Nat.le_of_ble_eq_true (by kernel_rfl)) (by kernel_rfl)
/-! ### 59 (*cotillion/expr.reader).deep -/
noncomputable def expr_reader_deep  (r_ : expr_reader) (v_at : Int) : Option (Bool × expr_reader) := if r_.v_open = 12 then
    (read_Row_Fail r_ 14 v_at).bind fun r1 =>
    some (false, r1) else
    some (true, expr_reader.mk (read_Row.mk r_.Row.L (w64 (r_.Row.At + 1)) r_.Row.Fault) (w64 (r_.v_open + 1)))
noncomputable abbrev expr_reader_deep_T : Tab S := ⟨[⟨75, [.obj [.data (.st 4)], .val (.data (.int .i64)), .val (.data (.int .i64))], [], fun x => read_Row_Fail x.1 x.2.1 x.2.2⟩], [], false, false, none, []⟩
noncomputable def expr_reader_deep_L (k : Nat) : Nat → List (Lab S (Bool × expr_reader))
  | _ => []
theorem expr_reader_deep_eq (k : Nat) (r_ : expr_reader) (v_at : Int) : expr_reader_deep r_ v_at = exec S (expr_reader_deep_T) byt (labs S (expr_reader_deep_T) (expr_reader_deep_L k)) (ac [] Tryd.f59) (frame0 S [.obj [.data (.st 4)], .val (.data (.int .i64))] (r_, v_at)) (retK S (expr_reader_deep_T) Tryd.f59 [.obj [.data (.st 4)], .val (.data (.int .i64))] [.val (.data .bool)]) := by kernel_rfl
theorem expr_reader_deep_vc (k : Nat) : VC S (expr_reader_deep_T) byt (expr_reader_deep_L k) (expr_reader_deep_L (k + 1)) (ac [] Tryd.f59) (retK S (expr_reader_deep_T) Tryd.f59 [.obj [.data (.st 4)], .val (.data (.int .i64))] [.val (.data .bool)]) = [] := by kernel_rfl
theorem expr_reader_deep_snd : Snd Tryd.prog S ⟨59, [.obj [.data (.st 4)], .val (.data (.int .i64))], [.val (.data .bool)], fun x => expr_reader_deep x.1 x.2⟩ :=
  fn_ok progOk (T := (expr_reader_deep_T)) (all_cons read_Row_Fail_snd (all_nil)) (all_nil) (all_nil) mixed Tryd.func59 rfl (by kernel_rfl) (ac_code [] Tryd.f59 rfl) (L := expr_reader_deep_L)
    (fun n l h x => by cases h) (fun k n l h => by cases h)
    (fun k => All.mem (expr_reader_deep_vc k) trivial) (fun x r h => ⟨0, (expr_reader_deep_eq 0 x.1 x.2).symm.trans h⟩) (by kernel_rfl) (by kernel_rfl) (Nat.le_of_ble_eq_true (by kernel_rfl)) (by kernel_rfl)
/-! ### 70 (*cotillion/read.Row).Take -/
noncomputable def read_Row_Take  (r_ : expr_reader) (s : List UInt8) : Option (Bool × expr_reader) := (read_Row_Is r_ s).bind fun r1 =>
    bif r1.1 then
    some (r1.1, expr_reader.mk (read_Row.mk r1.2.Row.L (w64 (r1.2.Row.At + 1)) r1.2.Row.Fault) r1.2.v_open) else
    some (r1.1, r1.2)
noncomputable abbrev read_Row_Take_T : Tab S := ⟨[⟨57, [.obj [.data (.st 4)], .val (.data .str)], [.val (.data .bool)], fun x => read_Row_Is x.1 x.2⟩], [], false, false, none, []⟩
noncomputable def read_Row_Take_L (k : Nat) : Nat → List (Lab S (Bool × expr_reader))
  | _ => []
theorem read_Row_Take_eq (k : Nat) (r_ : expr_reader) (s : List UInt8) : read_Row_Take r_ s = exec S (read_Row_Take_T) byt (labs S (read_Row_Take_T) (read_Row_Take_L k)) (ac [] Tryd.f70) (frame0 S [.obj [.data (.st 4)], .val (.data .str)] (r_, s)) (retK S (read_Row_Take_T) Tryd.f70 [.obj [.data (.st 4)], .val (.data .str)] [.val (.data .bool)]) := by kernel_rfl
theorem read_Row_Take_vc (k : Nat) : VC S (read_Row_Take_T) byt (read_Row_Take_L k) (read_Row_Take_L (k + 1)) (ac [] Tryd.f70) (retK S (read_Row_Take_T) Tryd.f70 [.obj [.data (.st 4)], .val (.data .str)] [.val (.data .bool)]) = [] := by kernel_rfl
theorem read_Row_Take_snd : Snd Tryd.prog S ⟨70, [.obj [.data (.st 4)], .val (.data .str)], [.val (.data .bool)], fun x => read_Row_Take x.1 x.2⟩ :=
  fn_ok progOk (T := (read_Row_Take_T)) (all_cons read_Row_Is_snd (all_nil)) (all_nil) (all_nil) mixed Tryd.func70 rfl (by kernel_rfl) (ac_code [] Tryd.f70 rfl) (L := read_Row_Take_L)
    (fun n l h x => by cases h) (fun k n l h => by cases h)
    (fun k => All.mem (read_Row_Take_vc k) trivial) (fun x r h => ⟨0, (read_Row_Take_eq 0 x.1 x.2).symm.trans h⟩) (by kernel_rfl) (by kernel_rfl) (Nat.le_of_ble_eq_true (by kernel_rfl)) (by kernel_rfl)
/-! ### 76 cotillion/lex.Reserved -/
noncomputable def lex_Reserved  (s : List UInt8) : Option Bool := if s = s_system then
    if s = s_system then
    some true else
    some false else
    if s = s_age then
    if s = s_age then
    some true else
    some false else
    if s = s_chart then
    if s = s_chart then
    some true else
    some false else
    if s = s_steps then
    if s = s_steps then
    some true else
    some false else
    if s = s_fuel then
    if s = s_fuel then
    some true else
    some false else
    if s = s_var then
    if s = s_var then
    some true else
    some false else
    if s = s_port then
    if s = s_port then
    some true else
    some false else
    if s = s_timer then
    if s = s_timer then
    some true else
    some false else
    if s = s_state then
    if s = s_state then
    some true else
    some false else
    if s = s_parallel then
    if s = s_parallel then
    some true else
    some false else
    if s = s_history then
    if s = s_history then
    some true else
    some false else
    if s = s_deep then
    if s = s_deep then
    some true else
    some false else
    if s = s_entry then
    if s = s_entry then
    some true else
    some false else
    if s = s_exit then
    if s = s_exit then
    some true else
    some false else
    if s = s_on then
    if s = s_on then
    some true else
    some false else
    if s = s_auto then
    if s = s_auto then
    some true else
    some false else
    if s = s_raise then
    if s = s_raise then
    some true else
    some false else
    if s = s_send then
    if s = s_send then
    some true else
    some false else
    if s = s_arm then
    if s = s_arm then
    some true else
    some false else
    if s = s_cancel then
    if s = s_cancel then
    some true else
    some false else
    if s = s_if then
    if s = s_if then
    some true else
    some false else
    if s = s_else then
    if s = s_else then
    some true else
    some false else
    if s = s_loop then
    if s = s_loop then
    some true else
    some false else
    if s = s_in then
    if s = s_in then
    some true else
    some false else
    if s = s_inst then
    if s = s_inst then
    some true else
    some false else
    if s = s_quantum then
    if s = s_quantum then
    some true else
    some false else
    if s = s_ext then
    if s = s_ext then
    some true else
    some false else
    if s = s_prio then
    if s = s_prio then
    some true else
    some false else
    if s = s_chan then
    if s = s_chan then
    some true else
    some false else
    if s = s_cap then
    if s = s_cap then
    some true else
    some false else
    if s = s_cert then
    if s = s_cert then
    some true else
    some false else
    if s = s_insts then
    if s = s_insts then
    some true else
    some false else
    if s = s_chans then
    if s = s_chans then
    some true else
    some false else
    if s = s_cell then
    if s = s_cell then
    some true else
    some false else
    if s = s_off then
    some true else
    some false
noncomputable abbrev lex_Reserved_T : Tab S := ⟨[], [], false, false, none, []⟩
noncomputable def lex_Reserved_L (k : Nat) : Nat → List (Lab S Bool)
  | _ => []
theorem lex_Reserved_eq (k : Nat) (s : List UInt8) : lex_Reserved s = exec S (lex_Reserved_T) byt (labs S (lex_Reserved_T) (lex_Reserved_L k)) (ac [] Tryd.f76) (frame0 S [.val (.data .str)] s) (retK S (lex_Reserved_T) Tryd.f76 [.val (.data .str)] [.val (.data .bool)]) := by kernel_rfl
theorem lex_Reserved_vc (k : Nat) : VC S (lex_Reserved_T) byt (lex_Reserved_L k) (lex_Reserved_L (k + 1)) (ac [] Tryd.f76) (retK S (lex_Reserved_T) Tryd.f76 [.val (.data .str)] [.val (.data .bool)]) = [] := by kernel_rfl
theorem lex_Reserved_snd : Snd Tryd.prog S ⟨76, [.val (.data .str)], [.val (.data .bool)], fun x => lex_Reserved x⟩ :=
  fn_ok progOk (T := (lex_Reserved_T)) (all_nil) (all_nil) (all_nil) mixed Tryd.func76 rfl (by kernel_rfl) (ac_code [] Tryd.f76 rfl) (L := lex_Reserved_L)
    (fun n l h x => by cases h) (fun k n l h => by cases h)
    (fun k => All.mem (lex_Reserved_vc k) trivial) (fun x r h => ⟨0, (lex_Reserved_eq 0 x).symm.trans h⟩) (by kernel_rfl) (by kernel_rfl) (Nat.le_of_ble_eq_true (by kernel_rfl)) (by kernel_rfl)
/-! ### 71 (*cotillion/read.Row).IsName -/
noncomputable def read_Row_IsName  (r_ : expr_reader) : Option (Bool × expr_reader) := (read_Row_Look r_).bind fun r1 =>
    if r1.1.Kind = 1 then
    (lex_Reserved r1.1.Text).bind fun r2 =>
    some (!r2, r1.2) else
    some (false, r1.2)
noncomputable abbrev read_Row_IsName_T : Tab S := ⟨[⟨43, [.obj [.data (.st 4)]], [.val (.data (.st 1))], fun x => read_Row_Look x⟩, ⟨76, [.val (.data .str)], [.val (.data .bool)], fun x => lex_Reserved x⟩], [], false, false, none, []⟩
noncomputable def read_Row_IsName_L (k : Nat) : Nat → List (Lab S (Bool × expr_reader))
  | _ => []
theorem read_Row_IsName_eq (k : Nat) (r_ : expr_reader) : read_Row_IsName r_ = exec S (read_Row_IsName_T) byt (labs S (read_Row_IsName_T) (read_Row_IsName_L k)) (ac [] Tryd.f71) (frame0 S [.obj [.data (.st 4)]] r_) (retK S (read_Row_IsName_T) Tryd.f71 [.obj [.data (.st 4)]] [.val (.data .bool)]) := by kernel_rfl
theorem read_Row_IsName_vc (k : Nat) : VC S (read_Row_IsName_T) byt (read_Row_IsName_L k) (read_Row_IsName_L (k + 1)) (ac [] Tryd.f71) (retK S (read_Row_IsName_T) Tryd.f71 [.obj [.data (.st 4)]] [.val (.data .bool)]) = [] := by kernel_rfl
theorem read_Row_IsName_snd : Snd Tryd.prog S ⟨71, [.obj [.data (.st 4)]], [.val (.data .bool)], fun x => read_Row_IsName x⟩ :=
  fn_ok progOk (T := (read_Row_IsName_T)) (all_cons read_Row_Look_snd (all_cons lex_Reserved_snd (all_nil))) (all_nil) (all_nil) mixed Tryd.func71 rfl (by kernel_rfl) (ac_code [] Tryd.f71 rfl) (L := read_Row_IsName_L)
    (fun n l h x => by cases h) (fun k n l h => by cases h)
    (fun k => All.mem (read_Row_IsName_vc k) trivial) (fun x r h => ⟨0, (read_Row_IsName_eq 0 x).symm.trans h⟩) (by kernel_rfl) (by kernel_rfl) (Nat.le_of_ble_eq_true (by kernel_rfl)) (by kernel_rfl)
/-! ### 74 (*cotillion/read.Row).Wrong -/
noncomputable def read_Row_Wrong  (r_ : expr_reader) : Option expr_reader := (read_Row_Look r_).bind fun r1 =>
    if r1.1.Kind = 4 then
    (read_Row_Fail r1.2 12 r1.1.At).bind fun r2 =>
    some r2 else
    (read_Row_Fail r1.2 11 r1.1.At).bind fun r3 =>
    some r3
noncomputable abbrev read_Row_Wrong_T : Tab S := ⟨[⟨43, [.obj [.data (.st 4)]], [.val (.data (.st 1))], fun x => read_Row_Look x⟩, ⟨75, [.obj [.data (.st 4)], .val (.data (.int .i64)), .val (.data (.int .i64))], [], fun x => read_Row_Fail x.1 x.2.1 x.2.2⟩], [], false, false, none, []⟩
noncomputable def read_Row_Wrong_L (k : Nat) : Nat → List (Lab S expr_reader)
  | _ => []
theorem read_Row_Wrong_eq (k : Nat) (r_ : expr_reader) : read_Row_Wrong r_ = exec S (read_Row_Wrong_T) byt (labs S (read_Row_Wrong_T) (read_Row_Wrong_L k)) (ac [] Tryd.f74) (frame0 S [.obj [.data (.st 4)]] r_) (retK S (read_Row_Wrong_T) Tryd.f74 [.obj [.data (.st 4)]] []) := by kernel_rfl
theorem read_Row_Wrong_vc (k : Nat) : VC S (read_Row_Wrong_T) byt (read_Row_Wrong_L k) (read_Row_Wrong_L (k + 1)) (ac [] Tryd.f74) (retK S (read_Row_Wrong_T) Tryd.f74 [.obj [.data (.st 4)]] []) = [] := by kernel_rfl
theorem read_Row_Wrong_snd : Snd Tryd.prog S ⟨74, [.obj [.data (.st 4)]], [], fun x => read_Row_Wrong x⟩ :=
  fn_ok progOk (T := (read_Row_Wrong_T)) (all_cons read_Row_Look_snd (all_cons read_Row_Fail_snd (all_nil))) (all_nil) (all_nil) mixed Tryd.func74 rfl (by kernel_rfl) (ac_code [] Tryd.f74 rfl) (L := read_Row_Wrong_L)
    (fun n l h x => by cases h) (fun k n l h => by cases h)
    (fun k => All.mem (read_Row_Wrong_vc k) trivial) (fun x r h => ⟨0, (read_Row_Wrong_eq 0 x).symm.trans h⟩) (by kernel_rfl) (by kernel_rfl) (Nat.le_of_ble_eq_true (by kernel_rfl)) (by kernel_rfl)
/-! ### 72 (*cotillion/read.Row).Name -/
noncomputable def read_Row_Name  (r_ : expr_reader) : Option (List UInt8 × expr_reader) := (read_Row_IsName r_).bind fun r1 =>
    bif !r1.1 then
    (read_Row_Wrong r1.2).bind fun r2 =>
    some ([], r2) else
    if 0 ≤ (w64 ((w64 (r1.2.Row.At + 1)) - 1)) then
    if (w64 ((w64 (r1.2.Row.At + 1)) - 1)) < (r1.2.Row.L.length : Int) then
    some ((r1.2.Row.L.getD (w64 ((w64 (r1.2.Row.At + 1)) - 1)).toNat api_Token.z).Text, expr_reader.mk (read_Row.mk r1.2.Row.L (w64 (r1.2.Row.At + 1)) r1.2.Row.Fault) r1.2.v_open) else none else none
noncomputable abbrev read_Row_Name_T : Tab S := ⟨[⟨71, [.obj [.data (.st 4)]], [.val (.data .bool)], fun x => read_Row_IsName x⟩, ⟨74, [.obj [.data (.st 4)]], [], fun x => read_Row_Wrong x⟩], [], false, false, none, []⟩
noncomputable def read_Row_Name_L (k : Nat) : Nat → List (Lab S (List UInt8 × expr_reader))
  | _ => []
theorem read_Row_Name_eq (k : Nat) (r_ : expr_reader) : read_Row_Name r_ = exec S (read_Row_Name_T) byt (labs S (read_Row_Name_T) (read_Row_Name_L k)) (ac [] Tryd.f72) (frame0 S [.obj [.data (.st 4)]] r_) (retK S (read_Row_Name_T) Tryd.f72 [.obj [.data (.st 4)]] [.val (.data .str)]) := by kernel_rfl
theorem read_Row_Name_vc (k : Nat) : VC S (read_Row_Name_T) byt (read_Row_Name_L k) (read_Row_Name_L (k + 1)) (ac [] Tryd.f72) (retK S (read_Row_Name_T) Tryd.f72 [.obj [.data (.st 4)]] [.val (.data .str)]) = [] := by kernel_rfl
theorem read_Row_Name_snd : Snd Tryd.prog S ⟨72, [.obj [.data (.st 4)]], [.val (.data .str)], fun x => read_Row_Name x⟩ :=
  fn_ok progOk (T := (read_Row_Name_T)) (all_cons read_Row_IsName_snd (all_cons read_Row_Wrong_snd (all_nil))) (all_nil) (all_nil) mixed Tryd.func72 rfl (by kernel_rfl) (ac_code [] Tryd.f72 rfl) (L := read_Row_Name_L)
    (fun n l h x => by cases h) (fun k n l h => by cases h)
    (fun k => All.mem (read_Row_Name_vc k) trivial) (fun x r h => ⟨0, (read_Row_Name_eq 0 x).symm.trans h⟩) (by kernel_rfl) (by kernel_rfl) (Nat.le_of_ble_eq_true (by kernel_rfl)) (by kernel_rfl)
/-! ### 73 (*cotillion/read.Row).Want -/
noncomputable def read_Row_Want  (r_ : expr_reader) (s : List UInt8) : Option expr_reader := (read_Row_Take r_ s).bind fun r1 =>
    bif !r1.1 then
    (read_Row_Wrong r1.2).bind fun r2 =>
    some r2 else
    some r1.2
noncomputable abbrev read_Row_Want_T : Tab S := ⟨[⟨70, [.obj [.data (.st 4)], .val (.data .str)], [.val (.data .bool)], fun x => read_Row_Take x.1 x.2⟩, ⟨74, [.obj [.data (.st 4)]], [], fun x => read_Row_Wrong x⟩], [], false, false, none, []⟩
noncomputable def read_Row_Want_L (k : Nat) : Nat → List (Lab S expr_reader)
  | _ => []
theorem read_Row_Want_eq (k : Nat) (r_ : expr_reader) (s : List UInt8) : read_Row_Want r_ s = exec S (read_Row_Want_T) byt (labs S (read_Row_Want_T) (read_Row_Want_L k)) (ac [] Tryd.f73) (frame0 S [.obj [.data (.st 4)], .val (.data .str)] (r_, s)) (retK S (read_Row_Want_T) Tryd.f73 [.obj [.data (.st 4)], .val (.data .str)] []) := by kernel_rfl
theorem read_Row_Want_vc (k : Nat) : VC S (read_Row_Want_T) byt (read_Row_Want_L k) (read_Row_Want_L (k + 1)) (ac [] Tryd.f73) (retK S (read_Row_Want_T) Tryd.f73 [.obj [.data (.st 4)], .val (.data .str)] []) = [] := by kernel_rfl
theorem read_Row_Want_snd : Snd Tryd.prog S ⟨73, [.obj [.data (.st 4)], .val (.data .str)], [], fun x => read_Row_Want x.1 x.2⟩ :=
  fn_ok progOk (T := (read_Row_Want_T)) (all_cons read_Row_Take_snd (all_cons read_Row_Wrong_snd (all_nil))) (all_nil) (all_nil) mixed Tryd.func73 rfl (by kernel_rfl) (ac_code [] Tryd.f73 rfl) (L := read_Row_Want_L)
    (fun n l h x => by cases h) (fun k n l h => by cases h)
    (fun k => All.mem (read_Row_Want_vc k) trivial) (fun x r h => ⟨0, (read_Row_Want_eq 0 x.1 x.2).symm.trans h⟩) (by kernel_rfl) (by kernel_rfl) (Nat.le_of_ble_eq_true (by kernel_rfl)) (by kernel_rfl)
/-! ### 58 (*cotillion/expr.reader).prim -/
noncomputable def expr_reader_prim (self_expr_reader_part : expr_reader → Int → Option (api_Expr × expr_reader))  (r_ : expr_reader) : Option (api_Expr × expr_reader) := (read_Row_Look r_).bind fun r1 =>
    if r1.1.Kind = 2 then
    some (api_Expr.mk 1 r1.1.N [] [] r1.1.At, expr_reader.mk (read_Row.mk r1.2.Row.L (w64 (r1.2.Row.At + 1)) r1.2.Row.Fault) r1.2.v_open) else
    (read_Row_Take r1.2 s_dollar).bind fun r2 =>
    bif r2.1 then
    some (api_Expr.mk 3 0 [] [] r1.1.At, r2.2) else
    (read_Row_IsName r2.2).bind fun r3 =>
    bif r3.1 then
    (read_Row_Name r3.2).bind fun r4 =>
    some (api_Expr.mk 2 0 r4.1 [] r1.1.At, r4.2) else
    (read_Row_Take r3.2 s_in).bind fun r5 =>
    bif r5.1 then
    (read_Row_Want r5.2 s_lp).bind fun r6 =>
    (read_Row_Name r6).bind fun r7 =>
    (read_Row_Want r7.2 s_rp).bind fun r8 =>
    some (api_Expr.mk 4 0 r7.1 [] r1.1.At, r8) else
    (read_Row_Is r5.2 s_lp).bind fun r9 =>
    bif !r9.1 then
    (read_Row_Wrong r9.2).bind fun r10 =>
    some (api_Expr.mk 0 0 [] [] 0, r10) else
    (expr_reader_deep r9.2 r1.1.At).bind fun r11 =>
    bif !r11.1 then
    some (api_Expr.mk 0 0 [] [] 0, r11.2) else
    (self_expr_reader_part r11.2 1).bind fun r12 =>
    (read_Row_Want r12.2 s_rp).bind fun r13 =>
    some (api_Expr.mk r12.1.Kind r12.1.N r12.1.Name r12.1.Kids r12.1.At, expr_reader.mk r13.Row (w64 (r13.v_open - 1)))
noncomputable abbrev expr_reader_prim_T (self_expr_reader_part : expr_reader → Int → Option (api_Expr × expr_reader)) : Tab S := ⟨[⟨43, [.obj [.data (.st 4)]], [.val (.data (.st 1))], fun x => read_Row_Look x⟩, ⟨70, [.obj [.data (.st 4)], .val (.data .str)], [.val (.data .bool)], fun x => read_Row_Take x.1 x.2⟩, ⟨71, [.obj [.data (.st 4)]], [.val (.data .bool)], fun x => read_Row_IsName x⟩, ⟨72, [.obj [.data (.st 4)]], [.val (.data .str)], fun x => read_Row_Name x⟩, ⟨73, [.obj [.data (.st 4)], .val (.data .str)], [], fun x => read_Row_Want x.1 x.2⟩, ⟨57, [.obj [.data (.st 4)], .val (.data .str)], [.val (.data .bool)], fun x => read_Row_Is x.1 x.2⟩, ⟨74, [.obj [.data (.st 4)]], [], fun x => read_Row_Wrong x⟩, ⟨59, [.obj [.data (.st 4)], .val (.data (.int .i64))], [.val (.data .bool)], fun x => expr_reader_deep x.1 x.2⟩, ⟨23, [.obj [.data (.st 4)], .val (.data (.int .i64))], [.val (.data (.st 0))], fun x => self_expr_reader_part x.1 x.2⟩], [], false, false, none, []⟩
noncomputable def expr_reader_prim_L (self_expr_reader_part : expr_reader → Int → Option (api_Expr × expr_reader)) (k : Nat) : Nat → List (Lab S (api_Expr × expr_reader))
  | _ => []
theorem expr_reader_prim_eq (self_expr_reader_part : expr_reader → Int → Option (api_Expr × expr_reader)) (k : Nat) (r_ : expr_reader) : expr_reader_prim self_expr_reader_part r_ = exec S (expr_reader_prim_T self_expr_reader_part) byt (labs S (expr_reader_prim_T self_expr_reader_part) (expr_reader_prim_L self_expr_reader_part k)) (ac [] Tryd.f58) (frame0 S [.obj [.data (.st 4)]] r_) (retK S (expr_reader_prim_T self_expr_reader_part) Tryd.f58 [.obj [.data (.st 4)]] [.val (.data (.st 0))]) := by kernel_rfl
theorem expr_reader_prim_vc (self_expr_reader_part : expr_reader → Int → Option (api_Expr × expr_reader)) (k : Nat) : VC S (expr_reader_prim_T self_expr_reader_part) byt (expr_reader_prim_L self_expr_reader_part k) (expr_reader_prim_L self_expr_reader_part (k + 1)) (ac [] Tryd.f58) (retK S (expr_reader_prim_T self_expr_reader_part) Tryd.f58 [.obj [.data (.st 4)]] [.val (.data (.st 0))]) = [] := by kernel_rfl
theorem expr_reader_prim_snd (self_expr_reader_part : expr_reader → Int → Option (api_Expr × expr_reader)) (hself_expr_reader_part : Snd Tryd.prog S ⟨23, [.obj [.data (.st 4)], .val (.data (.int .i64))], [.val (.data (.st 0))], fun x => self_expr_reader_part x.1 x.2⟩) : Snd Tryd.prog S ⟨58, [.obj [.data (.st 4)]], [.val (.data (.st 0))], fun x => expr_reader_prim self_expr_reader_part x⟩ :=
  fn_ok progOk (T := (expr_reader_prim_T self_expr_reader_part)) (all_cons read_Row_Look_snd (all_cons read_Row_Take_snd (all_cons read_Row_IsName_snd (all_cons read_Row_Name_snd (all_cons read_Row_Want_snd (all_cons read_Row_Is_snd (all_cons read_Row_Wrong_snd (all_cons expr_reader_deep_snd (all_cons hself_expr_reader_part (all_nil)))))))))) (all_nil) (all_nil) mixed Tryd.func58 rfl (by kernel_rfl) (ac_code [] Tryd.f58 rfl) (L := expr_reader_prim_L self_expr_reader_part)
    (fun n l h x => by cases h) (fun k n l h => by cases h)
    (fun k => All.mem (expr_reader_prim_vc self_expr_reader_part k) trivial) (fun x r h => ⟨0, (expr_reader_prim_eq self_expr_reader_part 0 x).symm.trans h⟩) (by kernel_rfl) (by kernel_rfl) (Nat.le_of_ble_eq_true (by kernel_rfl)) (by kernel_rfl)
/-! ### 42 (*cotillion/expr.reader).signed -/
noncomputable def expr_reader_signed_b (self_expr_reader_signed : expr_reader → Option (api_Expr × expr_reader)) (self_expr_reader_part : expr_reader → Int → Option (api_Expr × expr_reader)) (k : Nat) (r_ : expr_reader) : Option (api_Expr × expr_reader) := (read_Row_Look r_).bind fun r1 =>
    (read_Row_Is r1.2 s_minus).bind fun r2 =>
    bif r2.1 then
    (expr_reader_deep r2.2 r1.1.At).bind fun r3 =>
    bif !r3.1 then
    some (api_Expr.mk 0 0 [] [] 0, r3.2) else
    (self_expr_reader_signed r3.2).bind fun r4 =>
    some (api_Expr.mk 5 0 [] [api_Expr.mk r4.1.Kind r4.1.N r4.1.Name r4.1.Kids r4.1.At] r1.1.At, expr_reader.mk r4.2.Row (w64 (r4.2.v_open - 1))) else
    (read_Row_Is r2.2 s_bang).bind fun r5 =>
    bif r5.1 then
    (expr_reader_deep r5.2 r1.1.At).bind fun r6 =>
    bif !r6.1 then
    some (api_Expr.mk 0 0 [] [] 0, r6.2) else
    (self_expr_reader_signed r6.2).bind fun r7 =>
    some (api_Expr.mk 6 0 [] [api_Expr.mk r7.1.Kind r7.1.N r7.1.Name r7.1.Kids r7.1.At] r1.1.At, expr_reader.mk r7.2.Row (w64 (r7.2.v_open - 1))) else
    (expr_reader_prim self_expr_reader_part r5.2).bind fun r8 =>
    some (api_Expr.mk r8.1.Kind r8.1.N r8.1.Name r8.1.Kids r8.1.At, r8.2)
noncomputable def expr_reader_signed_f (self_expr_reader_part : expr_reader → Int → Option (api_Expr × expr_reader)) : Nat → expr_reader → Option (api_Expr × expr_reader)
  | 0, _ => none
  | k + 1, x0 => expr_reader_signed_b (expr_reader_signed_f self_expr_reader_part k) self_expr_reader_part k x0
noncomputable def expr_reader_signed (self_expr_reader_part : expr_reader → Int → Option (api_Expr × expr_reader))  (r_ : expr_reader) : Option (api_Expr × expr_reader) := lim (fun k (x : expr_reader) => expr_reader_signed_f self_expr_reader_part k x) r_
noncomputable abbrev expr_reader_signed_T (self_expr_reader_signed : expr_reader → Option (api_Expr × expr_reader)) (self_expr_reader_part : expr_reader → Int → Option (api_Expr × expr_reader)) : Tab S := ⟨[⟨43, [.obj [.data (.st 4)]], [.val (.data (.st 1))], fun x => read_Row_Look x⟩, ⟨57, [.obj [.data (.st 4)], .val (.data .str)], [.val (.data .bool)], fun x => read_Row_Is x.1 x.2⟩, ⟨59, [.obj [.data (.st 4)], .val (.data (.int .i64))], [.val (.data .bool)], fun x => expr_reader_deep x.1 x.2⟩, ⟨42, [.obj [.data (.st 4)]], [.val (.data (.st 0))], fun x => self_expr_reader_signed x⟩, ⟨58, [.obj [.data (.st 4)]], [.val (.data (.st 0))], fun x => expr_reader_prim self_expr_reader_part x⟩], [], false, false, none, []⟩
noncomputable def expr_reader_signed_L (self_expr_reader_signed : expr_reader → Option (api_Expr × expr_reader)) (self_expr_reader_part : expr_reader → Int → Option (api_Expr × expr_reader)) (k : Nat) : Nat → List (Lab S (api_Expr × expr_reader))
  | _ => []
theorem expr_reader_signed_eq (self_expr_reader_signed : expr_reader → Option (api_Expr × expr_reader)) (self_expr_reader_part : expr_reader → Int → Option (api_Expr × expr_reader)) (k : Nat) (r_ : expr_reader) : expr_reader_signed_b self_expr_reader_signed self_expr_reader_part k r_ = exec S (expr_reader_signed_T self_expr_reader_signed self_expr_reader_part) byt (labs S (expr_reader_signed_T self_expr_reader_signed self_expr_reader_part) (expr_reader_signed_L self_expr_reader_signed self_expr_reader_part k)) (ac [] Tryd.f42) (frame0 S [.obj [.data (.st 4)]] r_) (retK S (expr_reader_signed_T self_expr_reader_signed self_expr_reader_part) Tryd.f42 [.obj [.data (.st 4)]] [.val (.data (.st 0))]) := by kernel_rfl
theorem expr_reader_signed_vc (self_expr_reader_signed : expr_reader → Option (api_Expr × expr_reader)) (self_expr_reader_part : expr_reader → Int → Option (api_Expr × expr_reader)) (k : Nat) : VC S (expr_reader_signed_T self_expr_reader_signed self_expr_reader_part) byt (expr_reader_signed_L self_expr_reader_signed self_expr_reader_part k) (expr_reader_signed_L self_expr_reader_signed self_expr_reader_part (k + 1)) (ac [] Tryd.f42) (retK S (expr_reader_signed_T self_expr_reader_signed self_expr_reader_part) Tryd.f42 [.obj [.data (.st 4)]] [.val (.data (.st 0))]) = [] := by kernel_rfl
theorem expr_reader_signed_sndk (self_expr_reader_signed : expr_reader → Option (api_Expr × expr_reader)) (self_expr_reader_part : expr_reader → Int → Option (api_Expr × expr_reader)) (hself : Snd Tryd.prog S ⟨42, [.obj [.data (.st 4)]], [.val (.data (.st 0))], fun x => self_expr_reader_signed x⟩) (hself_expr_reader_part : Snd Tryd.prog S ⟨23, [.obj [.data (.st 4)], .val (.data (.int .i64))], [.val (.data (.st 0))], fun x => self_expr_reader_part x.1 x.2⟩) (k : Nat) : Snd Tryd.prog S ⟨42, [.obj [.data (.st 4)]], [.val (.data (.st 0))], fun x => expr_reader_signed_b self_expr_reader_signed self_expr_reader_part k x⟩ :=
  fn_ok progOk (T := (expr_reader_signed_T self_expr_reader_signed self_expr_reader_part)) (all_cons read_Row_Look_snd (all_cons read_Row_Is_snd (all_cons expr_reader_deep_snd (all_cons hself (all_cons (expr_reader_prim_snd self_expr_reader_part hself_expr_reader_part) (all_nil)))))) (all_nil) (all_nil) mixed Tryd.func42 rfl (by kernel_rfl) (ac_code [] Tryd.f42 rfl) (L := expr_reader_signed_L self_expr_reader_signed self_expr_reader_part)
    (fun n l h x => by cases h) (fun k n l h => by cases h)
    (fun k => All.mem (expr_reader_signed_vc self_expr_reader_signed self_expr_reader_part k) trivial) (fun x r h => ⟨k, (expr_reader_signed_eq self_expr_reader_signed self_expr_reader_part k x).symm.trans h⟩) (by kernel_rfl) (by kernel_rfl) (Nat.le_of_ble_eq_true (by kernel_rfl)) (by kernel_rfl)
theorem expr_reader_signed_sndf (self_expr_reader_part : expr_reader → Int → Option (api_Expr × expr_reader)) (hself_expr_reader_part : Snd Tryd.prog S ⟨23, [.obj [.data (.st 4)], .val (.data (.int .i64))], [.val (.data (.st 0))], fun x => self_expr_reader_part x.1 x.2⟩) : ∀ k, Snd Tryd.prog S ⟨42, [.obj [.data (.st 4)]], [.val (.data (.st 0))], fun x => expr_reader_signed_f self_expr_reader_part k x⟩
  | 0 => Snd.none ⟨_, Tryd.func42, by kernel_rfl, by kernel_rfl⟩ fun _ => rfl
  | k + 1 => expr_reader_signed_sndk (expr_reader_signed_f self_expr_reader_part k) self_expr_reader_part (expr_reader_signed_sndf self_expr_reader_part hself_expr_reader_part k) hself_expr_reader_part k
theorem expr_reader_signed_snd (self_expr_reader_part : expr_reader → Int → Option (api_Expr × expr_reader)) (hself_expr_reader_part : Snd Tryd.prog S ⟨23, [.obj [.data (.st 4)], .val (.data (.int .i64))], [.val (.data (.st 0))], fun x => self_expr_reader_part x.1 x.2⟩) : Snd Tryd.prog S ⟨42, [.obj [.data (.st 4)]], [.val (.data (.st 0))], fun x => expr_reader_signed self_expr_reader_part x⟩ := Snd.lim (expr_reader_signed_sndf self_expr_reader_part hself_expr_reader_part)
/-! ### 44 cotillion/expr.sign -/
noncomputable def expr_sign  (text : List UInt8) : Option (Int × Int) := if text = s_bar_bar then
    some (19, 1) else
    if text = s_amp_amp then
    some (18, 2) else
    if text = s_lt then
    some (12, 3) else
    if text = s_lt_eq then
    some (13, 3) else
    if text = s_gt then
    some (14, 3) else
    if text = s_gt_eq then
    some (15, 3) else
    if text = s_eq_eq then
    some (16, 3) else
    if text = s_bang_eq then
    some (17, 3) else
    if text = s_plus then
    some (10, 4) else
    if text = s_minus then
    some (11, 4) else
    if text = s_star then
    some (7, 5) else
    if text = s_slash then
    some (8, 5) else
    if text = s_pct then
    some (9, 5) else
    some (0, 0)
noncomputable abbrev expr_sign_T : Tab S := ⟨[], [], false, false, none, []⟩
noncomputable def expr_sign_L (k : Nat) : Nat → List (Lab S (Int × Int))
  | _ => []
theorem expr_sign_eq (k : Nat) (text : List UInt8) : expr_sign text = exec S (expr_sign_T) byt (labs S (expr_sign_T) (expr_sign_L k)) (ac [] Tryd.f44) (frame0 S [.val (.data .str)] text) (retK S (expr_sign_T) Tryd.f44 [.val (.data .str)] [.val (.data (.int .i64)), .val (.data (.int .i64))]) := by kernel_rfl
theorem expr_sign_vc (k : Nat) : VC S (expr_sign_T) byt (expr_sign_L k) (expr_sign_L (k + 1)) (ac [] Tryd.f44) (retK S (expr_sign_T) Tryd.f44 [.val (.data .str)] [.val (.data (.int .i64)), .val (.data (.int .i64))]) = [] := by kernel_rfl
theorem expr_sign_snd : Snd Tryd.prog S ⟨44, [.val (.data .str)], [.val (.data (.int .i64)), .val (.data (.int .i64))], fun x => expr_sign x⟩ :=
  fn_ok progOk (T := (expr_sign_T)) (all_nil) (all_nil) (all_nil) mixed Tryd.func44 rfl (by kernel_rfl) (ac_code [] Tryd.f44 rfl) (L := expr_sign_L)
    (fun n l h x => by cases h) (fun k n l h => by cases h)
    (fun k => All.mem (expr_sign_vc k) trivial) (fun x r h => ⟨0, (expr_sign_eq 0 x).symm.trans h⟩) (by kernel_rfl) (by kernel_rfl) (Nat.le_of_ble_eq_true (by kernel_rfl)) (by kernel_rfl)
/-! ### 23 (*cotillion/expr.reader).part -/
noncomputable def expr_reader_part_l0 (self_expr_reader_part : expr_reader → Int → Option (api_Expr × expr_reader)) : Nat → (List api_Token) → Int → Int → Int → Int → Int → Int → Int → (List UInt8) → (List api_Expr) → Int → Int → Int → (List UInt8) → (List api_Expr) → Int → Option (api_Expr × expr_reader)
  | 0, _, _, _, _, _, _, _, _, _, _, _, _, _, _, _, _ => none
  | k + 1, r__Row_L, r__Row_At, r__Row_Fault_Code, r__Row_Fault_At, r__v_open, level, x4_Kind, x4_N, x4_Name, x4_Kids, x4_At, e_Kind, e_N, e_Name, e_Kids, e_At => (read_Row_Look (expr_reader.mk (read_Row.mk r__Row_L r__Row_At (api_Fault.mk r__Row_Fault_Code r__Row_Fault_At)) r__v_open)).bind fun r3 =>
    (expr_sign r3.1.Text).bind fun r4 =>
    if r3.1.Kind ≠ 3 then
    some (api_Expr.mk e_Kind e_N e_Name e_Kids e_At, r3.2) else
    if r4.2 ≠ level then
    some (api_Expr.mk e_Kind e_N e_Name e_Kids e_At, r3.2) else
    (self_expr_reader_part (expr_reader.mk (read_Row.mk r3.2.Row.L (w64 (r3.2.Row.At + 1)) r3.2.Row.Fault) r3.2.v_open) (w64 (level + 1))).bind fun r5 =>
    if level = 3 then
    some (api_Expr.mk r4.1 0 [] [api_Expr.mk e_Kind e_N e_Name e_Kids e_At, api_Expr.mk r5.1.Kind r5.1.N r5.1.Name r5.1.Kids r5.1.At] r3.1.At, r5.2) else
    expr_reader_part_l0 self_expr_reader_part k r5.2.Row.L r5.2.Row.At r5.2.Row.Fault.Code r5.2.Row.Fault.At r5.2.v_open level x4_Kind x4_N x4_Name x4_Kids x4_At r4.1 0 [] [api_Expr.mk e_Kind e_N e_Name e_Kids e_At, api_Expr.mk r5.1.Kind r5.1.N r5.1.Name r5.1.Kids r5.1.At] r3.1.At
noncomputable def expr_reader_part_b (self_expr_reader_part : expr_reader → Int → Option (api_Expr × expr_reader)) (k : Nat) (r_ : expr_reader) (level : Int) : Option (api_Expr × expr_reader) := if level = 6 then
    (expr_reader_signed self_expr_reader_part r_).bind fun r1 =>
    some (api_Expr.mk r1.1.Kind r1.1.N r1.1.Name r1.1.Kids r1.1.At, r1.2) else
    (self_expr_reader_part r_ (w64 (level + 1))).bind fun r2 =>
    expr_reader_part_l0 self_expr_reader_part k r2.2.Row.L r2.2.Row.At r2.2.Row.Fault.Code r2.2.Row.Fault.At r2.2.v_open level 0 0 [] [] 0 r2.1.Kind r2.1.N r2.1.Name r2.1.Kids r2.1.At
noncomputable def expr_reader_part_f : Nat → expr_reader → Int → Option (api_Expr × expr_reader)
  | 0, _, _ => none
  | k + 1, x0, x1 => expr_reader_part_b (expr_reader_part_f k) k x0 x1
noncomputable def expr_reader_part  (r_ : expr_reader) (level : Int) : Option (api_Expr × expr_reader) := lim (fun k (x : expr_reader × Int) => expr_reader_part_f k x.1 x.2) (r_, level)
noncomputable abbrev expr_reader_part_T (self_expr_reader_part : expr_reader → Int → Option (api_Expr × expr_reader)) : Tab S := ⟨[⟨42, [.obj [.data (.st 4)]], [.val (.data (.st 0))], fun x => expr_reader_signed self_expr_reader_part x⟩, ⟨23, [.obj [.data (.st 4)], .val (.data (.int .i64))], [.val (.data (.st 0))], fun x => self_expr_reader_part x.1 x.2⟩, ⟨43, [.obj [.data (.st 4)]], [.val (.data (.st 1))], fun x => read_Row_Look x⟩, ⟨44, [.val (.data .str)], [.val (.data (.int .i64)), .val (.data (.int .i64))], fun x => expr_sign x⟩], [], false, false, none, []⟩
noncomputable def expr_reader_part_L (self_expr_reader_part : expr_reader → Int → Option (api_Expr × expr_reader)) (k : Nat) : Nat → List (Lab S (api_Expr × expr_reader))
  | 0 => [⟨[0, 1, 4, 5], [.obj [.data (.sl (.st 1)), .data (.int .i64), .data (.int .i64), .data (.int .i64), .data (.int .i64)], .val (.data (.int .i64)), .obj [.data (.int .i64), .data (.int .i64), .data .str, .marr (.st 0), .data (.int .i64)], .obj [.data (.int .i64), .data (.int .i64), .data .str, .data (.sl (.st 0)), .data (.int .i64)]], fun x => expr_reader_part_l0 self_expr_reader_part k x.1.1 x.1.2.1 x.1.2.2.1 x.1.2.2.2.1 x.1.2.2.2.2 x.2.1 x.2.2.1.1 x.2.2.1.2.1 x.2.2.1.2.2.1 x.2.2.1.2.2.2.1 x.2.2.1.2.2.2.2 x.2.2.2.1 x.2.2.2.2.1 x.2.2.2.2.2.1 x.2.2.2.2.2.2.1 x.2.2.2.2.2.2.2, false⟩]
  | _ + 1 => []
theorem expr_reader_part_eq (self_expr_reader_part : expr_reader → Int → Option (api_Expr × expr_reader)) (k : Nat) (r_ : expr_reader) (level : Int) : expr_reader_part_b self_expr_reader_part k r_ level = exec S (expr_reader_part_T self_expr_reader_part) byt (labs S (expr_reader_part_T self_expr_reader_part) (expr_reader_part_L self_expr_reader_part k)) (ac [] Tryd.f23) (frame0 S [.obj [.data (.st 4)], .val (.data (.int .i64))] (r_, level)) (retK S (expr_reader_part_T self_expr_reader_part) Tryd.f23 [.obj [.data (.st 4)], .val (.data (.int .i64))] [.val (.data (.st 0))]) := by kernel_rfl
theorem expr_reader_part_vc (self_expr_reader_part : expr_reader → Int → Option (api_Expr × expr_reader)) (k : Nat) : VC S (expr_reader_part_T self_expr_reader_part) byt (expr_reader_part_L self_expr_reader_part k) (expr_reader_part_L self_expr_reader_part (k + 1)) (ac [] Tryd.f23) (retK S (expr_reader_part_T self_expr_reader_part) Tryd.f23 [.obj [.data (.st 4)], .val (.data (.int .i64))] [.val (.data (.st 0))]) = [∀ x : (List api_Token × Int × Int × Int × Int) × Int × (Int × Int × List UInt8 × List api_Expr × Int) × (Int × Int × List UInt8 × List api_Expr × Int), expr_reader_part_l0 self_expr_reader_part (k + 1) x.1.1 x.1.2.1 x.1.2.2.1 x.1.2.2.2.1 x.1.2.2.2.2 x.2.1 x.2.2.1.1 x.2.2.1.2.1 x.2.2.1.2.2.1 x.2.2.1.2.2.2.1 x.2.2.1.2.2.2.2 x.2.2.2.1 x.2.2.2.2.1 x.2.2.2.2.2.1 x.2.2.2.2.2.2.1 x.2.2.2.2.2.2.2 = expr_reader_part_l0 self_expr_reader_part (k + 1) x.1.1 x.1.2.1 x.1.2.2.1 x.1.2.2.2.1 x.1.2.2.2.2 x.2.1 x.2.2.1.1 x.2.2.1.2.1 x.2.2.1.2.2.1 x.2.2.1.2.2.2.1 x.2.2.1.2.2.2.2 x.2.2.2.1 x.2.2.2.2.1 x.2.2.2.2.2.1 x.2.2.2.2.2.2.1 x.2.2.2.2.2.2.2] := by kernel_rfl
theorem expr_reader_part_sndk (self_expr_reader_part : expr_reader → Int → Option (api_Expr × expr_reader)) (hself : Snd Tryd.prog S ⟨23, [.obj [.data (.st 4)], .val (.data (.int .i64))], [.val (.data (.st 0))], fun x => self_expr_reader_part x.1 x.2⟩) (k : Nat) : Snd Tryd.prog S ⟨23, [.obj [.data (.st 4)], .val (.data (.int .i64))], [.val (.data (.st 0))], fun x => expr_reader_part_b self_expr_reader_part k x.1 x.2⟩ :=
  fn_ok progOk (T := (expr_reader_part_T self_expr_reader_part)) (all_cons (expr_reader_signed_snd self_expr_reader_part hself) (all_cons hself (all_cons read_Row_Look_snd (all_cons expr_sign_snd (all_nil))))) (all_nil) (all_nil) mixed Tryd.func23 rfl (by kernel_rfl) (ac_code [] Tryd.f23 rfl) (L := expr_reader_part_L self_expr_reader_part)
    (fun n l h x => by match n, h with
        | 0, h => 
          rcases List.mem_cons.1 h with rfl | h
          · rfl
          cases h
        | _ + 1, h => cases h) (fun k n l h => by match n, h with
        | 0, h => 
          rcases List.mem_cons.1 h with rfl | h
          · rfl
          cases h
        | _ + 1, h => cases h)
    (fun k => All.mem (expr_reader_part_vc self_expr_reader_part k) ⟨fun _ => rfl, trivial⟩) (fun x r h => ⟨k, (expr_reader_part_eq self_expr_reader_part k x.1 x.2).symm.trans h⟩) (by kernel_rfl) (by kernel_rfl) (Nat.le_of_ble_eq_true (by kernel_rfl)) (by kernel_rfl)
theorem expr_reader_part_sndf : ∀ k, Snd Tryd.prog S ⟨23, [.obj [.data (.st 4)], .val (.data (.int .i64))], [.val (.data (.st 0))], fun x => expr_reader_part_f k x.1 x.2⟩
  | 0 => Snd.none ⟨_, Tryd.func23, by kernel_rfl, by kernel_rfl⟩ fun _ => rfl
  | k + 1 => expr_reader_part_sndk (expr_reader_part_f k) (expr_reader_part_sndf k) k
theorem expr_reader_part_snd : Snd Tryd.prog S ⟨23, [.obj [.data (.st 4)], .val (.data (.int .i64))], [.val (.data (.st 0))], fun x => expr_reader_part x.1 x.2⟩ := Snd.lim (expr_reader_part_sndf)
/-! ### 10 cotillion/expr.Parse -/
noncomputable def expr_Parse  (l : List api_Token) (v_at : Int) : Option (api_Expr × Int × api_Fault) := (expr_reader_part (expr_reader.mk (read_Row.mk l v_at (api_Fault.mk 0 0)) 0) 1).bind fun r1 =>
    (read_Row_OK r1.2).bind fun r2 =>
    bif !r2.1 then
    some (api_Expr.mk 0 0 [] [] 0, 0, r2.2.Row.Fault) else
    some (api_Expr.mk r1.1.Kind r1.1.N r1.1.Name r1.1.Kids r1.1.At, r2.2.Row.At, api_Fault.mk 0 0)
noncomputable abbrev expr_Parse_T : Tab S := ⟨[⟨23, [.obj [.data (.st 4)], .val (.data (.int .i64))], [.val (.data (.st 0))], fun x => expr_reader_part x.1 x.2⟩, ⟨24, [.obj [.data (.st 4)]], [.val (.data .bool)], fun x => read_Row_OK x⟩], [], false, false, none, []⟩
noncomputable def expr_Parse_L (k : Nat) : Nat → List (Lab S (api_Expr × Int × api_Fault))
  | _ => []
theorem expr_Parse_eq (k : Nat) (l : List api_Token) (v_at : Int) : expr_Parse l v_at = exec S (expr_Parse_T) byt (labs S (expr_Parse_T) (expr_Parse_L k)) (ac [] Tryd.f10) (frame0 S [.val (.data (.sl (.st 1))), .val (.data (.int .i64))] (l, v_at)) (retK S (expr_Parse_T) Tryd.f10 [.val (.data (.sl (.st 1))), .val (.data (.int .i64))] [.val (.data (.st 0)), .val (.data (.int .i64)), .val (.data (.st 2))]) := by kernel_rfl
theorem expr_Parse_vc (k : Nat) : VC S (expr_Parse_T) byt (expr_Parse_L k) (expr_Parse_L (k + 1)) (ac [] Tryd.f10) (retK S (expr_Parse_T) Tryd.f10 [.val (.data (.sl (.st 1))), .val (.data (.int .i64))] [.val (.data (.st 0)), .val (.data (.int .i64)), .val (.data (.st 2))]) = [] := by kernel_rfl
theorem expr_Parse_snd : Snd Tryd.prog S ⟨10, [.val (.data (.sl (.st 1))), .val (.data (.int .i64))], [.val (.data (.st 0)), .val (.data (.int .i64)), .val (.data (.st 2))], fun x => expr_Parse x.1 x.2⟩ :=
  fn_ok progOk (T := (expr_Parse_T)) (all_cons expr_reader_part_snd (all_cons read_Row_OK_snd (all_nil))) (all_nil) (all_nil) mixed Tryd.func10 rfl (by kernel_rfl) (ac_code [] Tryd.f10 rfl) (L := expr_Parse_L)
    (fun n l h x => by cases h) (fun k n l h => by cases h)
    (fun k => All.mem (expr_Parse_vc k) trivial) (fun x r h => ⟨0, (expr_Parse_eq 0 x.1 x.2).symm.trans h⟩) (by kernel_rfl) (by kernel_rfl) (Nat.le_of_ble_eq_true (by kernel_rfl)) (by kernel_rfl)
/-! ### 17 cotillion/cotillionlaw7.read -/
noncomputable def law7_read  (s : List UInt8) : Option (api_Expr × Bool) := (lex_All s).bind fun r1 =>
    if r1.2.Code ≠ 0 then
    some (api_Expr.mk 0 0 [] [] 0, false) else
    (expr_Parse r1.1 0).bind fun r2 =>
    if r2.2.2.Code = 0 then
    some (api_Expr.mk r2.1.Kind r2.1.N r2.1.Name r2.1.Kids r2.1.At, decide (r2.2.1 = (w64 ((r1.1.length : Int) - 1)))) else
    some (api_Expr.mk r2.1.Kind r2.1.N r2.1.Name r2.1.Kids r2.1.At, false)
noncomputable abbrev law7_read_T : Tab S := ⟨[⟨9, [.val (.data .str)], [.val (.town (.st 1)), .val (.data (.st 2))], fun x => lex_All x⟩, ⟨10, [.val (.data (.sl (.st 1))), .val (.data (.int .i64))], [.val (.data (.st 0)), .val (.data (.int .i64)), .val (.data (.st 2))], fun x => expr_Parse x.1 x.2⟩], [], false, false, none, []⟩
noncomputable def law7_read_L (k : Nat) : Nat → List (Lab S (api_Expr × Bool))
  | _ => []
theorem law7_read_eq (k : Nat) (s : List UInt8) : law7_read s = exec S (law7_read_T) byt (labs S (law7_read_T) (law7_read_L k)) (ac [] Tryd.f17) (frame0 S [.val (.data .str)] s) (retK S (law7_read_T) Tryd.f17 [.val (.data .str)] [.val (.data (.st 0)), .val (.data .bool)]) := by kernel_rfl
theorem law7_read_vc (k : Nat) : VC S (law7_read_T) byt (law7_read_L k) (law7_read_L (k + 1)) (ac [] Tryd.f17) (retK S (law7_read_T) Tryd.f17 [.val (.data .str)] [.val (.data (.st 0)), .val (.data .bool)]) = [] := by kernel_rfl
theorem law7_read_snd : Snd Tryd.prog S ⟨17, [.val (.data .str)], [.val (.data (.st 0)), .val (.data .bool)], fun x => law7_read x⟩ :=
  fn_ok progOk (T := (law7_read_T)) (all_cons lex_All_snd (all_cons expr_Parse_snd (all_nil))) (all_nil) (all_nil) mixed Tryd.func17 rfl (by kernel_rfl) (ac_code [] Tryd.f17 rfl) (L := law7_read_L)
    (fun n l h x => by cases h) (fun k n l h => by cases h)
    (fun k => All.mem (law7_read_vc k) trivial) (fun x r h => ⟨0, (law7_read_eq 0 x).symm.trans h⟩) (by kernel_rfl) (by kernel_rfl) (Nat.le_of_ble_eq_true (by kernel_rfl)) (by kernel_rfl)
/-! ### 52 cotillion/expr.between -/
noncomputable def expr_between_l0 : Nat → Int → (List UInt8 × List UInt8 × List UInt8 × List UInt8 × List UInt8 × List UInt8 × List UInt8 × List UInt8 × List UInt8 × List UInt8 × List UInt8 × List UInt8 × List UInt8) → Int → Option (List UInt8 × Int)
  | 0, _, _, _ => none
  | k + 1, kind, x8, x9 => if x9 < 13 then
    if 0 ≤ x9 then
    if x9 < ([x8.1, x8.2.1, x8.2.2.1, x8.2.2.2.1, x8.2.2.2.2.1, x8.2.2.2.2.2.1, x8.2.2.2.2.2.2.1, x8.2.2.2.2.2.2.2.1, x8.2.2.2.2.2.2.2.2.1, x8.2.2.2.2.2.2.2.2.2.1, x8.2.2.2.2.2.2.2.2.2.2.1, x8.2.2.2.2.2.2.2.2.2.2.2.1, x8.2.2.2.2.2.2.2.2.2.2.2.2].length : Int) then
    (expr_sign ([x8.1, x8.2.1, x8.2.2.1, x8.2.2.2.1, x8.2.2.2.2.1, x8.2.2.2.2.2.1, x8.2.2.2.2.2.2.1, x8.2.2.2.2.2.2.2.1, x8.2.2.2.2.2.2.2.2.1, x8.2.2.2.2.2.2.2.2.2.1, x8.2.2.2.2.2.2.2.2.2.2.1, x8.2.2.2.2.2.2.2.2.2.2.2.1, x8.2.2.2.2.2.2.2.2.2.2.2.2].getD x9.toNat [])).bind fun r1 =>
    if r1.1 = kind then
    some ([x8.1, x8.2.1, x8.2.2.1, x8.2.2.2.1, x8.2.2.2.2.1, x8.2.2.2.2.2.1, x8.2.2.2.2.2.2.1, x8.2.2.2.2.2.2.2.1, x8.2.2.2.2.2.2.2.2.1, x8.2.2.2.2.2.2.2.2.2.1, x8.2.2.2.2.2.2.2.2.2.2.1, x8.2.2.2.2.2.2.2.2.2.2.2.1, x8.2.2.2.2.2.2.2.2.2.2.2.2].getD x9.toNat [], r1.2) else
    expr_between_l0 k kind x8 (w64 (x9 + 1)) else none else none else
    some ([], 0)
noncomputable def expr_between_f (k : Nat) (kind : Int) : Option (List UInt8 × Int) := expr_between_l0 k kind arr_x03b7b 0
noncomputable def expr_between  (kind : Int) : Option (List UInt8 × Int) := lim (fun k (x : Int) => expr_between_f k x) kind
noncomputable abbrev expr_between_T : Tab S := ⟨[⟨44, [.val (.data .str)], [.val (.data (.int .i64)), .val (.data (.int .i64))], fun x => expr_sign x⟩], [], false, false, none, []⟩
noncomputable def expr_between_L (k : Nat) : Nat → List (Lab S (List UInt8 × Int))
  | 0 => [⟨[0, 8, 9], [.val (.data (.int .i64)), .val (.data (.st 6)), .val (.data (.int .i64))], fun x => expr_between_l0 k x.1 x.2.1 x.2.2, false⟩]
  | _ + 1 => []
theorem expr_between_eq (k : Nat) (kind : Int) : expr_between_f k kind = exec S (expr_between_T) byt (labs S (expr_between_T) (expr_between_L k)) (ac [] Tryd.f52) (frame0 S [.val (.data (.int .i64))] kind) (retK S (expr_between_T) Tryd.f52 [.val (.data (.int .i64))] [.val (.data .str), .val (.data (.int .i64))]) := by kernel_rfl
theorem expr_between_vc (k : Nat) : VC S (expr_between_T) byt (expr_between_L k) (expr_between_L (k + 1)) (ac [] Tryd.f52) (retK S (expr_between_T) Tryd.f52 [.val (.data (.int .i64))] [.val (.data .str), .val (.data (.int .i64))]) = [∀ x : Int × (List UInt8 × List UInt8 × List UInt8 × List UInt8 × List UInt8 × List UInt8 × List UInt8 × List UInt8 × List UInt8 × List UInt8 × List UInt8 × List UInt8 × List UInt8) × Int, expr_between_l0 (k + 1) x.1 x.2.1 x.2.2 = expr_between_l0 (k + 1) x.1 x.2.1 x.2.2] := by kernel_rfl
theorem expr_between_sndk (k : Nat) : Snd Tryd.prog S ⟨52, [.val (.data (.int .i64))], [.val (.data .str), .val (.data (.int .i64))], fun x => expr_between_f k x⟩ :=
  fn_ok progOk (T := (expr_between_T)) (all_cons expr_sign_snd (all_nil)) (all_nil) (all_nil) mixed Tryd.func52 rfl (by kernel_rfl) (ac_code [] Tryd.f52 rfl) (L := expr_between_L)
    (fun n l h x => by match n, h with
        | 0, h => 
          rcases List.mem_cons.1 h with rfl | h
          · rfl
          cases h
        | _ + 1, h => cases h) (fun k n l h => by match n, h with
        | 0, h => 
          rcases List.mem_cons.1 h with rfl | h
          · rfl
          cases h
        | _ + 1, h => cases h)
    (fun k => All.mem (expr_between_vc k) ⟨fun _ => rfl, trivial⟩) (fun x r h => ⟨k, (expr_between_eq k x).symm.trans h⟩) (by kernel_rfl) (by kernel_rfl) (Nat.le_of_ble_eq_true (by kernel_rfl)) (by kernel_rfl)
theorem expr_between_snd : Snd Tryd.prog S ⟨52, [.val (.data (.int .i64))], [.val (.data .str), .val (.data (.int .i64))], fun x => expr_between x⟩ := Snd.lim (expr_between_sndk)
/-! ### 46 cotillion/expr.level -/
noncomputable def expr_level  (kind : Int) : Option Int := if kind = 5 then
    some 6 else
    if kind = 6 then
    some 6 else
    (expr_between kind).bind fun r1 =>
    if 0 < r1.2 then
    some r1.2 else
    some 7
noncomputable abbrev expr_level_T : Tab S := ⟨[⟨52, [.val (.data (.int .i64))], [.val (.data .str), .val (.data (.int .i64))], fun x => expr_between x⟩], [], false, false, none, []⟩
noncomputable def expr_level_L (k : Nat) : Nat → List (Lab S Int)
  | _ => []
theorem expr_level_eq (k : Nat) (kind : Int) : expr_level kind = exec S (expr_level_T) byt (labs S (expr_level_T) (expr_level_L k)) (ac [] Tryd.f46) (frame0 S [.val (.data (.int .i64))] kind) (retK S (expr_level_T) Tryd.f46 [.val (.data (.int .i64))] [.val (.data (.int .i64))]) := by kernel_rfl
theorem expr_level_vc (k : Nat) : VC S (expr_level_T) byt (expr_level_L k) (expr_level_L (k + 1)) (ac [] Tryd.f46) (retK S (expr_level_T) Tryd.f46 [.val (.data (.int .i64))] [.val (.data (.int .i64))]) = [] := by kernel_rfl
theorem expr_level_snd : Snd Tryd.prog S ⟨46, [.val (.data (.int .i64))], [.val (.data (.int .i64))], fun x => expr_level x⟩ :=
  fn_ok progOk (T := (expr_level_T)) (all_cons expr_between_snd (all_nil)) (all_nil) (all_nil) mixed Tryd.func46 rfl (by kernel_rfl) (ac_code [] Tryd.f46 rfl) (L := expr_level_L)
    (fun n l h x => by cases h) (fun k n l h => by cases h)
    (fun k => All.mem (expr_level_vc k) trivial) (fun x r h => ⟨0, (expr_level_eq 0 x).symm.trans h⟩) (by kernel_rfl) (by kernel_rfl) (Nat.le_of_ble_eq_true (by kernel_rfl)) (by kernel_rfl)
/-! ### 47 cotillion/expr.places -/
noncomputable def expr_places  (kind : Int) : Option (List Int) := (expr_level kind).bind fun r1 =>
    if r1 = 7 then
    some [] else
    if r1 = 6 then
    some [6] else
    if r1 = 3 then
    some [4, 4] else
    some [r1, w64 (r1 + 1)]
noncomputable abbrev expr_places_T : Tab S := ⟨[⟨46, [.val (.data (.int .i64))], [.val (.data (.int .i64))], fun x => expr_level x⟩], [], false, false, none, []⟩
noncomputable def expr_places_L (k : Nat) : Nat → List (Lab S (List Int))
  | _ => []
theorem expr_places_eq (k : Nat) (kind : Int) : expr_places kind = exec S (expr_places_T) byt (labs S (expr_places_T) (expr_places_L k)) (ac [] Tryd.f47) (frame0 S [.val (.data (.int .i64))] kind) (retK S (expr_places_T) Tryd.f47 [.val (.data (.int .i64))] [.val (.data (.sl (.int .i64)))]) := by kernel_rfl
theorem expr_places_vc (k : Nat) : VC S (expr_places_T) byt (expr_places_L k) (expr_places_L (k + 1)) (ac [] Tryd.f47) (retK S (expr_places_T) Tryd.f47 [.val (.data (.int .i64))] [.val (.data (.sl (.int .i64)))]) = [] := by kernel_rfl
theorem expr_places_snd : Snd Tryd.prog S ⟨47, [.val (.data (.int .i64))], [.val (.data (.sl (.int .i64)))], fun x => expr_places x⟩ :=
  fn_ok progOk (T := (expr_places_T)) (all_cons expr_level_snd (all_nil)) (all_nil) (all_nil) mixed Tryd.func47 rfl (by kernel_rfl) (ac_code [] Tryd.f47 rfl) (L := expr_places_L)
    (fun n l h x => by cases h) (fun k n l h => by cases h)
    (fun k => All.mem (expr_places_vc k) trivial) (fun x r h => ⟨0, (expr_places_eq 0 x).symm.trans h⟩) (by kernel_rfl) (by kernel_rfl) (Nat.le_of_ble_eq_true (by kernel_rfl)) (by kernel_rfl)
/-! ### 28 cotillion/expr.write -/
noncomputable def expr_write_l0 (self_expr_write : (List UInt8) → api_Expr → Int → Option (List UInt8)) : Nat → (List UInt8) → Int → Int → (List UInt8) → (List api_Expr) → Int → (List Int) → Int → Int → Option (List UInt8)
  | 0, _, _, _, _, _, _, _, _, _ => none
  | k + 1, b, e_Kind, e_N, e_Name, e_Kids, e_At, x55, x56, x57 => if x57 < x56 then
    if 0 ≤ x57 then
    if x57 < (x55.length : Int) then
    if (e_Kids.length : Int) ≤ x57 then
    (bldByte b 41).bind fun r31 =>
    some r31.2 else
    if 0 < x57 then
    (expr_between e_Kind).bind fun r32 =>
    if s_sp.length + r32.1.length ≤ 9223372036854775807 then
    if (s_sp ++ r32.1).length + s_sp.length ≤ 9223372036854775807 then
    (bldStr b ((s_sp ++ r32.1) ++ s_sp)).bind fun r33 =>
    if 0 ≤ x57 then
    if x57 < (e_Kids.length : Int) then
    (self_expr_write r33.2.2 (e_Kids.getD x57.toNat api_Expr.z) (x55.getD x57.toNat 0)).bind fun r34 =>
    expr_write_l0 self_expr_write k r34 e_Kind e_N e_Name e_Kids e_At x55 x56 (w64 (x57 + 1)) else none else none else none else none else
    if 0 ≤ x57 then
    if x57 < (e_Kids.length : Int) then
    (self_expr_write b (e_Kids.getD x57.toNat api_Expr.z) (x55.getD x57.toNat 0)).bind fun r35 =>
    expr_write_l0 self_expr_write k r35 e_Kind e_N e_Name e_Kids e_At x55 x56 (w64 (x57 + 1)) else none else none else none else none else
    (bldByte b 41).bind fun r36 =>
    some r36.2
noncomputable def expr_write_l0b (self_expr_write : (List UInt8) → api_Expr → Int → Option (List UInt8)) : Nat → (List UInt8) → Int → Int → (List UInt8) → (List api_Expr) → Int → (List Int) → Int → Int → Option (List UInt8)
  | 0, _, _, _, _, _, _, _, _, _ => none
  | k + 1, b, e_Kind, e_N, e_Name, e_Kids, e_At, x55, x56, x57 => if x57 < x56 then
    if 0 ≤ x57 then
    if x57 < (x55.length : Int) then
    if (e_Kids.length : Int) ≤ x57 then
    some b else
    if 0 < x57 then
    (expr_between e_Kind).bind fun r37 =>
    if s_sp.length + r37.1.length ≤ 9223372036854775807 then
    if (s_sp ++ r37.1).length + s_sp.length ≤ 9223372036854775807 then
    (bldStr b ((s_sp ++ r37.1) ++ s_sp)).bind fun r38 =>
    if 0 ≤ x57 then
    if x57 < (e_Kids.length : Int) then
    (self_expr_write r38.2.2 (e_Kids.getD x57.toNat api_Expr.z) (x55.getD x57.toNat 0)).bind fun r39 =>
    expr_write_l0b self_expr_write k r39 e_Kind e_N e_Name e_Kids e_At x55 x56 (w64 (x57 + 1)) else none else none else none else none else
    if 0 ≤ x57 then
    if x57 < (e_Kids.length : Int) then
    (self_expr_write b (e_Kids.getD x57.toNat api_Expr.z) (x55.getD x57.toNat 0)).bind fun r40 =>
    expr_write_l0b self_expr_write k r40 e_Kind e_N e_Name e_Kids e_At x55 x56 (w64 (x57 + 1)) else none else none else none else none else
    some b
noncomputable def expr_write_b (self_expr_write : (List UInt8) → api_Expr → Int → Option (List UInt8)) (k : Nat) (b : List UInt8) (e : api_Expr) (asked : Int) : Option (List UInt8) := (expr_level e.Kind).bind fun r1 =>
    if r1 < asked then
    (bldByte b 40).bind fun r2 =>
    if e.Kind = 1 then
    (p_FormatInt e.N 10).bind fun r3 =>
    (bldStr r2.2 r3).bind fun r4 =>
    (expr_places e.Kind).bind fun r5 =>
    expr_write_l0 self_expr_write k r4.2.2 e.Kind e.N e.Name e.Kids e.At r5 (r5.length : Int) 0 else
    if e.Kind = 3 then
    (bldByte r2.2 36).bind fun r6 =>
    (expr_places e.Kind).bind fun r7 =>
    expr_write_l0 self_expr_write k r6.2 e.Kind e.N e.Name e.Kids e.At r7 (r7.length : Int) 0 else
    if e.Kind = 2 then
    (bldStr r2.2 e.Name).bind fun r8 =>
    (expr_places e.Kind).bind fun r9 =>
    expr_write_l0 self_expr_write k r8.2.2 e.Kind e.N e.Name e.Kids e.At r9 (r9.length : Int) 0 else
    if e.Kind = 4 then
    if s_in_xcc76e.length + e.Name.length ≤ 9223372036854775807 then
    if (s_in_xcc76e ++ e.Name).length + s_rp.length ≤ 9223372036854775807 then
    (bldStr r2.2 ((s_in_xcc76e ++ e.Name) ++ s_rp)).bind fun r10 =>
    (expr_places e.Kind).bind fun r11 =>
    expr_write_l0 self_expr_write k r10.2.2 e.Kind e.N e.Name e.Kids e.At r11 (r11.length : Int) 0 else none else none else
    if e.Kind = 5 then
    (bldByte r2.2 45).bind fun r12 =>
    (expr_places e.Kind).bind fun r13 =>
    expr_write_l0 self_expr_write k r12.2 e.Kind e.N e.Name e.Kids e.At r13 (r13.length : Int) 0 else
    if e.Kind = 6 then
    (bldByte r2.2 33).bind fun r14 =>
    (expr_places e.Kind).bind fun r15 =>
    expr_write_l0 self_expr_write k r14.2 e.Kind e.N e.Name e.Kids e.At r15 (r15.length : Int) 0 else
    (expr_places e.Kind).bind fun r16 =>
    expr_write_l0 self_expr_write k r2.2 e.Kind e.N e.Name e.Kids e.At r16 (r16.length : Int) 0 else
    if e.Kind = 1 then
    (p_FormatInt e.N 10).bind fun r17 =>
    (bldStr b r17).bind fun r18 =>
    (expr_places e.Kind).bind fun r19 =>
    expr_write_l0b self_expr_write k r18.2.2 e.Kind e.N e.Name e.Kids e.At r19 (r19.length : Int) 0 else
    if e.Kind = 3 then
    (bldByte b 36).bind fun r20 =>
    (expr_places e.Kind).bind fun r21 =>
    expr_write_l0b self_expr_write k r20.2 e.Kind e.N e.Name e.Kids e.At r21 (r21.length : Int) 0 else
    if e.Kind = 2 then
    (bldStr b e.Name).bind fun r22 =>
    (expr_places e.Kind).bind fun r23 =>
    expr_write_l0b self_expr_write k r22.2.2 e.Kind e.N e.Name e.Kids e.At r23 (r23.length : Int) 0 else
    if e.Kind = 4 then
    if s_in_xcc76e.length + e.Name.length ≤ 9223372036854775807 then
    if (s_in_xcc76e ++ e.Name).length + s_rp.length ≤ 9223372036854775807 then
    (bldStr b ((s_in_xcc76e ++ e.Name) ++ s_rp)).bind fun r24 =>
    (expr_places e.Kind).bind fun r25 =>
    expr_write_l0b self_expr_write k r24.2.2 e.Kind e.N e.Name e.Kids e.At r25 (r25.length : Int) 0 else none else none else
    if e.Kind = 5 then
    (bldByte b 45).bind fun r26 =>
    (expr_places e.Kind).bind fun r27 =>
    expr_write_l0b self_expr_write k r26.2 e.Kind e.N e.Name e.Kids e.At r27 (r27.length : Int) 0 else
    if e.Kind = 6 then
    (bldByte b 33).bind fun r28 =>
    (expr_places e.Kind).bind fun r29 =>
    expr_write_l0b self_expr_write k r28.2 e.Kind e.N e.Name e.Kids e.At r29 (r29.length : Int) 0 else
    (expr_places e.Kind).bind fun r30 =>
    expr_write_l0b self_expr_write k b e.Kind e.N e.Name e.Kids e.At r30 (r30.length : Int) 0
noncomputable def expr_write_f : Nat → (List UInt8) → api_Expr → Int → Option (List UInt8)
  | 0, _, _, _ => none
  | k + 1, x0, x1, x2 => expr_write_b (expr_write_f k) k x0 x1 x2
noncomputable def expr_write  (b : List UInt8) (e : api_Expr) (asked : Int) : Option (List UInt8) := lim (fun k (x : List UInt8 × api_Expr × Int) => expr_write_f k x.1 x.2.1 x.2.2) (b, e, asked)
noncomputable abbrev expr_write_T (self_expr_write : (List UInt8) → api_Expr → Int → Option (List UInt8)) : Tab S := ⟨[⟨46, [.val (.data (.int .i64))], [.val (.data (.int .i64))], fun x => expr_level x⟩, ⟨49, [.bld, .val (.data (.int .u8))], [.err], fun x => bldByte x.1 x.2⟩, ⟨51, [.val (.data (.int .i64)), .val (.data (.int .i64))], [.val (.data .str)], fun x => p_FormatInt x.1 x.2⟩, ⟨50, [.bld, .val (.data .str)], [.val (.data (.int .i64)), .err], fun x => bldStr x.1 x.2⟩, ⟨47, [.val (.data (.int .i64))], [.val (.data (.sl (.int .i64)))], fun x => expr_places x⟩, ⟨52, [.val (.data (.int .i64))], [.val (.data .str), .val (.data (.int .i64))], fun x => expr_between x⟩, ⟨28, [.bld, .val (.data (.st 0)), .val (.data (.int .i64))], [], fun x => self_expr_write x.1 x.2.1 x.2.2⟩], [], false, false, some (49, [.tmp 0, .const (.int .u8 41)]), [⟨49, [.bld, .val (.data (.int .u8))], [.err], fun x => bldByte x.1 x.2⟩]⟩
noncomputable def expr_write_L (self_expr_write : (List UInt8) → api_Expr → Int → Option (List UInt8)) (k : Nat) : Nat → List (Lab S (List UInt8))
  | 0 => [⟨[0, 4, 55, 56, 57], [.bld, .obj [.data (.int .i64), .data (.int .i64), .data .str, .data (.sl (.st 0)), .data (.int .i64)], .val (.data (.sl (.int .i64))), .val (.data (.int .i64)), .val (.data (.int .i64))], fun x => expr_write_l0 self_expr_write k x.1 x.2.1.1 x.2.1.2.1 x.2.1.2.2.1 x.2.1.2.2.2.1 x.2.1.2.2.2.2 x.2.2.1 x.2.2.2.1 x.2.2.2.2, true⟩, ⟨[0, 4, 55, 56, 57], [.bld, .obj [.data (.int .i64), .data (.int .i64), .data .str, .data (.sl (.st 0)), .data (.int .i64)], .val (.data (.sl (.int .i64))), .val (.data (.int .i64)), .val (.data (.int .i64))], fun x => expr_write_l0b self_expr_write k x.1 x.2.1.1 x.2.1.2.1 x.2.1.2.2.1 x.2.1.2.2.2.1 x.2.1.2.2.2.2 x.2.2.1 x.2.2.2.1 x.2.2.2.2, false⟩]
  | _ + 1 => []
theorem expr_write_eq (self_expr_write : (List UInt8) → api_Expr → Int → Option (List UInt8)) (k : Nat) (b : List UInt8) (e : api_Expr) (asked : Int) : expr_write_b self_expr_write k b e asked = exec S (expr_write_T self_expr_write) byt (labs S (expr_write_T self_expr_write) (expr_write_L self_expr_write k)) (ac [] Tryd.f28) (frame0 S [.bld, .val (.data (.st 0)), .val (.data (.int .i64))] (b, e, asked)) (retK S (expr_write_T self_expr_write) Tryd.f28 [.bld, .val (.data (.st 0)), .val (.data (.int .i64))] []) := by kernel_rfl
theorem expr_write_vc (self_expr_write : (List UInt8) → api_Expr → Int → Option (List UInt8)) (k : Nat) : VC S (expr_write_T self_expr_write) byt (expr_write_L self_expr_write k) (expr_write_L self_expr_write (k + 1)) (ac [] Tryd.f28) (retK S (expr_write_T self_expr_write) Tryd.f28 [.bld, .val (.data (.st 0)), .val (.data (.int .i64))] []) = [∀ x : List UInt8 × (Int × Int × List UInt8 × List api_Expr × Int) × List Int × Int × Int, expr_write_l0 self_expr_write (k + 1) x.1 x.2.1.1 x.2.1.2.1 x.2.1.2.2.1 x.2.1.2.2.2.1 x.2.1.2.2.2.2 x.2.2.1 x.2.2.2.1 x.2.2.2.2 = expr_write_l0 self_expr_write (k + 1) x.1 x.2.1.1 x.2.1.2.1 x.2.1.2.2.1 x.2.1.2.2.2.1 x.2.1.2.2.2.2 x.2.2.1 x.2.2.2.1 x.2.2.2.2, ∀ x : List UInt8 × (Int × Int × List UInt8 × List api_Expr × Int) × List Int × Int × Int, expr_write_l0b self_expr_write (k + 1) x.1 x.2.1.1 x.2.1.2.1 x.2.1.2.2.1 x.2.1.2.2.2.1 x.2.1.2.2.2.2 x.2.2.1 x.2.2.2.1 x.2.2.2.2 = expr_write_l0b self_expr_write (k + 1) x.1 x.2.1.1 x.2.1.2.1 x.2.1.2.2.1 x.2.1.2.2.2.1 x.2.1.2.2.2.2 x.2.2.1 x.2.2.2.1 x.2.2.2.2] := by kernel_rfl
theorem expr_write_sndk (self_expr_write : (List UInt8) → api_Expr → Int → Option (List UInt8)) (hself : Snd Tryd.prog S ⟨28, [.bld, .val (.data (.st 0)), .val (.data (.int .i64))], [], fun x => self_expr_write x.1 x.2.1 x.2.2⟩) (k : Nat) : Snd Tryd.prog S ⟨28, [.bld, .val (.data (.st 0)), .val (.data (.int .i64))], [], fun x => expr_write_b self_expr_write k x.1 x.2.1 x.2.2⟩ :=
  fn_ok progOk (T := (expr_write_T self_expr_write)) (all_cons expr_level_snd (all_cons p_bldByte_snd49 (all_cons p_FormatInt_snd51 (all_cons p_bldStr_snd50 (all_cons expr_places_snd (all_cons expr_between_snd (all_cons hself (all_nil)))))))) (all_cons p_bldByte_sndD49 (all_nil)) (all_nil) mixed Tryd.func28 rfl (by kernel_rfl) (ac_code [] Tryd.f28 rfl) (L := expr_write_L self_expr_write)
    (fun n l h x => by match n, h with
        | 0, h => 
          rcases List.mem_cons.1 h with rfl | h
          · rfl
          rcases List.mem_cons.1 h with rfl | h
          · rfl
          cases h
        | _ + 1, h => cases h) (fun k n l h => by match n, h with
        | 0, h => 
          rcases List.mem_cons.1 h with rfl | h
          · rfl
          rcases List.mem_cons.1 h with rfl | h
          · rfl
          cases h
        | _ + 1, h => cases h)
    (fun k => All.mem (expr_write_vc self_expr_write k) ⟨fun _ => rfl, ⟨fun _ => rfl, trivial⟩⟩) (fun x r h => ⟨k, (expr_write_eq self_expr_write k x.1 x.2.1 x.2.2).symm.trans h⟩) (by kernel_rfl) (by kernel_rfl) (Nat.le_of_ble_eq_true (by kernel_rfl)) (by kernel_rfl)
theorem expr_write_sndf : ∀ k, Snd Tryd.prog S ⟨28, [.bld, .val (.data (.st 0)), .val (.data (.int .i64))], [], fun x => expr_write_f k x.1 x.2.1 x.2.2⟩
  | 0 => Snd.none ⟨_, Tryd.func28, by kernel_rfl, by kernel_rfl⟩ fun _ => rfl
  | k + 1 => expr_write_sndk (expr_write_f k) (expr_write_sndf k) k
theorem expr_write_snd : Snd Tryd.prog S ⟨28, [.bld, .val (.data (.st 0)), .val (.data (.int .i64))], [], fun x => expr_write x.1 x.2.1 x.2.2⟩ := Snd.lim (expr_write_sndf)
/-! ### 15 cotillion/expr.Print -/
noncomputable def expr_Print  (e : api_Expr) : Option (List UInt8) := (expr_write [] (api_Expr.mk e.Kind e.N e.Name e.Kids e.At) 1).bind fun r1 =>
    (bldRead r1).bind fun r2 =>
    some r2.1
noncomputable abbrev expr_Print_T : Tab S := ⟨[⟨28, [.bld, .val (.data (.st 0)), .val (.data (.int .i64))], [], fun x => expr_write x.1 x.2.1 x.2.2⟩, ⟨29, [.bld], [.val (.data .str)], fun x => bldRead x⟩], [], false, false, none, []⟩
noncomputable def expr_Print_L (k : Nat) : Nat → List (Lab S (List UInt8))
  | _ => []
theorem expr_Print_eq (k : Nat) (e : api_Expr) : expr_Print e = exec S (expr_Print_T) byt (labs S (expr_Print_T) (expr_Print_L k)) (ac [] Tryd.f15) (frame0 S [.val (.data (.st 0))] e) (retK S (expr_Print_T) Tryd.f15 [.val (.data (.st 0))] [.val (.data .str)]) := by kernel_rfl
theorem expr_Print_vc (k : Nat) : VC S (expr_Print_T) byt (expr_Print_L k) (expr_Print_L (k + 1)) (ac [] Tryd.f15) (retK S (expr_Print_T) Tryd.f15 [.val (.data (.st 0))] [.val (.data .str)]) = [] := by kernel_rfl
theorem expr_Print_snd : Snd Tryd.prog S ⟨15, [.val (.data (.st 0))], [.val (.data .str)], fun x => expr_Print x⟩ :=
  fn_ok progOk (T := (expr_Print_T)) (all_cons expr_write_snd (all_cons p_bldRead_snd29 (all_nil))) (all_nil) (all_nil) mixed Tryd.func15 rfl (by kernel_rfl) (ac_code [] Tryd.f15 rfl) (L := expr_Print_L)
    (fun n l h x => by cases h) (fun k n l h => by cases h)
    (fun k => All.mem (expr_Print_vc k) trivial) (fun x r h => ⟨0, (expr_Print_eq 0 x).symm.trans h⟩) (by kernel_rfl) (by kernel_rfl) (Nat.le_of_ble_eq_true (by kernel_rfl)) (by kernel_rfl)
/-! ### 60 cotillion/lex.Name -/
noncomputable def lex_Name  (s : List UInt8) : Option Bool := if s = [] then
    some false else
    if 24 < (s.length : Int) then
    some false else
    (lex_Reserved s).bind fun r1 =>
    bif r1 then
    some false else
    if (0 : Int) ≤ 0 then
    if 0 < (s.length : Int) then
    (lex_kind ((s.getD (0 : Int).toNat 0).toNat : Int)).bind fun r2 =>
    bif !r2.2 then
    (lex_end s 0).bind fun r3 =>
    some (decide (r3 = (s.length : Int))) else
    some false else none else none
noncomputable abbrev lex_Name_T : Tab S := ⟨[⟨76, [.val (.data .str)], [.val (.data .bool)], fun x => lex_Reserved x⟩, ⟨38, [.val (.data (.int .u8))], [.val (.data .bool), .val (.data .bool)], fun x => lex_kind x⟩, ⟨39, [.val (.data .str), .val (.data (.int .i64))], [.val (.data (.int .i64))], fun x => lex_end x.1 x.2⟩], [], false, false, none, []⟩
noncomputable def lex_Name_L (k : Nat) : Nat → List (Lab S Bool)
  | _ => []
theorem lex_Name_eq (k : Nat) (s : List UInt8) : lex_Name s = exec S (lex_Name_T) byt (labs S (lex_Name_T) (lex_Name_L k)) (ac [] Tryd.f60) (frame0 S [.val (.data .str)] s) (retK S (lex_Name_T) Tryd.f60 [.val (.data .str)] [.val (.data .bool)]) := by kernel_rfl
theorem lex_Name_vc (k : Nat) : VC S (lex_Name_T) byt (lex_Name_L k) (lex_Name_L (k + 1)) (ac [] Tryd.f60) (retK S (lex_Name_T) Tryd.f60 [.val (.data .str)] [.val (.data .bool)]) = [] := by kernel_rfl
theorem lex_Name_snd : Snd Tryd.prog S ⟨60, [.val (.data .str)], [.val (.data .bool)], fun x => lex_Name x⟩ :=
  fn_ok progOk (T := (lex_Name_T)) (all_cons lex_Reserved_snd (all_cons lex_kind_snd (all_cons lex_end_snd (all_nil)))) (all_nil) (all_nil) mixed Tryd.func60 rfl (by kernel_rfl) (ac_code [] Tryd.f60 rfl) (L := lex_Name_L)
    (fun n l h x => by cases h) (fun k n l h => by cases h)
    (fun k => All.mem (lex_Name_vc k) trivial) (fun x r h => ⟨0, (lex_Name_eq 0 x).symm.trans h⟩) (by kernel_rfl) (by kernel_rfl) (Nat.le_of_ble_eq_true (by kernel_rfl)) (by kernel_rfl)
/-! ### 45 cotillion/expr.shape -/
noncomputable def expr_shape_c1 : Nat → Int → Int → (List UInt8) → (List api_Expr) → Int → Option Bool
  | 0, _, _, _, _, _ => none
  | k + 1, e_Kind, e_N, e_Name, e_Kids, e_At => if e_N = 0 then some true else if e_Kind = 1 then some (decide (0 < e_N)) else some false
noncomputable def expr_shape_c0 : Nat → Int → Int → (List UInt8) → (List api_Expr) → Int → Bool → Option Bool
  | 0, _, _, _, _, _, _ => none
  | k + 1, e_Kind, e_N, e_Name, e_Kids, e_At, named => if named ≠ (decide (e_Name ≠ [])) then
    some false else
    bif named then
    (lex_Name e_Name).bind fun r3 =>
    bif !r3 then
    some false else
    expr_shape_c1 k e_Kind e_N e_Name e_Kids e_At else
    expr_shape_c1 k e_Kind e_N e_Name e_Kids e_At
noncomputable def expr_shape_f (k : Nat) (e : api_Expr) : Option Bool := if e.Kind = 2 then
    if e.Kind < 1 then
    some false else
    if 19 < e.Kind then
    some false else
    (expr_places e.Kind).bind fun r1 =>
    if (e.Kids.length : Int) ≠ (r1.length : Int) then
    some false else
    expr_shape_c0 k e.Kind e.N e.Name e.Kids e.At true else
    if e.Kind < 1 then
    some false else
    if 19 < e.Kind then
    some false else
    (expr_places e.Kind).bind fun r2 =>
    if (e.Kids.length : Int) ≠ (r2.length : Int) then
    some false else
    expr_shape_c0 k e.Kind e.N e.Name e.Kids e.At (decide (e.Kind = 4))
noncomputable def expr_shape  (e : api_Expr) : Option Bool := lim (fun k (x : api_Expr) => expr_shape_f k x) e
noncomputable abbrev expr_shape_T : Tab S := ⟨[⟨47, [.val (.data (.int .i64))], [.val (.data (.sl (.int .i64)))], fun x => expr_places x⟩, ⟨60, [.val (.data .str)], [.val (.data .bool)], fun x => lex_Name x⟩], [], false, false, none, []⟩
noncomputable def expr_shape_L (k : Nat) : Nat → List (Lab S Bool)
  | 0 => []
  | 1 => [⟨[1, 3], [.obj [.data (.int .i64), .data (.int .i64), .data .str, .data (.sl (.st 0)), .data (.int .i64)], .val (.data .bool)], fun x => expr_shape_c0 k x.1.1 x.1.2.1 x.1.2.2.1 x.1.2.2.2.1 x.1.2.2.2.2 x.2, false⟩]
  | 2 => []
  | 3 => [⟨[1], [.obj [.data (.int .i64), .data (.int .i64), .data .str, .data (.sl (.st 0)), .data (.int .i64)]], fun x => expr_shape_c1 k x.1 x.2.1 x.2.2.1 x.2.2.2.1 x.2.2.2.2, false⟩]
  | _ + 4 => []
theorem expr_shape_eq (k : Nat) (e : api_Expr) : expr_shape_f k e = exec S (expr_shape_T) byt (labs S (expr_shape_T) (expr_shape_L k)) (ac [2, 5] Tryd.f45) (frame0 S [.val (.data (.st 0))] e) (retK S (expr_shape_T) Tryd.f45 [.val (.data (.st 0))] [.val (.data .bool)]) := by kernel_rfl
theorem expr_shape_vc (k : Nat) : VC S (expr_shape_T) byt (expr_shape_L k) (expr_shape_L (k + 1)) (ac [2, 5] Tryd.f45) (retK S (expr_shape_T) Tryd.f45 [.val (.data (.st 0))] [.val (.data .bool)]) = [∀ x : (Int × Int × List UInt8 × List api_Expr × Int), expr_shape_c1 (k + 1) x.1 x.2.1 x.2.2.1 x.2.2.2.1 x.2.2.2.2 = expr_shape_c1 (k + 1) x.1 x.2.1 x.2.2.1 x.2.2.2.1 x.2.2.2.2, ∀ x : (Int × Int × List UInt8 × List api_Expr × Int) × Bool, expr_shape_c0 (k + 1) x.1.1 x.1.2.1 x.1.2.2.1 x.1.2.2.2.1 x.1.2.2.2.2 x.2 = expr_shape_c0 (k + 1) x.1.1 x.1.2.1 x.1.2.2.1 x.1.2.2.2.1 x.1.2.2.2.2 x.2] := by kernel_rfl
theorem expr_shape_sndk (k : Nat) : Snd Tryd.prog S ⟨45, [.val (.data (.st 0))], [.val (.data .bool)], fun x => expr_shape_f k x⟩ :=
  fn_ok progOk (T := (expr_shape_T)) (all_cons expr_places_snd (all_cons lex_Name_snd (all_nil))) (all_nil) (all_nil) mixed Tryd.func45 rfl (by kernel_rfl) (ac_code [2, 5] Tryd.f45 rfl) (L := expr_shape_L)
    (fun n l h x => by match n, h with
        | 0, h => cases h
        | 1, h => 
          rcases List.mem_cons.1 h with rfl | h
          · rfl
          cases h
        | 2, h => cases h
        | 3, h => 
          rcases List.mem_cons.1 h with rfl | h
          · rfl
          cases h
        | _ + 4, h => cases h) (fun k n l h => by match n, h with
        | 0, h => cases h
        | 1, h => 
          rcases List.mem_cons.1 h with rfl | h
          · rfl
          cases h
        | 2, h => cases h
        | 3, h => 
          rcases List.mem_cons.1 h with rfl | h
          · rfl
          cases h
        | _ + 4, h => cases h)
    (fun k => All.mem (expr_shape_vc k) ⟨fun _ => rfl, ⟨fun _ => rfl, trivial⟩⟩) (fun x r h => ⟨k, (expr_shape_eq k x).symm.trans h⟩) (by kernel_rfl) (by kernel_rfl) (Nat.le_of_ble_eq_true (by kernel_rfl)) (by kernel_rfl)
theorem expr_shape_snd : Snd Tryd.prog S ⟨45, [.val (.data (.st 0))], [.val (.data .bool)], fun x => expr_shape x⟩ := Snd.lim (expr_shape_sndk)
/-! ### 25 cotillion/expr.right -/
noncomputable def expr_right_l0 (self_expr_right : api_Expr → Int → Int → Option Bool) : Nat → Int → Int → Int → (List UInt8) → (List api_Expr) → Int → (List Int) → Int → Int → Option Bool
  | 0, _, _, _, _, _, _, _, _, _ => none
  | k + 1, v_open, e_Kind, e_N, e_Name, e_Kids, e_At, x29, x30, x31 => if x31 < x30 then
    if 0 ≤ x31 then
    if x31 < (x29.length : Int) then
    if 0 ≤ x31 then
    if x31 < (e_Kids.length : Int) then
    (self_expr_right (e_Kids.getD x31.toNat api_Expr.z) (x29.getD x31.toNat 0) v_open).bind fun r9 =>
    bif !r9 then
    some false else
    expr_right_l0 self_expr_right k v_open e_Kind e_N e_Name e_Kids e_At x29 x30 (w64 (x31 + 1)) else none else none else none else none else
    some true
noncomputable def expr_right_b (self_expr_right : api_Expr → Int → Int → Option Bool) (k : Nat) (e : api_Expr) (asked : Int) (v_open : Int) : Option Bool := (expr_shape (api_Expr.mk e.Kind e.N e.Name e.Kids e.At)).bind fun r1 =>
    bif !r1 then
    some false else
    (expr_level e.Kind).bind fun r2 =>
    if r2 < asked then
    (expr_level e.Kind).bind fun r3 =>
    if r3 = 6 then
    if 12 < (w64 ((w64 (v_open + 1)) + 1)) then
    some false else
    (expr_places e.Kind).bind fun r4 =>
    expr_right_l0 self_expr_right k (w64 ((w64 (v_open + 1)) + 1)) e.Kind e.N e.Name e.Kids e.At r4 (r4.length : Int) 0 else
    if 12 < (w64 (v_open + 1)) then
    some false else
    (expr_places e.Kind).bind fun r5 =>
    expr_right_l0 self_expr_right k (w64 (v_open + 1)) e.Kind e.N e.Name e.Kids e.At r5 (r5.length : Int) 0 else
    (expr_level e.Kind).bind fun r6 =>
    if r6 = 6 then
    if 12 < (w64 (v_open + 1)) then
    some false else
    (expr_places e.Kind).bind fun r7 =>
    expr_right_l0 self_expr_right k (w64 (v_open + 1)) e.Kind e.N e.Name e.Kids e.At r7 (r7.length : Int) 0 else
    if 12 < v_open then
    some false else
    (expr_places e.Kind).bind fun r8 =>
    expr_right_l0 self_expr_right k v_open e.Kind e.N e.Name e.Kids e.At r8 (r8.length : Int) 0
noncomputable def expr_right_f : Nat → api_Expr → Int → Int → Option Bool
  | 0, _, _, _ => none
  | k + 1, x0, x1, x2 => expr_right_b (expr_right_f k) k x0 x1 x2
noncomputable def expr_right  (e : api_Expr) (asked : Int) (v_open : Int) : Option Bool := lim (fun k (x : api_Expr × Int × Int) => expr_right_f k x.1 x.2.1 x.2.2) (e, asked, v_open)
noncomputable abbrev expr_right_T (self_expr_right : api_Expr → Int → Int → Option Bool) : Tab S := ⟨[⟨45, [.val (.data (.st 0))], [.val (.data .bool)], fun x => expr_shape x⟩, ⟨46, [.val (.data (.int .i64))], [.val (.data (.int .i64))], fun x => expr_level x⟩, ⟨47, [.val (.data (.int .i64))], [.val (.data (.sl (.int .i64)))], fun x => expr_places x⟩, ⟨25, [.val (.data (.st 0)), .val (.data (.int .i64)), .val (.data (.int .i64))], [.val (.data .bool)], fun x => self_expr_right x.1 x.2.1 x.2.2⟩], [], false, false, none, []⟩
noncomputable def expr_right_L (self_expr_right : api_Expr → Int → Int → Option Bool) (k : Nat) : Nat → List (Lab S Bool)
  | 0 => [⟨[2, 3, 29, 30, 31], [.val (.data (.int .i64)), .obj [.data (.int .i64), .data (.int .i64), .data .str, .data (.sl (.st 0)), .data (.int .i64)], .val (.data (.sl (.int .i64))), .val (.data (.int .i64)), .val (.data (.int .i64))], fun x => expr_right_l0 self_expr_right k x.1 x.2.1.1 x.2.1.2.1 x.2.1.2.2.1 x.2.1.2.2.2.1 x.2.1.2.2.2.2 x.2.2.1 x.2.2.2.1 x.2.2.2.2, false⟩]
  | _ + 1 => []
theorem expr_right_eq (self_expr_right : api_Expr → Int → Int → Option Bool) (k : Nat) (e : api_Expr) (asked : Int) (v_open : Int) : expr_right_b self_expr_right k e asked v_open = exec S (expr_right_T self_expr_right) byt (labs S (expr_right_T self_expr_right) (expr_right_L self_expr_right k)) (ac [] Tryd.f25) (frame0 S [.val (.data (.st 0)), .val (.data (.int .i64)), .val (.data (.int .i64))] (e, asked, v_open)) (retK S (expr_right_T self_expr_right) Tryd.f25 [.val (.data (.st 0)), .val (.data (.int .i64)), .val (.data (.int .i64))] [.val (.data .bool)]) := by kernel_rfl
theorem expr_right_vc (self_expr_right : api_Expr → Int → Int → Option Bool) (k : Nat) : VC S (expr_right_T self_expr_right) byt (expr_right_L self_expr_right k) (expr_right_L self_expr_right (k + 1)) (ac [] Tryd.f25) (retK S (expr_right_T self_expr_right) Tryd.f25 [.val (.data (.st 0)), .val (.data (.int .i64)), .val (.data (.int .i64))] [.val (.data .bool)]) = [∀ x : Int × (Int × Int × List UInt8 × List api_Expr × Int) × List Int × Int × Int, expr_right_l0 self_expr_right (k + 1) x.1 x.2.1.1 x.2.1.2.1 x.2.1.2.2.1 x.2.1.2.2.2.1 x.2.1.2.2.2.2 x.2.2.1 x.2.2.2.1 x.2.2.2.2 = expr_right_l0 self_expr_right (k + 1) x.1 x.2.1.1 x.2.1.2.1 x.2.1.2.2.1 x.2.1.2.2.2.1 x.2.1.2.2.2.2 x.2.2.1 x.2.2.2.1 x.2.2.2.2] := by kernel_rfl
theorem expr_right_sndk (self_expr_right : api_Expr → Int → Int → Option Bool) (hself : Snd Tryd.prog S ⟨25, [.val (.data (.st 0)), .val (.data (.int .i64)), .val (.data (.int .i64))], [.val (.data .bool)], fun x => self_expr_right x.1 x.2.1 x.2.2⟩) (k : Nat) : Snd Tryd.prog S ⟨25, [.val (.data (.st 0)), .val (.data (.int .i64)), .val (.data (.int .i64))], [.val (.data .bool)], fun x => expr_right_b self_expr_right k x.1 x.2.1 x.2.2⟩ :=
  fn_ok progOk (T := (expr_right_T self_expr_right)) (all_cons expr_shape_snd (all_cons expr_level_snd (all_cons expr_places_snd (all_cons hself (all_nil))))) (all_nil) (all_nil) mixed Tryd.func25 rfl (by kernel_rfl) (ac_code [] Tryd.f25 rfl) (L := expr_right_L self_expr_right)
    (fun n l h x => by match n, h with
        | 0, h => 
          rcases List.mem_cons.1 h with rfl | h
          · rfl
          cases h
        | _ + 1, h => cases h) (fun k n l h => by match n, h with
        | 0, h => 
          rcases List.mem_cons.1 h with rfl | h
          · rfl
          cases h
        | _ + 1, h => cases h)
    (fun k => All.mem (expr_right_vc self_expr_right k) ⟨fun _ => rfl, trivial⟩) (fun x r h => ⟨k, (expr_right_eq self_expr_right k x.1 x.2.1 x.2.2).symm.trans h⟩) (by kernel_rfl) (by kernel_rfl) (Nat.le_of_ble_eq_true (by kernel_rfl)) (by kernel_rfl)
theorem expr_right_sndf : ∀ k, Snd Tryd.prog S ⟨25, [.val (.data (.st 0)), .val (.data (.int .i64)), .val (.data (.int .i64))], [.val (.data .bool)], fun x => expr_right_f k x.1 x.2.1 x.2.2⟩
  | 0 => Snd.none ⟨_, Tryd.func25, by kernel_rfl, by kernel_rfl⟩ fun _ => rfl
  | k + 1 => expr_right_sndk (expr_right_f k) (expr_right_sndf k) k
theorem expr_right_snd : Snd Tryd.prog S ⟨25, [.val (.data (.st 0)), .val (.data (.int .i64)), .val (.data (.int .i64))], [.val (.data .bool)], fun x => expr_right x.1 x.2.1 x.2.2⟩ := Snd.lim (expr_right_sndf)
/-! ### 13 cotillion/expr.Right -/
noncomputable def expr_Right  (e : api_Expr) : Option Bool := (expr_right (api_Expr.mk e.Kind e.N e.Name e.Kids e.At) 1 0).bind fun r1 => some r1
noncomputable abbrev expr_Right_T : Tab S := ⟨[⟨25, [.val (.data (.st 0)), .val (.data (.int .i64)), .val (.data (.int .i64))], [.val (.data .bool)], fun x => expr_right x.1 x.2.1 x.2.2⟩], [], false, false, none, []⟩
noncomputable def expr_Right_L (k : Nat) : Nat → List (Lab S Bool)
  | _ => []
theorem expr_Right_eq (k : Nat) (e : api_Expr) : expr_Right e = exec S (expr_Right_T) byt (labs S (expr_Right_T) (expr_Right_L k)) (ac [] Tryd.f13) (frame0 S [.val (.data (.st 0))] e) (retK S (expr_Right_T) Tryd.f13 [.val (.data (.st 0))] [.val (.data .bool)]) := by kernel_rfl
theorem expr_Right_vc (k : Nat) : VC S (expr_Right_T) byt (expr_Right_L k) (expr_Right_L (k + 1)) (ac [] Tryd.f13) (retK S (expr_Right_T) Tryd.f13 [.val (.data (.st 0))] [.val (.data .bool)]) = [] := by kernel_rfl
theorem expr_Right_snd : Snd Tryd.prog S ⟨13, [.val (.data (.st 0))], [.val (.data .bool)], fun x => expr_Right x⟩ :=
  fn_ok progOk (T := (expr_Right_T)) (all_cons expr_right_snd (all_nil)) (all_nil) (all_nil) mixed Tryd.func13 rfl (by kernel_rfl) (ac_code [] Tryd.f13 rfl) (L := expr_Right_L)
    (fun n l h x => by cases h) (fun k n l h => by cases h)
    (fun k => All.mem (expr_Right_vc k) trivial) (fun x r h => ⟨0, (expr_Right_eq 0 x).symm.trans h⟩) (by kernel_rfl) (by kernel_rfl) (Nat.le_of_ble_eq_true (by kernel_rfl)) (by kernel_rfl)
/-! ### 8 cotillion/cotillionlaw7.known -/
noncomputable def law7_known  : Option Bool := (law7_read s_1_2_3_4_x666bb).bind fun r1 =>
    (law7_read s_x_y_x573a0).bind fun r2 =>
    (law7_read s_a_b_c_x6aaa8).bind fun r3 =>
    bif r1.2 then
    bif r2.2 then
    bif !r3.2 then
    (expr_Print (api_Expr.mk r1.1.Kind r1.1.N r1.1.Name r1.1.Kids r1.1.At)).bind fun r4 =>
    if r4 = s_1_2_3_4_x693b6 then
    (expr_Print (api_Expr.mk r2.1.Kind r2.1.N r2.1.Name r2.1.Kids r2.1.At)).bind fun r5 =>
    if r5 = s_x_y_x3bbf6 then
    (expr_Right (api_Expr.mk r1.1.Kind r1.1.N r1.1.Name r1.1.Kids r1.1.At)).bind fun r6 =>
    bif r6 then
    (expr_Right (api_Expr.mk 0 0 [] [] 0)).bind fun r7 =>
    some (!r7) else
    some false else
    some false else
    some false else
    some false else
    some false else
    some false
noncomputable abbrev law7_known_T : Tab S := ⟨[⟨17, [.val (.data .str)], [.val (.data (.st 0)), .val (.data .bool)], fun x => law7_read x⟩, ⟨15, [.val (.data (.st 0))], [.val (.data .str)], fun x => expr_Print x⟩, ⟨13, [.val (.data (.st 0))], [.val (.data .bool)], fun x => expr_Right x⟩], [], false, false, none, []⟩
noncomputable def law7_known_L (k : Nat) : Nat → List (Lab S Bool)
  | _ => []
theorem law7_known_eq (k : Nat) : law7_known = exec S (law7_known_T) byt (labs S (law7_known_T) (law7_known_L k)) (ac [] Tryd.f8) (frame0 S [] ()) (retK S (law7_known_T) Tryd.f8 [] [.val (.data .bool)]) := by kernel_rfl
theorem law7_known_vc (k : Nat) : VC S (law7_known_T) byt (law7_known_L k) (law7_known_L (k + 1)) (ac [] Tryd.f8) (retK S (law7_known_T) Tryd.f8 [] [.val (.data .bool)]) = [] := by kernel_rfl
theorem law7_known_snd : Snd Tryd.prog S ⟨8, [], [.val (.data .bool)], fun x => law7_known⟩ :=
  fn_ok progOk (T := (law7_known_T)) (all_cons law7_read_snd (all_cons expr_Print_snd (all_cons expr_Right_snd (all_nil)))) (all_nil) (all_nil) mixed Tryd.func8 rfl (by kernel_rfl) (ac_code [] Tryd.f8 rfl) (L := law7_known_L)
    (fun n l h x => by cases h) (fun k n l h => by cases h)
    (fun k => All.mem (law7_known_vc k) trivial) (fun x r h => ⟨0, (law7_known_eq 0).symm.trans h⟩) (by kernel_rfl) (by kernel_rfl) (Nat.le_of_ble_eq_true (by kernel_rfl)) (by kernel_rfl)
/-! ### 3 cotillion/cotillionlaw7.ExprDeep -/
noncomputable def law7_ExprDeep_l0 : Nat → (List Bool) → (List UInt8) → (List UInt8) → Int → Int → Option Bool
  | 0, _, _, _, _, _ => none
  | k + 1, signs, t, v_end, v_at, i => if i < (signs.length : Int) then
    if i = 12 then
    if 0 ≤ i then
    if i < (signs.length : Int) then
    bif signs.getD i.toNat false then
    if t.length + s_minus.length ≤ 9223372036854775807 then
    law7_ExprDeep_l0 k signs (t ++ s_minus) v_end (t.length : Int) (w64 (i + 1)) else none else
    if t.length + s_lp.length ≤ 9223372036854775807 then
    if s_rp.length + v_end.length ≤ 9223372036854775807 then
    law7_ExprDeep_l0 k signs (t ++ s_lp) (s_rp ++ v_end) (t.length : Int) (w64 (i + 1)) else none else none else none else none else
    if 0 ≤ i then
    if i < (signs.length : Int) then
    bif signs.getD i.toNat false then
    if t.length + s_minus.length ≤ 9223372036854775807 then
    law7_ExprDeep_l0 k signs (t ++ s_minus) v_end v_at (w64 (i + 1)) else none else
    if t.length + s_lp.length ≤ 9223372036854775807 then
    if s_rp.length + v_end.length ≤ 9223372036854775807 then
    law7_ExprDeep_l0 k signs (t ++ s_lp) (s_rp ++ v_end) v_at (w64 (i + 1)) else none else none else none else none else
    if t.length + s_x.length ≤ 9223372036854775807 then
    if (t ++ s_x).length + v_end.length ≤ 9223372036854775807 then
    (lex_All ((t ++ s_x) ++ v_end)).bind fun r2 =>
    if r2.2.Code ≠ 0 then
    some false else
    (expr_Parse r2.1 0).bind fun r3 =>
    if 12 < (signs.length : Int) then
    if r3.2.2.Code = 14 ∧ r3.2.2.At = v_at then
    if r3.2.1 = 0 then
    (law7_known).bind fun r4 =>
    some r4 else
    some false else
    some false else
    if r3.2.2.Code = 0 then
    if r3.2.1 = (w64 ((r2.1.length : Int) - 1)) then
    (law7_known).bind fun r5 =>
    some r5 else
    some false else
    some false else none else none
noncomputable def law7_ExprDeep_f (k : Nat) (signs : List Bool) : Option Bool := if 40 < (signs.length : Int) then
    (law7_known).bind fun r1 =>
    some r1 else
    law7_ExprDeep_l0 k signs [] [] 0 0
noncomputable def law7_ExprDeep  (signs : List Bool) : Option Bool := lim (fun k (x : List Bool) => law7_ExprDeep_f k x) signs
noncomputable abbrev law7_ExprDeep_T : Tab S := ⟨[⟨8, [], [.val (.data .bool)], fun x => law7_known⟩, ⟨9, [.val (.data .str)], [.val (.town (.st 1)), .val (.data (.st 2))], fun x => lex_All x⟩, ⟨10, [.val (.data (.sl (.st 1))), .val (.data (.int .i64))], [.val (.data (.st 0)), .val (.data (.int .i64)), .val (.data (.st 2))], fun x => expr_Parse x.1 x.2⟩], [], false, false, none, []⟩
noncomputable def law7_ExprDeep_L (k : Nat) : Nat → List (Lab S Bool)
  | 0 => [⟨[0, 3, 4, 5, 6], [.val (.data (.sl .bool)), .val (.data .str), .val (.data .str), .val (.data (.int .i64)), .val (.data (.int .i64))], fun x => law7_ExprDeep_l0 k x.1 x.2.1 x.2.2.1 x.2.2.2.1 x.2.2.2.2, false⟩]
  | _ + 1 => []
theorem law7_ExprDeep_eq (k : Nat) (signs : List Bool) : law7_ExprDeep_f k signs = exec S (law7_ExprDeep_T) byt (labs S (law7_ExprDeep_T) (law7_ExprDeep_L k)) (ac [] Tryd.f3) (frame0 S [.val (.data (.sl .bool))] signs) (retK S (law7_ExprDeep_T) Tryd.f3 [.val (.data (.sl .bool))] [.val (.data .bool)]) := by kernel_rfl
theorem law7_ExprDeep_vc (k : Nat) : VC S (law7_ExprDeep_T) byt (law7_ExprDeep_L k) (law7_ExprDeep_L (k + 1)) (ac [] Tryd.f3) (retK S (law7_ExprDeep_T) Tryd.f3 [.val (.data (.sl .bool))] [.val (.data .bool)]) = [∀ x : List Bool × List UInt8 × List UInt8 × Int × Int, law7_ExprDeep_l0 (k + 1) x.1 x.2.1 x.2.2.1 x.2.2.2.1 x.2.2.2.2 = law7_ExprDeep_l0 (k + 1) x.1 x.2.1 x.2.2.1 x.2.2.2.1 x.2.2.2.2] := by kernel_rfl
theorem law7_ExprDeep_sndk (k : Nat) : Snd Tryd.prog S ⟨3, [.val (.data (.sl .bool))], [.val (.data .bool)], fun x => law7_ExprDeep_f k x⟩ :=
  fn_ok progOk (T := (law7_ExprDeep_T)) (all_cons law7_known_snd (all_cons lex_All_snd (all_cons expr_Parse_snd (all_nil)))) (all_nil) (all_nil) mixed Tryd.func3 rfl (by kernel_rfl) (ac_code [] Tryd.f3 rfl) (L := law7_ExprDeep_L)
    (fun n l h x => by match n, h with
        | 0, h => 
          rcases List.mem_cons.1 h with rfl | h
          · rfl
          cases h
        | _ + 1, h => cases h) (fun k n l h => by match n, h with
        | 0, h => 
          rcases List.mem_cons.1 h with rfl | h
          · rfl
          cases h
        | _ + 1, h => cases h)
    (fun k => All.mem (law7_ExprDeep_vc k) ⟨fun _ => rfl, trivial⟩) (fun x r h => ⟨k, (law7_ExprDeep_eq k x).symm.trans h⟩) (by kernel_rfl) (by kernel_rfl) (Nat.le_of_ble_eq_true (by kernel_rfl)) (by kernel_rfl)
theorem law7_ExprDeep_snd : Snd Tryd.prog S ⟨3, [.val (.data (.sl .bool))], [.val (.data .bool)], fun x => law7_ExprDeep x⟩ := Snd.lim (law7_ExprDeep_sndk)
/-! ### 11 cotillion/cotillionlaw7.few -/
noncomputable def law7_few_l0 (self_law7_few : api_Expr → Int → Option Bool) : Nat → Int → Int → Int → (List UInt8) → (List api_Expr) → Int → Int → Option Bool
  | 0, _, _, _, _, _, _, _ => none
  | k + 1, deep, e_Kind, e_N, e_Name, e_Kids, e_At, i => if i < (e_Kids.length : Int) then
    if 0 ≤ i then
    if i < (e_Kids.length : Int) then
    (self_law7_few (e_Kids.getD i.toNat api_Expr.z) (w64 (deep - 1))).bind fun r1 =>
    bif !r1 then
    some false else
    law7_few_l0 self_law7_few k deep e_Kind e_N e_Name e_Kids e_At (w64 (i + 1)) else none else none else
    some true
noncomputable def law7_few_b (self_law7_few : api_Expr → Int → Option Bool) (k : Nat) (e : api_Expr) (deep : Int) : Option Bool := if deep = 0 then
    some false else
    if 2 < (e.Kids.length : Int) then
    some false else
    if 60 < (e.Name.length : Int) then
    some false else
    law7_few_l0 self_law7_few k deep e.Kind e.N e.Name e.Kids e.At 0
noncomputable def law7_few_f : Nat → api_Expr → Int → Option Bool
  | 0, _, _ => none
  | k + 1, x0, x1 => law7_few_b (law7_few_f k) k x0 x1
noncomputable def law7_few  (e : api_Expr) (deep : Int) : Option Bool := lim (fun k (x : api_Expr × Int) => law7_few_f k x.1 x.2) (e, deep)
noncomputable abbrev law7_few_T (self_law7_few : api_Expr → Int → Option Bool) : Tab S := ⟨[⟨11, [.val (.data (.st 0)), .val (.data (.int .i64))], [.val (.data .bool)], fun x => self_law7_few x.1 x.2⟩], [], false, false, none, []⟩
noncomputable def law7_few_L (self_law7_few : api_Expr → Int → Option Bool) (k : Nat) : Nat → List (Lab S Bool)
  | 0 => [⟨[1, 2, 5], [.val (.data (.int .i64)), .obj [.data (.int .i64), .data (.int .i64), .data .str, .data (.sl (.st 0)), .data (.int .i64)], .val (.data (.int .i64))], fun x => law7_few_l0 self_law7_few k x.1 x.2.1.1 x.2.1.2.1 x.2.1.2.2.1 x.2.1.2.2.2.1 x.2.1.2.2.2.2 x.2.2, false⟩]
  | _ + 1 => []
theorem law7_few_eq (self_law7_few : api_Expr → Int → Option Bool) (k : Nat) (e : api_Expr) (deep : Int) : law7_few_b self_law7_few k e deep = exec S (law7_few_T self_law7_few) byt (labs S (law7_few_T self_law7_few) (law7_few_L self_law7_few k)) (ac [] Tryd.f11) (frame0 S [.val (.data (.st 0)), .val (.data (.int .i64))] (e, deep)) (retK S (law7_few_T self_law7_few) Tryd.f11 [.val (.data (.st 0)), .val (.data (.int .i64))] [.val (.data .bool)]) := by kernel_rfl
theorem law7_few_vc (self_law7_few : api_Expr → Int → Option Bool) (k : Nat) : VC S (law7_few_T self_law7_few) byt (law7_few_L self_law7_few k) (law7_few_L self_law7_few (k + 1)) (ac [] Tryd.f11) (retK S (law7_few_T self_law7_few) Tryd.f11 [.val (.data (.st 0)), .val (.data (.int .i64))] [.val (.data .bool)]) = [∀ x : Int × (Int × Int × List UInt8 × List api_Expr × Int) × Int, law7_few_l0 self_law7_few (k + 1) x.1 x.2.1.1 x.2.1.2.1 x.2.1.2.2.1 x.2.1.2.2.2.1 x.2.1.2.2.2.2 x.2.2 = law7_few_l0 self_law7_few (k + 1) x.1 x.2.1.1 x.2.1.2.1 x.2.1.2.2.1 x.2.1.2.2.2.1 x.2.1.2.2.2.2 x.2.2] := by kernel_rfl
theorem law7_few_sndk (self_law7_few : api_Expr → Int → Option Bool) (hself : Snd Tryd.prog S ⟨11, [.val (.data (.st 0)), .val (.data (.int .i64))], [.val (.data .bool)], fun x => self_law7_few x.1 x.2⟩) (k : Nat) : Snd Tryd.prog S ⟨11, [.val (.data (.st 0)), .val (.data (.int .i64))], [.val (.data .bool)], fun x => law7_few_b self_law7_few k x.1 x.2⟩ :=
  fn_ok progOk (T := (law7_few_T self_law7_few)) (all_cons hself (all_nil)) (all_nil) (all_nil) mixed Tryd.func11 rfl (by kernel_rfl) (ac_code [] Tryd.f11 rfl) (L := law7_few_L self_law7_few)
    (fun n l h x => by match n, h with
        | 0, h => 
          rcases List.mem_cons.1 h with rfl | h
          · rfl
          cases h
        | _ + 1, h => cases h) (fun k n l h => by match n, h with
        | 0, h => 
          rcases List.mem_cons.1 h with rfl | h
          · rfl
          cases h
        | _ + 1, h => cases h)
    (fun k => All.mem (law7_few_vc self_law7_few k) ⟨fun _ => rfl, trivial⟩) (fun x r h => ⟨k, (law7_few_eq self_law7_few k x.1 x.2).symm.trans h⟩) (by kernel_rfl) (by kernel_rfl) (Nat.le_of_ble_eq_true (by kernel_rfl)) (by kernel_rfl)
theorem law7_few_sndf : ∀ k, Snd Tryd.prog S ⟨11, [.val (.data (.st 0)), .val (.data (.int .i64))], [.val (.data .bool)], fun x => law7_few_f k x.1 x.2⟩
  | 0 => Snd.none ⟨_, Tryd.func11, by kernel_rfl, by kernel_rfl⟩ fun _ => rfl
  | k + 1 => law7_few_sndk (law7_few_f k) (law7_few_sndf k) k
theorem law7_few_snd : Snd Tryd.prog S ⟨11, [.val (.data (.st 0)), .val (.data (.int .i64))], [.val (.data .bool)], fun x => law7_few x.1 x.2⟩ := Snd.lim (law7_few_sndf)
/-! ### 12 cotillion/cotillionref7.Flat -/
noncomputable def ref7_Flat_l0 (self_ref7_Flat : api_Expr → Int → Option (List Int)) : Nat → Int → Int → Int → (List UInt8) → (List api_Expr) → Int → (List Int) → Int → Option (List Int)
  | 0, _, _, _, _, _, _, _, _ => none
  | k + 1, most, e_Kind, e_N, e_Name, e_Kids, e_At, out, i => if i < (e_Kids.length : Int) then
    if (out.length : Int) ≤ most then
    if 0 ≤ i then
    if i < (e_Kids.length : Int) then
    (self_ref7_Flat (e_Kids.getD i.toNat api_Expr.z) (w64 (most - (out.length : Int)))).bind fun r1 =>
    if (out.length + r1.length) * 8 ≤ 140737488355328 then
    ref7_Flat_l0 self_ref7_Flat k most e_Kind e_N e_Name e_Kids e_At (out ++ r1) (w64 (i + 1)) else none else none else none else
    some out else
    some out
noncomputable def ref7_Flat_b (self_ref7_Flat : api_Expr → Int → Option (List Int)) (k : Nat) (e : api_Expr) (most : Int) : Option (List Int) := ref7_Flat_l0 self_ref7_Flat k most e.Kind e.N e.Name e.Kids e.At [e.Kind] 0
noncomputable def ref7_Flat_f : Nat → api_Expr → Int → Option (List Int)
  | 0, _, _ => none
  | k + 1, x0, x1 => ref7_Flat_b (ref7_Flat_f k) k x0 x1
noncomputable def ref7_Flat  (e : api_Expr) (most : Int) : Option (List Int) := lim (fun k (x : api_Expr × Int) => ref7_Flat_f k x.1 x.2) (e, most)
noncomputable abbrev ref7_Flat_T (self_ref7_Flat : api_Expr → Int → Option (List Int)) : Tab S := ⟨[⟨12, [.val (.data (.st 0)), .val (.data (.int .i64))], [.val (.marr (.int .i64))], fun x => self_ref7_Flat x.1 x.2⟩], [], false, false, none, []⟩
noncomputable def ref7_Flat_L (self_ref7_Flat : api_Expr → Int → Option (List Int)) (k : Nat) : Nat → List (Lab S (List Int))
  | 0 => [⟨[1, 2, 5, 6], [.val (.data (.int .i64)), .obj [.data (.int .i64), .data (.int .i64), .data .str, .data (.sl (.st 0)), .data (.int .i64)], .val (.marr (.int .i64)), .val (.data (.int .i64))], fun x => ref7_Flat_l0 self_ref7_Flat k x.1 x.2.1.1 x.2.1.2.1 x.2.1.2.2.1 x.2.1.2.2.2.1 x.2.1.2.2.2.2 x.2.2.1 x.2.2.2, false⟩]
  | _ + 1 => []
theorem ref7_Flat_eq (self_ref7_Flat : api_Expr → Int → Option (List Int)) (k : Nat) (e : api_Expr) (most : Int) : ref7_Flat_b self_ref7_Flat k e most = exec S (ref7_Flat_T self_ref7_Flat) byt (labs S (ref7_Flat_T self_ref7_Flat) (ref7_Flat_L self_ref7_Flat k)) (ac [] Tryd.f12) (frame0 S [.val (.data (.st 0)), .val (.data (.int .i64))] (e, most)) (retK S (ref7_Flat_T self_ref7_Flat) Tryd.f12 [.val (.data (.st 0)), .val (.data (.int .i64))] [.val (.marr (.int .i64))]) := by kernel_rfl
theorem ref7_Flat_vc (self_ref7_Flat : api_Expr → Int → Option (List Int)) (k : Nat) : VC S (ref7_Flat_T self_ref7_Flat) byt (ref7_Flat_L self_ref7_Flat k) (ref7_Flat_L self_ref7_Flat (k + 1)) (ac [] Tryd.f12) (retK S (ref7_Flat_T self_ref7_Flat) Tryd.f12 [.val (.data (.st 0)), .val (.data (.int .i64))] [.val (.marr (.int .i64))]) = [∀ x : Int × (Int × Int × List UInt8 × List api_Expr × Int) × List Int × Int, ref7_Flat_l0 self_ref7_Flat (k + 1) x.1 x.2.1.1 x.2.1.2.1 x.2.1.2.2.1 x.2.1.2.2.2.1 x.2.1.2.2.2.2 x.2.2.1 x.2.2.2 = ref7_Flat_l0 self_ref7_Flat (k + 1) x.1 x.2.1.1 x.2.1.2.1 x.2.1.2.2.1 x.2.1.2.2.2.1 x.2.1.2.2.2.2 x.2.2.1 x.2.2.2] := by kernel_rfl
theorem ref7_Flat_sndk (self_ref7_Flat : api_Expr → Int → Option (List Int)) (hself : Snd Tryd.prog S ⟨12, [.val (.data (.st 0)), .val (.data (.int .i64))], [.val (.marr (.int .i64))], fun x => self_ref7_Flat x.1 x.2⟩) (k : Nat) : Snd Tryd.prog S ⟨12, [.val (.data (.st 0)), .val (.data (.int .i64))], [.val (.marr (.int .i64))], fun x => ref7_Flat_b self_ref7_Flat k x.1 x.2⟩ :=
  fn_ok progOk (T := (ref7_Flat_T self_ref7_Flat)) (all_cons hself (all_nil)) (all_nil) (all_nil) mixed Tryd.func12 rfl (by kernel_rfl) (ac_code [] Tryd.f12 rfl) (L := ref7_Flat_L self_ref7_Flat)
    (fun n l h x => by match n, h with
        | 0, h => 
          rcases List.mem_cons.1 h with rfl | h
          · rfl
          cases h
        | _ + 1, h => cases h) (fun k n l h => by match n, h with
        | 0, h => 
          rcases List.mem_cons.1 h with rfl | h
          · rfl
          cases h
        | _ + 1, h => cases h)
    (fun k => All.mem (ref7_Flat_vc self_ref7_Flat k) ⟨fun _ => rfl, trivial⟩) (fun x r h => ⟨k, (ref7_Flat_eq self_ref7_Flat k x.1 x.2).symm.trans h⟩) (by kernel_rfl) (by kernel_rfl) (Nat.le_of_ble_eq_true (by kernel_rfl)) (by kernel_rfl)
theorem ref7_Flat_sndf : ∀ k, Snd Tryd.prog S ⟨12, [.val (.data (.st 0)), .val (.data (.int .i64))], [.val (.marr (.int .i64))], fun x => ref7_Flat_f k x.1 x.2⟩
  | 0 => Snd.none ⟨_, Tryd.func12, by kernel_rfl, by kernel_rfl⟩ fun _ => rfl
  | k + 1 => ref7_Flat_sndk (ref7_Flat_f k) (ref7_Flat_sndf k) k
theorem ref7_Flat_snd : Snd Tryd.prog S ⟨12, [.val (.data (.st 0)), .val (.data (.int .i64))], [.val (.marr (.int .i64))], fun x => ref7_Flat x.1 x.2⟩ := Snd.lim (ref7_Flat_sndf)
/-! ### 61 cotillion/cotillionref6.letter -/
noncomputable def ref6_letter  (x : Int) : Option Bool := if 97 ≤ x then
    if x ≤ 122 then
    some true else
    if 65 ≤ x then
    if x ≤ 90 then
    some true else
    some (decide (x = 95)) else
    some (decide (x = 95)) else
    if 65 ≤ x then
    if x ≤ 90 then
    some true else
    some (decide (x = 95)) else
    some (decide (x = 95))
noncomputable abbrev ref6_letter_T : Tab S := ⟨[], [], false, false, none, []⟩
noncomputable def ref6_letter_L (k : Nat) : Nat → List (Lab S Bool)
  | _ => []
theorem ref6_letter_eq (k : Nat) (x : Int) : ref6_letter x = exec S (ref6_letter_T) byt (labs S (ref6_letter_T) (ref6_letter_L k)) (ac [] Tryd.f61) (frame0 S [.val (.data (.int .u8))] x) (retK S (ref6_letter_T) Tryd.f61 [.val (.data (.int .u8))] [.val (.data .bool)]) := by kernel_rfl
theorem ref6_letter_vc (k : Nat) : VC S (ref6_letter_T) byt (ref6_letter_L k) (ref6_letter_L (k + 1)) (ac [] Tryd.f61) (retK S (ref6_letter_T) Tryd.f61 [.val (.data (.int .u8))] [.val (.data .bool)]) = [] := by kernel_rfl
theorem ref6_letter_snd : Snd Tryd.prog S ⟨61, [.val (.data (.int .u8))], [.val (.data .bool)], fun x => ref6_letter x⟩ :=
  fn_ok progOk (T := (ref6_letter_T)) (all_nil) (all_nil) (all_nil) mixed Tryd.func61 rfl (by kernel_rfl) (ac_code [] Tryd.f61 rfl) (L := ref6_letter_L)
    (fun n l h x => by cases h) (fun k n l h => by cases h)
    (fun k => All.mem (ref6_letter_vc k) trivial) (fun x r h => ⟨0, (ref6_letter_eq 0 x).symm.trans h⟩) (by kernel_rfl) (by kernel_rfl) (Nat.le_of_ble_eq_true (by kernel_rfl)) (by kernel_rfl)
/-! ### 62 cotillion/cotillionref6.digit -/
noncomputable def ref6_digit  (x : Int) : Option Bool := if 48 ≤ x then some (decide (x ≤ 57)) else some false
noncomputable abbrev ref6_digit_T : Tab S := ⟨[], [], false, false, none, []⟩
noncomputable def ref6_digit_L (k : Nat) : Nat → List (Lab S Bool)
  | _ => []
theorem ref6_digit_eq (k : Nat) (x : Int) : ref6_digit x = exec S (ref6_digit_T) byt (labs S (ref6_digit_T) (ref6_digit_L k)) (ac [] Tryd.f62) (frame0 S [.val (.data (.int .u8))] x) (retK S (ref6_digit_T) Tryd.f62 [.val (.data (.int .u8))] [.val (.data .bool)]) := by kernel_rfl
theorem ref6_digit_vc (k : Nat) : VC S (ref6_digit_T) byt (ref6_digit_L k) (ref6_digit_L (k + 1)) (ac [] Tryd.f62) (retK S (ref6_digit_T) Tryd.f62 [.val (.data (.int .u8))] [.val (.data .bool)]) = [] := by kernel_rfl
theorem ref6_digit_snd : Snd Tryd.prog S ⟨62, [.val (.data (.int .u8))], [.val (.data .bool)], fun x => ref6_digit x⟩ :=
  fn_ok progOk (T := (ref6_digit_T)) (all_nil) (all_nil) (all_nil) mixed Tryd.func62 rfl (by kernel_rfl) (ac_code [] Tryd.f62 rfl) (L := ref6_digit_L)
    (fun n l h x => by cases h) (fun k n l h => by cases h)
    (fun k => All.mem (ref6_digit_vc k) trivial) (fun x r h => ⟨0, (ref6_digit_eq 0 x).symm.trans h⟩) (by kernel_rfl) (by kernel_rfl) (Nat.le_of_ble_eq_true (by kernel_rfl)) (by kernel_rfl)
/-! ### 63 cotillion/cotillionref6.Reserved -/
noncomputable def ref6_Reserved_l0 : Nat → (List UInt8) → (List UInt8 × List UInt8 × List UInt8 × List UInt8 × List UInt8 × List UInt8 × List UInt8 × List UInt8 × List UInt8 × List UInt8 × List UInt8 × List UInt8 × List UInt8 × List UInt8 × List UInt8 × List UInt8 × List UInt8 × List UInt8 × List UInt8 × List UInt8 × List UInt8 × List UInt8 × List UInt8 × List UInt8 × List UInt8 × List UInt8 × List UInt8 × List UInt8 × List UInt8 × List UInt8 × List UInt8 × List UInt8 × List UInt8 × List UInt8 × List UInt8) → Int → Option Bool
  | 0, _, _, _ => none
  | k + 1, s, words, i => if i < 35 then
    if 0 ≤ i then
    if i < ([words.1, words.2.1, words.2.2.1, words.2.2.2.1, words.2.2.2.2.1, words.2.2.2.2.2.1, words.2.2.2.2.2.2.1, words.2.2.2.2.2.2.2.1, words.2.2.2.2.2.2.2.2.1, words.2.2.2.2.2.2.2.2.2.1, words.2.2.2.2.2.2.2.2.2.2.1, words.2.2.2.2.2.2.2.2.2.2.2.1, words.2.2.2.2.2.2.2.2.2.2.2.2.1, words.2.2.2.2.2.2.2.2.2.2.2.2.2.1, words.2.2.2.2.2.2.2.2.2.2.2.2.2.2.1, words.2.2.2.2.2.2.2.2.2.2.2.2.2.2.2.1, words.2.2.2.2.2.2.2.2.2.2.2.2.2.2.2.2.1, words.2.2.2.2.2.2.2.2.2.2.2.2.2.2.2.2.2.1, words.2.2.2.2.2.2.2.2.2.2.2.2.2.2.2.2.2.2.1, words.2.2.2.2.2.2.2.2.2.2.2.2.2.2.2.2.2.2.2.1, words.2.2.2.2.2.2.2.2.2.2.2.2.2.2.2.2.2.2.2.2.1, words.2.2.2.2.2.2.2.2.2.2.2.2.2.2.2.2.2.2.2.2.2.1, words.2.2.2.2.2.2.2.2.2.2.2.2.2.2.2.2.2.2.2.2.2.2.1, words.2.2.2.2.2.2.2.2.2.2.2.2.2.2.2.2.2.2.2.2.2.2.2.1, words.2.2.2.2.2.2.2.2.2.2.2.2.2.2.2.2.2.2.2.2.2.2.2.2.1, words.2.2.2.2.2.2.2.2.2.2.2.2.2.2.2.2.2.2.2.2.2.2.2.2.2.1, words.2.2.2.2.2.2.2.2.2.2.2.2.2.2.2.2.2.2.2.2.2.2.2.2.2.2.1, words.2.2.2.2.2.2.2.2.2.2.2.2.2.2.2.2.2.2.2.2.2.2.2.2.2.2.2.1, words.2.2.2.2.2.2.2.2.2.2.2.2.2.2.2.2.2.2.2.2.2.2.2.2.2.2.2.2.1, words.2.2.2.2.2.2.2.2.2.2.2.2.2.2.2.2.2.2.2.2.2.2.2.2.2.2.2.2.2.1, words.2.2.2.2.2.2.2.2.2.2.2.2.2.2.2.2.2.2.2.2.2.2.2.2.2.2.2.2.2.2.1, words.2.2.2.2.2.2.2.2.2.2.2.2.2.2.2.2.2.2.2.2.2.2.2.2.2.2.2.2.2.2.2.1, words.2.2.2.2.2.2.2.2.2.2.2.2.2.2.2.2.2.2.2.2.2.2.2.2.2.2.2.2.2.2.2.2.1, words.2.2.2.2.2.2.2.2.2.2.2.2.2.2.2.2.2.2.2.2.2.2.2.2.2.2.2.2.2.2.2.2.2.1, words.2.2.2.2.2.2.2.2.2.2.2.2.2.2.2.2.2.2.2.2.2.2.2.2.2.2.2.2.2.2.2.2.2.2].length : Int) then
    if ([words.1, words.2.1, words.2.2.1, words.2.2.2.1, words.2.2.2.2.1, words.2.2.2.2.2.1, words.2.2.2.2.2.2.1, words.2.2.2.2.2.2.2.1, words.2.2.2.2.2.2.2.2.1, words.2.2.2.2.2.2.2.2.2.1, words.2.2.2.2.2.2.2.2.2.2.1, words.2.2.2.2.2.2.2.2.2.2.2.1, words.2.2.2.2.2.2.2.2.2.2.2.2.1, words.2.2.2.2.2.2.2.2.2.2.2.2.2.1, words.2.2.2.2.2.2.2.2.2.2.2.2.2.2.1, words.2.2.2.2.2.2.2.2.2.2.2.2.2.2.2.1, words.2.2.2.2.2.2.2.2.2.2.2.2.2.2.2.2.1, words.2.2.2.2.2.2.2.2.2.2.2.2.2.2.2.2.2.1, words.2.2.2.2.2.2.2.2.2.2.2.2.2.2.2.2.2.2.1, words.2.2.2.2.2.2.2.2.2.2.2.2.2.2.2.2.2.2.2.1, words.2.2.2.2.2.2.2.2.2.2.2.2.2.2.2.2.2.2.2.2.1, words.2.2.2.2.2.2.2.2.2.2.2.2.2.2.2.2.2.2.2.2.2.1, words.2.2.2.2.2.2.2.2.2.2.2.2.2.2.2.2.2.2.2.2.2.2.1, words.2.2.2.2.2.2.2.2.2.2.2.2.2.2.2.2.2.2.2.2.2.2.2.1, words.2.2.2.2.2.2.2.2.2.2.2.2.2.2.2.2.2.2.2.2.2.2.2.2.1, words.2.2.2.2.2.2.2.2.2.2.2.2.2.2.2.2.2.2.2.2.2.2.2.2.2.1, words.2.2.2.2.2.2.2.2.2.2.2.2.2.2.2.2.2.2.2.2.2.2.2.2.2.2.1, words.2.2.2.2.2.2.2.2.2.2.2.2.2.2.2.2.2.2.2.2.2.2.2.2.2.2.2.1, words.2.2.2.2.2.2.2.2.2.2.2.2.2.2.2.2.2.2.2.2.2.2.2.2.2.2.2.2.1, words.2.2.2.2.2.2.2.2.2.2.2.2.2.2.2.2.2.2.2.2.2.2.2.2.2.2.2.2.2.1, words.2.2.2.2.2.2.2.2.2.2.2.2.2.2.2.2.2.2.2.2.2.2.2.2.2.2.2.2.2.2.1, words.2.2.2.2.2.2.2.2.2.2.2.2.2.2.2.2.2.2.2.2.2.2.2.2.2.2.2.2.2.2.2.1, words.2.2.2.2.2.2.2.2.2.2.2.2.2.2.2.2.2.2.2.2.2.2.2.2.2.2.2.2.2.2.2.2.1, words.2.2.2.2.2.2.2.2.2.2.2.2.2.2.2.2.2.2.2.2.2.2.2.2.2.2.2.2.2.2.2.2.2.1, words.2.2.2.2.2.2.2.2.2.2.2.2.2.2.2.2.2.2.2.2.2.2.2.2.2.2.2.2.2.2.2.2.2.2].getD i.toNat []) = s then
    some true else
    ref6_Reserved_l0 k s words (w64 (i + 1)) else none else none else
    some false
noncomputable def ref6_Reserved_f (k : Nat) (s : List UInt8) : Option Bool := ref6_Reserved_l0 k s arr_x8304b 0
noncomputable def ref6_Reserved  (s : List UInt8) : Option Bool := lim (fun k (x : List UInt8) => ref6_Reserved_f k x) s
noncomputable abbrev ref6_Reserved_T : Tab S := ⟨[], [], false, false, none, []⟩
noncomputable def ref6_Reserved_L (k : Nat) : Nat → List (Lab S Bool)
  | 0 => [⟨[0, 3, 4], [.val (.data .str), .ro (.st 7), .val (.data (.int .i64))], fun x => ref6_Reserved_l0 k x.1 x.2.1 x.2.2, false⟩]
  | _ + 1 => []
theorem ref6_Reserved_eq (k : Nat) (s : List UInt8) : ref6_Reserved_f k s = exec S (ref6_Reserved_T) byt (labs S (ref6_Reserved_T) (ref6_Reserved_L k)) (ac [] Tryd.f63) (frame0 S [.val (.data .str)] s) (retK S (ref6_Reserved_T) Tryd.f63 [.val (.data .str)] [.val (.data .bool)]) := by kernel_rfl
theorem ref6_Reserved_vc (k : Nat) : VC S (ref6_Reserved_T) byt (ref6_Reserved_L k) (ref6_Reserved_L (k + 1)) (ac [] Tryd.f63) (retK S (ref6_Reserved_T) Tryd.f63 [.val (.data .str)] [.val (.data .bool)]) = [∀ x : List UInt8 × (List UInt8 × List UInt8 × List UInt8 × List UInt8 × List UInt8 × List UInt8 × List UInt8 × List UInt8 × List UInt8 × List UInt8 × List UInt8 × List UInt8 × List UInt8 × List UInt8 × List UInt8 × List UInt8 × List UInt8 × List UInt8 × List UInt8 × List UInt8 × List UInt8 × List UInt8 × List UInt8 × List UInt8 × List UInt8 × List UInt8 × List UInt8 × List UInt8 × List UInt8 × List UInt8 × List UInt8 × List UInt8 × List UInt8 × List UInt8 × List UInt8) × Int, ref6_Reserved_l0 (k + 1) x.1 x.2.1 x.2.2 = ref6_Reserved_l0 (k + 1) x.1 x.2.1 x.2.2] := by kernel_rfl
theorem ref6_Reserved_sndk (k : Nat) : Snd Tryd.prog S ⟨63, [.val (.data .str)], [.val (.data .bool)], fun x => ref6_Reserved_f k x⟩ :=
  fn_ok progOk (T := (ref6_Reserved_T)) (all_nil) (all_nil) (all_nil) mixed Tryd.func63 rfl (by kernel_rfl) (ac_code [] Tryd.f63 rfl) (L := ref6_Reserved_L)
    (fun n l h x => by match n, h with
        | 0, h => 
          rcases List.mem_cons.1 h with rfl | h
          · rfl
          cases h
        | _ + 1, h => cases h) (fun k n l h => by match n, h with
        | 0, h => 
          rcases List.mem_cons.1 h with rfl | h
          · rfl
          cases h
        | _ + 1, h => cases h)
    (fun k => All.mem (ref6_Reserved_vc k) ⟨fun _ => rfl, trivial⟩) (fun x r h => ⟨k, (ref6_Reserved_eq k x).symm.trans h⟩) (by kernel_rfl) (by kernel_rfl) (Nat.le_of_ble_eq_true (by kernel_rfl)) (by kernel_rfl)
theorem ref6_Reserved_snd : Snd Tryd.prog S ⟨63, [.val (.data .str)], [.val (.data .bool)], fun x => ref6_Reserved x⟩ := Snd.lim (ref6_Reserved_sndk)
/-! ### 48 cotillion/cotillionref6.Name -/
noncomputable def ref6_Name_l0 : Nat → (List UInt8) → Int → Option Bool
  | 0, _, _ => none
  | k + 1, s, i => if i < (s.length : Int) then
    if 0 ≤ i then
    if i < (s.length : Int) then
    (ref6_letter ((s.getD i.toNat 0).toNat : Int)).bind fun r2 =>
    bif !r2 then
    if 0 ≤ i then
    if i < (s.length : Int) then
    (ref6_digit ((s.getD i.toNat 0).toNat : Int)).bind fun r3 =>
    bif !r3 then
    some false else
    ref6_Name_l0 k s (w64 (i + 1)) else none else none else
    ref6_Name_l0 k s (w64 (i + 1)) else none else none else
    (ref6_Reserved s).bind fun r4 =>
    some (!r4)
noncomputable def ref6_Name_f (k : Nat) (s : List UInt8) : Option Bool := if (s.length : Int) = 0 then
    some false else
    if 24 < (s.length : Int) then
    some false else
    if (0 : Int) ≤ 0 then
    if 0 < (s.length : Int) then
    (ref6_letter ((s.getD (0 : Int).toNat 0).toNat : Int)).bind fun r1 =>
    bif !r1 then
    some false else
    ref6_Name_l0 k s 0 else none else none
noncomputable def ref6_Name  (s : List UInt8) : Option Bool := lim (fun k (x : List UInt8) => ref6_Name_f k x) s
noncomputable abbrev ref6_Name_T : Tab S := ⟨[⟨61, [.val (.data (.int .u8))], [.val (.data .bool)], fun x => ref6_letter x⟩, ⟨62, [.val (.data (.int .u8))], [.val (.data .bool)], fun x => ref6_digit x⟩, ⟨63, [.val (.data .str)], [.val (.data .bool)], fun x => ref6_Reserved x⟩], [], false, false, none, []⟩
noncomputable def ref6_Name_L (k : Nat) : Nat → List (Lab S Bool)
  | 0 => [⟨[0, 3], [.val (.data .str), .val (.data (.int .i64))], fun x => ref6_Name_l0 k x.1 x.2, false⟩]
  | _ + 1 => []
theorem ref6_Name_eq (k : Nat) (s : List UInt8) : ref6_Name_f k s = exec S (ref6_Name_T) byt (labs S (ref6_Name_T) (ref6_Name_L k)) (ac [] Tryd.f48) (frame0 S [.val (.data .str)] s) (retK S (ref6_Name_T) Tryd.f48 [.val (.data .str)] [.val (.data .bool)]) := by kernel_rfl
theorem ref6_Name_vc (k : Nat) : VC S (ref6_Name_T) byt (ref6_Name_L k) (ref6_Name_L (k + 1)) (ac [] Tryd.f48) (retK S (ref6_Name_T) Tryd.f48 [.val (.data .str)] [.val (.data .bool)]) = [∀ x : List UInt8 × Int, ref6_Name_l0 (k + 1) x.1 x.2 = ref6_Name_l0 (k + 1) x.1 x.2] := by kernel_rfl
theorem ref6_Name_sndk (k : Nat) : Snd Tryd.prog S ⟨48, [.val (.data .str)], [.val (.data .bool)], fun x => ref6_Name_f k x⟩ :=
  fn_ok progOk (T := (ref6_Name_T)) (all_cons ref6_letter_snd (all_cons ref6_digit_snd (all_cons ref6_Reserved_snd (all_nil)))) (all_nil) (all_nil) mixed Tryd.func48 rfl (by kernel_rfl) (ac_code [] Tryd.f48 rfl) (L := ref6_Name_L)
    (fun n l h x => by match n, h with
        | 0, h => 
          rcases List.mem_cons.1 h with rfl | h
          · rfl
          cases h
        | _ + 1, h => cases h) (fun k n l h => by match n, h with
        | 0, h => 
          rcases List.mem_cons.1 h with rfl | h
          · rfl
          cases h
        | _ + 1, h => cases h)
    (fun k => All.mem (ref6_Name_vc k) ⟨fun _ => rfl, trivial⟩) (fun x r h => ⟨k, (ref6_Name_eq k x).symm.trans h⟩) (by kernel_rfl) (by kernel_rfl) (Nat.le_of_ble_eq_true (by kernel_rfl)) (by kernel_rfl)
theorem ref6_Name_snd : Snd Tryd.prog S ⟨48, [.val (.data .str)], [.val (.data .bool)], fun x => ref6_Name x⟩ := Snd.lim (ref6_Name_sndk)
/-! ### 26 cotillion/cotillionref7.shape -/
noncomputable def ref7_shape_l0 (self_ref7_shape : api_Expr → Option Bool) : Nat → Int → Int → (List UInt8) → (List api_Expr) → Int → Int → Int → Option Bool
  | 0, _, _, _, _, _, _, _ => none
  | k + 1, e_Kind, e_N, e_Name, e_Kids, e_At, kids, i => if i < kids then
    if 0 ≤ i then
    if i < (e_Kids.length : Int) then
    (self_ref7_shape (e_Kids.getD i.toNat api_Expr.z)).bind fun r2 =>
    bif !r2 then
    some false else
    ref7_shape_l0 self_ref7_shape k e_Kind e_N e_Name e_Kids e_At kids (w64 (i + 1)) else none else none else
    some true
noncomputable def ref7_shape_c0 (self_ref7_shape : api_Expr → Option Bool) : Nat → Int → Int → (List UInt8) → (List api_Expr) → Int → Bool → Int → Option Bool
  | 0, _, _, _, _, _, _, _ => none
  | k + 1, e_Kind, e_N, e_Name, e_Kids, e_At, named, kids => if e_Kind < 1 then
    some false else
    if 19 < e_Kind then
    some false else
    if (e_Kids.length : Int) ≠ kids then
    some false else
    if named ≠ (decide (e_Name ≠ [])) then
    some false else
    bif named then
    (ref6_Name e_Name).bind fun r1 =>
    bif !r1 then
    some false else
    if e_N < 0 then
    some false else
    if 0 < e_N then
    if e_Kind ≠ 1 then
    some false else
    ref7_shape_l0 self_ref7_shape k e_Kind e_N e_Name e_Kids e_At kids 0 else
    ref7_shape_l0 self_ref7_shape k e_Kind e_N e_Name e_Kids e_At kids 0 else
    if e_N < 0 then
    some false else
    if 0 < e_N then
    if e_Kind ≠ 1 then
    some false else
    ref7_shape_l0 self_ref7_shape k e_Kind e_N e_Name e_Kids e_At kids 0 else
    ref7_shape_l0 self_ref7_shape k e_Kind e_N e_Name e_Kids e_At kids 0
noncomputable def ref7_shape_b (self_ref7_shape : api_Expr → Option Bool) (k : Nat) (e : api_Expr) : Option Bool := if e.Kind = 2 then
    if e.Kind < 5 then
    ref7_shape_c0 self_ref7_shape k e.Kind e.N e.Name e.Kids e.At true 0 else
    if e.Kind ≤ 6 then
    ref7_shape_c0 self_ref7_shape k e.Kind e.N e.Name e.Kids e.At true 1 else
    ref7_shape_c0 self_ref7_shape k e.Kind e.N e.Name e.Kids e.At true 2 else
    if e.Kind < 5 then
    ref7_shape_c0 self_ref7_shape k e.Kind e.N e.Name e.Kids e.At (decide (e.Kind = 4)) 0 else
    if e.Kind ≤ 6 then
    ref7_shape_c0 self_ref7_shape k e.Kind e.N e.Name e.Kids e.At (decide (e.Kind = 4)) 1 else
    ref7_shape_c0 self_ref7_shape k e.Kind e.N e.Name e.Kids e.At (decide (e.Kind = 4)) 2
noncomputable def ref7_shape_f : Nat → api_Expr → Option Bool
  | 0, _ => none
  | k + 1, x0 => ref7_shape_b (ref7_shape_f k) k x0
noncomputable def ref7_shape  (e : api_Expr) : Option Bool := lim (fun k (x : api_Expr) => ref7_shape_f k x) e
noncomputable abbrev ref7_shape_T (self_ref7_shape : api_Expr → Option Bool) : Tab S := ⟨[⟨48, [.val (.data .str)], [.val (.data .bool)], fun x => ref6_Name x⟩, ⟨26, [.val (.data (.st 0))], [.val (.data .bool)], fun x => self_ref7_shape x⟩], [], false, false, none, []⟩
noncomputable def ref7_shape_L (self_ref7_shape : api_Expr → Option Bool) (k : Nat) : Nat → List (Lab S Bool)
  | 0 => [⟨[1, 4, 5], [.obj [.data (.int .i64), .data (.int .i64), .data .str, .data (.sl (.st 0)), .data (.int .i64)], .val (.data (.int .i64)), .val (.data (.int .i64))], fun x => ref7_shape_l0 self_ref7_shape k x.1.1 x.1.2.1 x.1.2.2.1 x.1.2.2.2.1 x.1.2.2.2.2 x.2.1 x.2.2, false⟩]
  | 1 => [⟨[1, 3, 4], [.obj [.data (.int .i64), .data (.int .i64), .data .str, .data (.sl (.st 0)), .data (.int .i64)], .val (.data .bool), .val (.data (.int .i64))], fun x => ref7_shape_c0 self_ref7_shape k x.1.1 x.1.2.1 x.1.2.2.1 x.1.2.2.2.1 x.1.2.2.2.2 x.2.1 x.2.2, false⟩]
  | _ + 2 => []
theorem ref7_shape_eq (self_ref7_shape : api_Expr → Option Bool) (k : Nat) (e : api_Expr) : ref7_shape_b self_ref7_shape k e = exec S (ref7_shape_T self_ref7_shape) byt (labs S (ref7_shape_T self_ref7_shape) (ref7_shape_L self_ref7_shape k)) (ac [3] Tryd.f26) (frame0 S [.val (.data (.st 0))] e) (retK S (ref7_shape_T self_ref7_shape) Tryd.f26 [.val (.data (.st 0))] [.val (.data .bool)]) := by kernel_rfl
theorem ref7_shape_vc (self_ref7_shape : api_Expr → Option Bool) (k : Nat) : VC S (ref7_shape_T self_ref7_shape) byt (ref7_shape_L self_ref7_shape k) (ref7_shape_L self_ref7_shape (k + 1)) (ac [3] Tryd.f26) (retK S (ref7_shape_T self_ref7_shape) Tryd.f26 [.val (.data (.st 0))] [.val (.data .bool)]) = [∀ x : (Int × Int × List UInt8 × List api_Expr × Int) × Int × Int, ref7_shape_l0 self_ref7_shape (k + 1) x.1.1 x.1.2.1 x.1.2.2.1 x.1.2.2.2.1 x.1.2.2.2.2 x.2.1 x.2.2 = ref7_shape_l0 self_ref7_shape (k + 1) x.1.1 x.1.2.1 x.1.2.2.1 x.1.2.2.2.1 x.1.2.2.2.2 x.2.1 x.2.2, ∀ x : (Int × Int × List UInt8 × List api_Expr × Int) × Bool × Int, ref7_shape_c0 self_ref7_shape (k + 1) x.1.1 x.1.2.1 x.1.2.2.1 x.1.2.2.2.1 x.1.2.2.2.2 x.2.1 x.2.2 = ref7_shape_c0 self_ref7_shape (k + 1) x.1.1 x.1.2.1 x.1.2.2.1 x.1.2.2.2.1 x.1.2.2.2.2 x.2.1 x.2.2] := by kernel_rfl
theorem ref7_shape_sndk (self_ref7_shape : api_Expr → Option Bool) (hself : Snd Tryd.prog S ⟨26, [.val (.data (.st 0))], [.val (.data .bool)], fun x => self_ref7_shape x⟩) (k : Nat) : Snd Tryd.prog S ⟨26, [.val (.data (.st 0))], [.val (.data .bool)], fun x => ref7_shape_b self_ref7_shape k x⟩ :=
  fn_ok progOk (T := (ref7_shape_T self_ref7_shape)) (all_cons ref6_Name_snd (all_cons hself (all_nil))) (all_nil) (all_nil) mixed Tryd.func26 rfl (by kernel_rfl) (ac_code [3] Tryd.f26 rfl) (L := ref7_shape_L self_ref7_shape)
    (fun n l h x => by match n, h with
        | 0, h => 
          rcases List.mem_cons.1 h with rfl | h
          · rfl
          cases h
        | 1, h => 
          rcases List.mem_cons.1 h with rfl | h
          · rfl
          cases h
        | _ + 2, h => cases h) (fun k n l h => by match n, h with
        | 0, h => 
          rcases List.mem_cons.1 h with rfl | h
          · rfl
          cases h
        | 1, h => 
          rcases List.mem_cons.1 h with rfl | h
          · rfl
          cases h
        | _ + 2, h => cases h)
    (fun k => All.mem (ref7_shape_vc self_ref7_shape k) ⟨fun _ => rfl, ⟨fun _ => rfl, trivial⟩⟩) (fun x r h => ⟨k, (ref7_shape_eq self_ref7_shape k x).symm.trans h⟩) (by kernel_rfl) (by kernel_rfl) (Nat.le_of_ble_eq_true (by kernel_rfl)) (by kernel_rfl)
theorem ref7_shape_sndf : ∀ k, Snd Tryd.prog S ⟨26, [.val (.data (.st 0))], [.val (.data .bool)], fun x => ref7_shape_f k x⟩
  | 0 => Snd.none ⟨_, Tryd.func26, by kernel_rfl, by kernel_rfl⟩ fun _ => rfl
  | k + 1 => ref7_shape_sndk (ref7_shape_f k) (ref7_shape_sndf k) k
theorem ref7_shape_snd : Snd Tryd.prog S ⟨26, [.val (.data (.st 0))], [.val (.data .bool)], fun x => ref7_shape x⟩ := Snd.lim (ref7_shape_sndf)
/-! ### 30 cotillion/cotillionref7.level -/
noncomputable def ref7_level  (k_ : Int) : Option Int := if k_ = 19 then
    some 1 else
    if k_ = 18 then
    some 2 else
    if 12 ≤ k_ then
    if k_ ≤ 17 then
    some 3 else
    if k_ = 10 then
    some 4 else
    if k_ = 11 then
    some 4 else
    if k_ = 7 then
    some 5 else
    if k_ = 8 then
    some 5 else
    if k_ = 9 then
    some 5 else
    if k_ = 5 then
    some 6 else
    if k_ = 6 then
    some 6 else
    some 7 else
    if k_ = 10 then
    some 4 else
    if k_ = 11 then
    some 4 else
    if k_ = 7 then
    some 5 else
    if k_ = 8 then
    some 5 else
    if k_ = 9 then
    some 5 else
    if k_ = 5 then
    some 6 else
    if k_ = 6 then
    some 6 else
    some 7
noncomputable abbrev ref7_level_T : Tab S := ⟨[], [], false, false, none, []⟩
noncomputable def ref7_level_L (k : Nat) : Nat → List (Lab S Int)
  | _ => []
theorem ref7_level_eq (k : Nat) (k_ : Int) : ref7_level k_ = exec S (ref7_level_T) byt (labs S (ref7_level_T) (ref7_level_L k)) (ac [] Tryd.f30) (frame0 S [.val (.data (.int .i64))] k_) (retK S (ref7_level_T) Tryd.f30 [.val (.data (.int .i64))] [.val (.data (.int .i64))]) := by kernel_rfl
theorem ref7_level_vc (k : Nat) : VC S (ref7_level_T) byt (ref7_level_L k) (ref7_level_L (k + 1)) (ac [] Tryd.f30) (retK S (ref7_level_T) Tryd.f30 [.val (.data (.int .i64))] [.val (.data (.int .i64))]) = [] := by kernel_rfl
theorem ref7_level_snd : Snd Tryd.prog S ⟨30, [.val (.data (.int .i64))], [.val (.data (.int .i64))], fun x => ref7_level x⟩ :=
  fn_ok progOk (T := (ref7_level_T)) (all_nil) (all_nil) (all_nil) mixed Tryd.func30 rfl (by kernel_rfl) (ac_code [] Tryd.f30 rfl) (L := ref7_level_L)
    (fun n l h x => by cases h) (fun k n l h => by cases h)
    (fun k => All.mem (ref7_level_vc k) trivial) (fun x r h => ⟨0, (ref7_level_eq 0 x).symm.trans h⟩) (by kernel_rfl) (by kernel_rfl) (Nat.le_of_ble_eq_true (by kernel_rfl)) (by kernel_rfl)
/-! ### 27 cotillion/cotillionref7.nest -/
mutual
noncomputable def ref7_nest_l0 (self_ref7_nest : api_Expr → Option Int) : Nat → Int → Int → (List UInt8) → (List api_Expr) → Int → Int → Int → Option Int
  | 0, _, _, _, _, _, _, _ => none
  | k + 1, e_Kind, e_N, e_Name, e_Kids, e_At, most, i => if i < (e_Kids.length : Int) then
    (ref7_level e_Kind).bind fun r1 =>
    if r1 < 6 then
    if r1 = 3 then
    ref7_nest_c0 self_ref7_nest k e_Kind e_N e_Name e_Kids e_At most i r1 4 else
    ref7_nest_c0 self_ref7_nest k e_Kind e_N e_Name e_Kids e_At most i r1 (w64 (r1 + i)) else
    ref7_nest_c0 self_ref7_nest k e_Kind e_N e_Name e_Kids e_At most i r1 6 else
    some most
noncomputable def ref7_nest_c0 (self_ref7_nest : api_Expr → Option Int) : Nat → Int → Int → (List UInt8) → (List api_Expr) → Int → Int → Int → Int → Int → Option Int
  | 0, _, _, _, _, _, _, _, _, _ => none
  | k + 1, e_Kind, e_N, e_Name, e_Kids, e_At, most, i, n, asks => if 0 ≤ i then
    if i < (e_Kids.length : Int) then
    (self_ref7_nest (e_Kids.getD i.toNat api_Expr.z)).bind fun r2 =>
    if 0 ≤ i then
    if i < (e_Kids.length : Int) then
    (ref7_level ((e_Kids.getD i.toNat api_Expr.z).Kind)).bind fun r3 =>
    if r3 < asks then
    if n = 6 then
    ref7_nest_l0 self_ref7_nest k e_Kind e_N e_Name e_Kids e_At (max most (w64 ((w64 (r2 + 1)) + 1))) (w64 (i + 1)) else
    ref7_nest_l0 self_ref7_nest k e_Kind e_N e_Name e_Kids e_At (max most (w64 (r2 + 1))) (w64 (i + 1)) else
    if n = 6 then
    ref7_nest_l0 self_ref7_nest k e_Kind e_N e_Name e_Kids e_At (max most (w64 (r2 + 1))) (w64 (i + 1)) else
    ref7_nest_l0 self_ref7_nest k e_Kind e_N e_Name e_Kids e_At (max most r2) (w64 (i + 1)) else none else none else none else none
end
noncomputable def ref7_nest_b (self_ref7_nest : api_Expr → Option Int) (k : Nat) (e : api_Expr) : Option Int := ref7_nest_l0 self_ref7_nest k e.Kind e.N e.Name e.Kids e.At 0 0
noncomputable def ref7_nest_f : Nat → api_Expr → Option Int
  | 0, _ => none
  | k + 1, x0 => ref7_nest_b (ref7_nest_f k) k x0
noncomputable def ref7_nest  (e : api_Expr) : Option Int := lim (fun k (x : api_Expr) => ref7_nest_f k x) e
noncomputable abbrev ref7_nest_T (self_ref7_nest : api_Expr → Option Int) : Tab S := ⟨[⟨30, [.val (.data (.int .i64))], [.val (.data (.int .i64))], fun x => ref7_level x⟩, ⟨27, [.val (.data (.st 0))], [.val (.data (.int .i64))], fun x => self_ref7_nest x⟩], [], false, false, none, []⟩
noncomputable def ref7_nest_L (self_ref7_nest : api_Expr → Option Int) (k : Nat) : Nat → List (Lab S Int)
  | 0 => [⟨[1, 3, 4], [.obj [.data (.int .i64), .data (.int .i64), .data .str, .data (.sl (.st 0)), .data (.int .i64)], .val (.data (.int .i64)), .val (.data (.int .i64))], fun x => ref7_nest_l0 self_ref7_nest k x.1.1 x.1.2.1 x.1.2.2.1 x.1.2.2.2.1 x.1.2.2.2.2 x.2.1 x.2.2, false⟩]
  | 1 => [⟨[1, 3, 4, 5, 6], [.obj [.data (.int .i64), .data (.int .i64), .data .str, .data (.sl (.st 0)), .data (.int .i64)], .val (.data (.int .i64)), .val (.data (.int .i64)), .val (.data (.int .i64)), .val (.data (.int .i64))], fun x => ref7_nest_c0 self_ref7_nest k x.1.1 x.1.2.1 x.1.2.2.1 x.1.2.2.2.1 x.1.2.2.2.2 x.2.1 x.2.2.1 x.2.2.2.1 x.2.2.2.2, false⟩]
  | _ + 2 => []
theorem ref7_nest_eq (self_ref7_nest : api_Expr → Option Int) (k : Nat) (e : api_Expr) : ref7_nest_b self_ref7_nest k e = exec S (ref7_nest_T self_ref7_nest) byt (labs S (ref7_nest_T self_ref7_nest) (ref7_nest_L self_ref7_nest k)) (ac [8] Tryd.f27) (frame0 S [.val (.data (.st 0))] e) (retK S (ref7_nest_T self_ref7_nest) Tryd.f27 [.val (.data (.st 0))] [.val (.data (.int .i64))]) := by kernel_rfl
theorem ref7_nest_vc (self_ref7_nest : api_Expr → Option Int) (k : Nat) : VC S (ref7_nest_T self_ref7_nest) byt (ref7_nest_L self_ref7_nest k) (ref7_nest_L self_ref7_nest (k + 1)) (ac [8] Tryd.f27) (retK S (ref7_nest_T self_ref7_nest) Tryd.f27 [.val (.data (.st 0))] [.val (.data (.int .i64))]) = [∀ x : (Int × Int × List UInt8 × List api_Expr × Int) × Int × Int × Int × Int, ref7_nest_c0 self_ref7_nest (k + 1) x.1.1 x.1.2.1 x.1.2.2.1 x.1.2.2.2.1 x.1.2.2.2.2 x.2.1 x.2.2.1 x.2.2.2.1 x.2.2.2.2 = ref7_nest_c0 self_ref7_nest (k + 1) x.1.1 x.1.2.1 x.1.2.2.1 x.1.2.2.2.1 x.1.2.2.2.2 x.2.1 x.2.2.1 x.2.2.2.1 x.2.2.2.2, ∀ x : (Int × Int × List UInt8 × List api_Expr × Int) × Int × Int, ref7_nest_l0 self_ref7_nest (k + 1) x.1.1 x.1.2.1 x.1.2.2.1 x.1.2.2.2.1 x.1.2.2.2.2 x.2.1 x.2.2 = ref7_nest_l0 self_ref7_nest (k + 1) x.1.1 x.1.2.1 x.1.2.2.1 x.1.2.2.2.1 x.1.2.2.2.2 x.2.1 x.2.2] := by kernel_rfl
theorem ref7_nest_sndk (self_ref7_nest : api_Expr → Option Int) (hself : Snd Tryd.prog S ⟨27, [.val (.data (.st 0))], [.val (.data (.int .i64))], fun x => self_ref7_nest x⟩) (k : Nat) : Snd Tryd.prog S ⟨27, [.val (.data (.st 0))], [.val (.data (.int .i64))], fun x => ref7_nest_b self_ref7_nest k x⟩ :=
  fn_ok progOk (T := (ref7_nest_T self_ref7_nest)) (all_cons ref7_level_snd (all_cons hself (all_nil))) (all_nil) (all_nil) mixed Tryd.func27 rfl (by kernel_rfl) (ac_code [8] Tryd.f27 rfl) (L := ref7_nest_L self_ref7_nest)
    (fun n l h x => by match n, h with
        | 0, h => 
          rcases List.mem_cons.1 h with rfl | h
          · rfl
          cases h
        | 1, h => 
          rcases List.mem_cons.1 h with rfl | h
          · rfl
          cases h
        | _ + 2, h => cases h) (fun k n l h => by match n, h with
        | 0, h => 
          rcases List.mem_cons.1 h with rfl | h
          · rfl
          cases h
        | 1, h => 
          rcases List.mem_cons.1 h with rfl | h
          · rfl
          cases h
        | _ + 2, h => cases h)
    (fun k => All.mem (ref7_nest_vc self_ref7_nest k) ⟨fun _ => rfl, ⟨fun _ => rfl, trivial⟩⟩) (fun x r h => ⟨k, (ref7_nest_eq self_ref7_nest k x).symm.trans h⟩) (by kernel_rfl) (by kernel_rfl) (Nat.le_of_ble_eq_true (by kernel_rfl)) (by kernel_rfl)
theorem ref7_nest_sndf : ∀ k, Snd Tryd.prog S ⟨27, [.val (.data (.st 0))], [.val (.data (.int .i64))], fun x => ref7_nest_f k x⟩
  | 0 => Snd.none ⟨_, Tryd.func27, by kernel_rfl, by kernel_rfl⟩ fun _ => rfl
  | k + 1 => ref7_nest_sndk (ref7_nest_f k) (ref7_nest_sndf k) k
theorem ref7_nest_snd : Snd Tryd.prog S ⟨27, [.val (.data (.st 0))], [.val (.data (.int .i64))], fun x => ref7_nest x⟩ := Snd.lim (ref7_nest_sndf)
/-! ### 14 cotillion/cotillionref7.Right -/
noncomputable def ref7_Right  (e : api_Expr) : Option Bool := (ref7_shape (api_Expr.mk e.Kind e.N e.Name e.Kids e.At)).bind fun r1 =>
    bif r1 then
    (ref7_nest (api_Expr.mk e.Kind e.N e.Name e.Kids e.At)).bind fun r2 =>
    some (decide (r2 ≤ 12)) else
    some false
noncomputable abbrev ref7_Right_T : Tab S := ⟨[⟨26, [.val (.data (.st 0))], [.val (.data .bool)], fun x => ref7_shape x⟩, ⟨27, [.val (.data (.st 0))], [.val (.data (.int .i64))], fun x => ref7_nest x⟩], [], false, false, none, []⟩
noncomputable def ref7_Right_L (k : Nat) : Nat → List (Lab S Bool)
  | _ => []
theorem ref7_Right_eq (k : Nat) (e : api_Expr) : ref7_Right e = exec S (ref7_Right_T) byt (labs S (ref7_Right_T) (ref7_Right_L k)) (ac [] Tryd.f14) (frame0 S [.val (.data (.st 0))] e) (retK S (ref7_Right_T) Tryd.f14 [.val (.data (.st 0))] [.val (.data .bool)]) := by kernel_rfl
theorem ref7_Right_vc (k : Nat) : VC S (ref7_Right_T) byt (ref7_Right_L k) (ref7_Right_L (k + 1)) (ac [] Tryd.f14) (retK S (ref7_Right_T) Tryd.f14 [.val (.data (.st 0))] [.val (.data .bool)]) = [] := by kernel_rfl
theorem ref7_Right_snd : Snd Tryd.prog S ⟨14, [.val (.data (.st 0))], [.val (.data .bool)], fun x => ref7_Right x⟩ :=
  fn_ok progOk (T := (ref7_Right_T)) (all_cons ref7_shape_snd (all_cons ref7_nest_snd (all_nil))) (all_nil) (all_nil) mixed Tryd.func14 rfl (by kernel_rfl) (ac_code [] Tryd.f14 rfl) (L := ref7_Right_L)
    (fun n l h x => by cases h) (fun k n l h => by cases h)
    (fun k => All.mem (ref7_Right_vc k) trivial) (fun x r h => ⟨0, (ref7_Right_eq 0 x).symm.trans h⟩) (by kernel_rfl) (by kernel_rfl) (Nat.le_of_ble_eq_true (by kernel_rfl)) (by kernel_rfl)
/-! ### 31 cotillion/cotillionref7.Dec -/
noncomputable def ref7_Dec_b (self_ref7_Dec : Int → Option (List UInt8)) (k : Nat) (n : Int) : Option (List UInt8) := if n ≤ (-10) then
    if ¬ (10 : Int) = 0 then
    if ¬ (10 : Int) = 0 then
    (self_ref7_Dec (w64 (n.tdiv 10))).bind fun r1 =>
    if 0 ≤ (w64 ((w64 (0 - (n.tmod 10))) + 1)) then
    if (w64 ((w64 (0 - (n.tmod 10))) + 1)) ≤ (s_0123456789.length : Int) then
    if 0 ≤ (w64 (0 - (n.tmod 10))) then
    if (w64 (0 - (n.tmod 10))) ≤ (w64 ((w64 (0 - (n.tmod 10))) + 1)) then
    if r1.length + (cut s_0123456789 (w64 (0 - (n.tmod 10))) (w64 ((w64 (0 - (n.tmod 10))) + 1))).length ≤ 9223372036854775807 then
    some (r1 ++ (cut s_0123456789 (w64 (0 - (n.tmod 10))) (w64 ((w64 (0 - (n.tmod 10))) + 1)))) else none else none else none else none else none else none else none else
    if n < 0 then
    if 0 ≤ (w64 ((w64 (0 - n)) + 1)) then
    if (w64 ((w64 (0 - n)) + 1)) ≤ (s_0123456789.length : Int) then
    if 0 ≤ (w64 (0 - n)) then
    if (w64 (0 - n)) ≤ (w64 ((w64 (0 - n)) + 1)) then
    if s_minus.length + (cut s_0123456789 (w64 (0 - n)) (w64 ((w64 (0 - n)) + 1))).length ≤ 9223372036854775807 then
    some (s_minus ++ (cut s_0123456789 (w64 (0 - n)) (w64 ((w64 (0 - n)) + 1)))) else none else none else none else none else none else
    if n < 10 then
    if 0 ≤ (w64 (n + 1)) then
    if (w64 (n + 1)) ≤ (s_0123456789.length : Int) then
    if 0 ≤ n then
    if n ≤ (w64 (n + 1)) then
    some (cut s_0123456789 n (w64 (n + 1))) else none else none else none else none else
    if ¬ (10 : Int) = 0 then
    (self_ref7_Dec (w64 (n.tdiv 10))).bind fun r2 =>
    if ¬ (10 : Int) = 0 then
    if ¬ (10 : Int) = 0 then
    if 0 ≤ (w64 ((n.tmod 10) + 1)) then
    if (w64 ((n.tmod 10) + 1)) ≤ (s_0123456789.length : Int) then
    if 0 ≤ (n.tmod 10) then
    if (n.tmod 10) ≤ (w64 ((n.tmod 10) + 1)) then
    if r2.length + (cut s_0123456789 (n.tmod 10) (w64 ((n.tmod 10) + 1))).length ≤ 9223372036854775807 then
    some (r2 ++ (cut s_0123456789 (n.tmod 10) (w64 ((n.tmod 10) + 1)))) else none else none else none else none else none else none else none else none
noncomputable def ref7_Dec_f : Nat → Int → Option (List UInt8)
  | 0, _ => none
  | k + 1, x0 => ref7_Dec_b (ref7_Dec_f k) k x0
noncomputable def ref7_Dec  (n : Int) : Option (List UInt8) := lim (fun k (x : Int) => ref7_Dec_f k x) n
noncomputable abbrev ref7_Dec_T (self_ref7_Dec : Int → Option (List UInt8)) : Tab S := ⟨[⟨31, [.val (.data (.int .i64))], [.val (.data .str)], fun x => self_ref7_Dec x⟩], [], false, false, none, []⟩
noncomputable def ref7_Dec_L (self_ref7_Dec : Int → Option (List UInt8)) (k : Nat) : Nat → List (Lab S (List UInt8))
  | _ => []
theorem ref7_Dec_eq (self_ref7_Dec : Int → Option (List UInt8)) (k : Nat) (n : Int) : ref7_Dec_b self_ref7_Dec k n = exec S (ref7_Dec_T self_ref7_Dec) byt (labs S (ref7_Dec_T self_ref7_Dec) (ref7_Dec_L self_ref7_Dec k)) (ac [] Tryd.f31) (frame0 S [.val (.data (.int .i64))] n) (retK S (ref7_Dec_T self_ref7_Dec) Tryd.f31 [.val (.data (.int .i64))] [.val (.data .str)]) := by kernel_rfl
theorem ref7_Dec_vc (self_ref7_Dec : Int → Option (List UInt8)) (k : Nat) : VC S (ref7_Dec_T self_ref7_Dec) byt (ref7_Dec_L self_ref7_Dec k) (ref7_Dec_L self_ref7_Dec (k + 1)) (ac [] Tryd.f31) (retK S (ref7_Dec_T self_ref7_Dec) Tryd.f31 [.val (.data (.int .i64))] [.val (.data .str)]) = [] := by kernel_rfl
theorem ref7_Dec_sndk (self_ref7_Dec : Int → Option (List UInt8)) (hself : Snd Tryd.prog S ⟨31, [.val (.data (.int .i64))], [.val (.data .str)], fun x => self_ref7_Dec x⟩) (k : Nat) : Snd Tryd.prog S ⟨31, [.val (.data (.int .i64))], [.val (.data .str)], fun x => ref7_Dec_b self_ref7_Dec k x⟩ :=
  fn_ok progOk (T := (ref7_Dec_T self_ref7_Dec)) (all_cons hself (all_nil)) (all_nil) (all_nil) mixed Tryd.func31 rfl (by kernel_rfl) (ac_code [] Tryd.f31 rfl) (L := ref7_Dec_L self_ref7_Dec)
    (fun n l h x => by cases h) (fun k n l h => by cases h)
    (fun k => All.mem (ref7_Dec_vc self_ref7_Dec k) trivial) (fun x r h => ⟨k, (ref7_Dec_eq self_ref7_Dec k x).symm.trans h⟩) (by kernel_rfl) (by kernel_rfl) (Nat.le_of_ble_eq_true (by kernel_rfl)) (by kernel_rfl)
theorem ref7_Dec_sndf : ∀ k, Snd Tryd.prog S ⟨31, [.val (.data (.int .i64))], [.val (.data .str)], fun x => ref7_Dec_f k x⟩
  | 0 => Snd.none ⟨_, Tryd.func31, by kernel_rfl, by kernel_rfl⟩ fun _ => rfl
  | k + 1 => ref7_Dec_sndk (ref7_Dec_f k) (ref7_Dec_sndf k) k
theorem ref7_Dec_snd : Snd Tryd.prog S ⟨31, [.val (.data (.int .i64))], [.val (.data .str)], fun x => ref7_Dec x⟩ := Snd.lim (ref7_Dec_sndf)
/-! ### 32 cotillion/cotillionref7.text -/
noncomputable def ref7_text  (k_ : Int) : Option (List UInt8) := if 0 ≤ k_ then
    if k_ < (row_x5f300.length : Int) then
    some (row_x5f300.getD k_.toNat []) else none else none
noncomputable abbrev ref7_text_T : Tab S := ⟨[], [], false, false, none, []⟩
noncomputable def ref7_text_L (k : Nat) : Nat → List (Lab S (List UInt8))
  | _ => []
theorem ref7_text_eq (k : Nat) (k_ : Int) : ref7_text k_ = exec S (ref7_text_T) byt (labs S (ref7_text_T) (ref7_text_L k)) (ac [] Tryd.f32) (frame0 S [.val (.data (.int .i64))] k_) (retK S (ref7_text_T) Tryd.f32 [.val (.data (.int .i64))] [.val (.data .str)]) := by kernel_rfl
theorem ref7_text_vc (k : Nat) : VC S (ref7_text_T) byt (ref7_text_L k) (ref7_text_L (k + 1)) (ac [] Tryd.f32) (retK S (ref7_text_T) Tryd.f32 [.val (.data (.int .i64))] [.val (.data .str)]) = [] := by kernel_rfl
theorem ref7_text_snd : Snd Tryd.prog S ⟨32, [.val (.data (.int .i64))], [.val (.data .str)], fun x => ref7_text x⟩ :=
  fn_ok progOk (T := (ref7_text_T)) (all_nil) (all_nil) (all_nil) mixed Tryd.func32 rfl (by kernel_rfl) (ac_code [] Tryd.f32 rfl) (L := ref7_text_L)
    (fun n l h x => by cases h) (fun k n l h => by cases h)
    (fun k => All.mem (ref7_text_vc k) trivial) (fun x r h => ⟨0, (ref7_text_eq 0 x).symm.trans h⟩) (by kernel_rfl) (by kernel_rfl) (Nat.le_of_ble_eq_true (by kernel_rfl)) (by kernel_rfl)
/-! ### 33 cotillion/cotillionref7.kid -/
noncomputable def ref7_kid (self_ref7_Print : api_Expr → Option (List UInt8))  (e : api_Expr) (asks : Int) : Option (List UInt8) := (ref7_level e.Kind).bind fun r1 =>
    if r1 < asks then
    (self_ref7_Print (api_Expr.mk e.Kind e.N e.Name e.Kids e.At)).bind fun r2 =>
    if s_lp.length + r2.length ≤ 9223372036854775807 then
    if (s_lp ++ r2).length + s_rp.length ≤ 9223372036854775807 then
    some ((s_lp ++ r2) ++ s_rp) else none else none else
    (self_ref7_Print (api_Expr.mk e.Kind e.N e.Name e.Kids e.At)).bind fun r3 =>
    some r3
noncomputable abbrev ref7_kid_T (self_ref7_Print : api_Expr → Option (List UInt8)) : Tab S := ⟨[⟨30, [.val (.data (.int .i64))], [.val (.data (.int .i64))], fun x => ref7_level x⟩, ⟨16, [.val (.data (.st 0))], [.val (.data .str)], fun x => self_ref7_Print x⟩], [], false, false, none, []⟩
noncomputable def ref7_kid_L (self_ref7_Print : api_Expr → Option (List UInt8)) (k : Nat) : Nat → List (Lab S (List UInt8))
  | _ => []
theorem ref7_kid_eq (self_ref7_Print : api_Expr → Option (List UInt8)) (k : Nat) (e : api_Expr) (asks : Int) : ref7_kid self_ref7_Print e asks = exec S (ref7_kid_T self_ref7_Print) byt (labs S (ref7_kid_T self_ref7_Print) (ref7_kid_L self_ref7_Print k)) (ac [] Tryd.f33) (frame0 S [.val (.data (.st 0)), .val (.data (.int .i64))] (e, asks)) (retK S (ref7_kid_T self_ref7_Print) Tryd.f33 [.val (.data (.st 0)), .val (.data (.int .i64))] [.val (.data .str)]) := by kernel_rfl
theorem ref7_kid_vc (self_ref7_Print : api_Expr → Option (List UInt8)) (k : Nat) : VC S (ref7_kid_T self_ref7_Print) byt (ref7_kid_L self_ref7_Print k) (ref7_kid_L self_ref7_Print (k + 1)) (ac [] Tryd.f33) (retK S (ref7_kid_T self_ref7_Print) Tryd.f33 [.val (.data (.st 0)), .val (.data (.int .i64))] [.val (.data .str)]) = [] := by kernel_rfl
theorem ref7_kid_snd (self_ref7_Print : api_Expr → Option (List UInt8)) (hself_ref7_Print : Snd Tryd.prog S ⟨16, [.val (.data (.st 0))], [.val (.data .str)], fun x => self_ref7_Print x⟩) : Snd Tryd.prog S ⟨33, [.val (.data (.st 0)), .val (.data (.int .i64))], [.val (.data .str)], fun x => ref7_kid self_ref7_Print x.1 x.2⟩ :=
  fn_ok progOk (T := (ref7_kid_T self_ref7_Print)) (all_cons ref7_level_snd (all_cons hself_ref7_Print (all_nil))) (all_nil) (all_nil) mixed Tryd.func33 rfl (by kernel_rfl) (ac_code [] Tryd.f33 rfl) (L := ref7_kid_L self_ref7_Print)
    (fun n l h x => by cases h) (fun k n l h => by cases h)
    (fun k => All.mem (ref7_kid_vc self_ref7_Print k) trivial) (fun x r h => ⟨0, (ref7_kid_eq self_ref7_Print 0 x.1 x.2).symm.trans h⟩) (by kernel_rfl) (by kernel_rfl) (Nat.le_of_ble_eq_true (by kernel_rfl)) (by kernel_rfl)
/-! ### 16 cotillion/cotillionref7.Print -/
noncomputable def ref7_Print_b (self_ref7_Print : api_Expr → Option (List UInt8)) (k : Nat) (e : api_Expr) : Option (List UInt8) := (ref7_level e.Kind).bind fun r1 =>
    if e.Kind = 1 then
    (ref7_Dec e.N).bind fun r2 =>
    some r2 else
    if e.Kind = 2 then
    some e.Name else
    if e.Kind = 3 then
    some s_dollar else
    if e.Kind = 4 then
    if s_in_xcc76e.length + e.Name.length ≤ 9223372036854775807 then
    if (s_in_xcc76e ++ e.Name).length + s_rp.length ≤ 9223372036854775807 then
    some ((s_in_xcc76e ++ e.Name) ++ s_rp) else none else none else
    if e.Kind = 5 then
    if e.Kind = 5 then
    (ref7_text e.Kind).bind fun r3 =>
    if (0 : Int) ≤ 0 then
    if 0 < (e.Kids.length : Int) then
    (ref7_kid self_ref7_Print (e.Kids.getD (0 : Int).toNat api_Expr.z) 6).bind fun r4 =>
    if r3.length + r4.length ≤ 9223372036854775807 then
    some (r3 ++ r4) else none else none else none else
    if r1 = 3 then
    if (0 : Int) ≤ 0 then
    if 0 < (e.Kids.length : Int) then
    (ref7_kid self_ref7_Print (e.Kids.getD (0 : Int).toNat api_Expr.z) 4).bind fun r5 =>
    if r5.length + s_sp.length ≤ 9223372036854775807 then
    (ref7_text e.Kind).bind fun r6 =>
    if (r5 ++ s_sp).length + r6.length ≤ 9223372036854775807 then
    if ((r5 ++ s_sp) ++ r6).length + s_sp.length ≤ 9223372036854775807 then
    if (0 : Int) ≤ 1 then
    if 1 < (e.Kids.length : Int) then
    (ref7_kid self_ref7_Print (e.Kids.getD (1 : Int).toNat api_Expr.z) (w64 (r1 + 1))).bind fun r7 =>
    if (((r5 ++ s_sp) ++ r6) ++ s_sp).length + r7.length ≤ 9223372036854775807 then
    some ((((r5 ++ s_sp) ++ r6) ++ s_sp) ++ r7) else none else none else none else none else none else none else none else none else
    if (0 : Int) ≤ 0 then
    if 0 < (e.Kids.length : Int) then
    (ref7_kid self_ref7_Print (e.Kids.getD (0 : Int).toNat api_Expr.z) r1).bind fun r8 =>
    if r8.length + s_sp.length ≤ 9223372036854775807 then
    (ref7_text e.Kind).bind fun r9 =>
    if (r8 ++ s_sp).length + r9.length ≤ 9223372036854775807 then
    if ((r8 ++ s_sp) ++ r9).length + s_sp.length ≤ 9223372036854775807 then
    if (0 : Int) ≤ 1 then
    if 1 < (e.Kids.length : Int) then
    (ref7_kid self_ref7_Print (e.Kids.getD (1 : Int).toNat api_Expr.z) (w64 (r1 + 1))).bind fun r10 =>
    if (((r8 ++ s_sp) ++ r9) ++ s_sp).length + r10.length ≤ 9223372036854775807 then
    some ((((r8 ++ s_sp) ++ r9) ++ s_sp) ++ r10) else none else none else none else none else none else none else none else none else
    if e.Kind = 6 then
    (ref7_text e.Kind).bind fun r11 =>
    if (0 : Int) ≤ 0 then
    if 0 < (e.Kids.length : Int) then
    (ref7_kid self_ref7_Print (e.Kids.getD (0 : Int).toNat api_Expr.z) 6).bind fun r12 =>
    if r11.length + r12.length ≤ 9223372036854775807 then
    some (r11 ++ r12) else none else none else none else
    if r1 = 3 then
    if (0 : Int) ≤ 0 then
    if 0 < (e.Kids.length : Int) then
    (ref7_kid self_ref7_Print (e.Kids.getD (0 : Int).toNat api_Expr.z) 4).bind fun r13 =>
    if r13.length + s_sp.length ≤ 9223372036854775807 then
    (ref7_text e.Kind).bind fun r14 =>
    if (r13 ++ s_sp).length + r14.length ≤ 9223372036854775807 then
    if ((r13 ++ s_sp) ++ r14).length + s_sp.length ≤ 9223372036854775807 then
    if (0 : Int) ≤ 1 then
    if 1 < (e.Kids.length : Int) then
    (ref7_kid self_ref7_Print (e.Kids.getD (1 : Int).toNat api_Expr.z) (w64 (r1 + 1))).bind fun r15 =>
    if (((r13 ++ s_sp) ++ r14) ++ s_sp).length + r15.length ≤ 9223372036854775807 then
    some ((((r13 ++ s_sp) ++ r14) ++ s_sp) ++ r15) else none else none else none else none else none else none else none else none else
    if (0 : Int) ≤ 0 then
    if 0 < (e.Kids.length : Int) then
    (ref7_kid self_ref7_Print (e.Kids.getD (0 : Int).toNat api_Expr.z) r1).bind fun r16 =>
    if r16.length + s_sp.length ≤ 9223372036854775807 then
    (ref7_text e.Kind).bind fun r17 =>
    if (r16 ++ s_sp).length + r17.length ≤ 9223372036854775807 then
    if ((r16 ++ s_sp) ++ r17).length + s_sp.length ≤ 9223372036854775807 then
    if (0 : Int) ≤ 1 then
    if 1 < (e.Kids.length : Int) then
    (ref7_kid self_ref7_Print (e.Kids.getD (1 : Int).toNat api_Expr.z) (w64 (r1 + 1))).bind fun r18 =>
    if (((r16 ++ s_sp) ++ r17) ++ s_sp).length + r18.length ≤ 9223372036854775807 then
    some ((((r16 ++ s_sp) ++ r17) ++ s_sp) ++ r18) else none else none else none else none else none else none else none else none
noncomputable def ref7_Print_f : Nat → api_Expr → Option (List UInt8)
  | 0, _ => none
  | k + 1, x0 => ref7_Print_b (ref7_Print_f k) k x0
noncomputable def ref7_Print  (e : api_Expr) : Option (List UInt8) := lim (fun k (x : api_Expr) => ref7_Print_f k x) e
noncomputable abbrev ref7_Print_T (self_ref7_Print : api_Expr → Option (List UInt8)) : Tab S := ⟨[⟨30, [.val (.data (.int .i64))], [.val (.data (.int .i64))], fun x => ref7_level x⟩, ⟨31, [.val (.data (.int .i64))], [.val (.data .str)], fun x => ref7_Dec x⟩, ⟨32, [.val (.data (.int .i64))], [.val (.data .str)], fun x => ref7_text x⟩, ⟨33, [.val (.data (.st 0)), .val (.data (.int .i64))], [.val (.data .str)], fun x => ref7_kid self_ref7_Print x.1 x.2⟩], [], false, false, none, []⟩
noncomputable def ref7_Print_L (self_ref7_Print : api_Expr → Option (List UInt8)) (k : Nat) : Nat → List (Lab S (List UInt8))
  | _ => []
theorem ref7_Print_eq (self_ref7_Print : api_Expr → Option (List UInt8)) (k : Nat) (e : api_Expr) : ref7_Print_b self_ref7_Print k e = exec S (ref7_Print_T self_ref7_Print) byt (labs S (ref7_Print_T self_ref7_Print) (ref7_Print_L self_ref7_Print k)) (ac [] Tryd.f16) (frame0 S [.val (.data (.st 0))] e) (retK S (ref7_Print_T self_ref7_Print) Tryd.f16 [.val (.data (.st 0))] [.val (.data .str)]) := by kernel_rfl
theorem ref7_Print_vc (self_ref7_Print : api_Expr → Option (List UInt8)) (k : Nat) : VC S (ref7_Print_T self_ref7_Print) byt (ref7_Print_L self_ref7_Print k) (ref7_Print_L self_ref7_Print (k + 1)) (ac [] Tryd.f16) (retK S (ref7_Print_T self_ref7_Print) Tryd.f16 [.val (.data (.st 0))] [.val (.data .str)]) = [] := by kernel_rfl
theorem ref7_Print_sndk (self_ref7_Print : api_Expr → Option (List UInt8)) (hself : Snd Tryd.prog S ⟨16, [.val (.data (.st 0))], [.val (.data .str)], fun x => self_ref7_Print x⟩) (k : Nat) : Snd Tryd.prog S ⟨16, [.val (.data (.st 0))], [.val (.data .str)], fun x => ref7_Print_b self_ref7_Print k x⟩ :=
  fn_ok progOk (T := (ref7_Print_T self_ref7_Print)) (all_cons ref7_level_snd (all_cons ref7_Dec_snd (all_cons ref7_text_snd (all_cons (ref7_kid_snd self_ref7_Print hself) (all_nil))))) (all_nil) (all_nil) mixed Tryd.func16 rfl (by kernel_rfl) (ac_code [] Tryd.f16 rfl) (L := ref7_Print_L self_ref7_Print)
    (fun n l h x => by cases h) (fun k n l h => by cases h)
    (fun k => All.mem (ref7_Print_vc self_ref7_Print k) trivial) (fun x r h => ⟨k, (ref7_Print_eq self_ref7_Print k x).symm.trans h⟩) (by kernel_rfl) (by kernel_rfl) (Nat.le_of_ble_eq_true (by kernel_rfl)) (by kernel_rfl)
theorem ref7_Print_sndf : ∀ k, Snd Tryd.prog S ⟨16, [.val (.data (.st 0))], [.val (.data .str)], fun x => ref7_Print_f k x⟩
  | 0 => Snd.none ⟨_, Tryd.func16, by kernel_rfl, by kernel_rfl⟩ fun _ => rfl
  | k + 1 => ref7_Print_sndk (ref7_Print_f k) (ref7_Print_sndf k) k
theorem ref7_Print_snd : Snd Tryd.prog S ⟨16, [.val (.data (.st 0))], [.val (.data .str)], fun x => ref7_Print x⟩ := Snd.lim (ref7_Print_sndf)
/-! ### 34 slices.EqualFunc[[]cotillion/api.Expr,[]cotillion/api.Expr,cotillion/api.Expr,cotillion/api.Expr] -/
noncomputable def slices_EqualFunc_api_Expr_api_Expr_api_Expr_api_Expr_l0 : Nat → (List api_Expr) → ((api_Expr × api_Expr) → Option Bool) → (List api_Expr) → Int → Int → Option Bool
  | 0, _, _, _, _, _ => none
  | k + 1, s2, eq, x15, x16, x17 => if x17 < x16 then
    if 0 ≤ x17 then
    if x17 < (x15.length : Int) then
    if 0 ≤ x17 then
    if x17 < (s2.length : Int) then
    (eq (api_Expr.mk ((x15.getD x17.toNat api_Expr.z).Kind) ((x15.getD x17.toNat api_Expr.z).N) ((x15.getD x17.toNat api_Expr.z).Name) ((x15.getD x17.toNat api_Expr.z).Kids) ((x15.getD x17.toNat api_Expr.z).At), api_Expr.mk ((s2.getD x17.toNat api_Expr.z).Kind) ((s2.getD x17.toNat api_Expr.z).N) ((s2.getD x17.toNat api_Expr.z).Name) ((s2.getD x17.toNat api_Expr.z).Kids) ((s2.getD x17.toNat api_Expr.z).At))).bind fun r1 =>
    bif !r1 then
    some false else
    slices_EqualFunc_api_Expr_api_Expr_api_Expr_api_Expr_l0 k s2 eq x15 x16 (w64 (x17 + 1)) else none else none else none else none else
    some true
noncomputable def slices_EqualFunc_api_Expr_api_Expr_api_Expr_api_Expr_f (k : Nat) (s1 : List api_Expr) (s2 : List api_Expr) (eq : (api_Expr × api_Expr) → Option Bool) : Option Bool := if (s1.length : Int) ≠ (s2.length : Int) then
    some false else
    slices_EqualFunc_api_Expr_api_Expr_api_Expr_api_Expr_l0 k s2 eq s1 (s1.length : Int) 0
noncomputable def slices_EqualFunc_api_Expr_api_Expr_api_Expr_api_Expr  (s1 : List api_Expr) (s2 : List api_Expr) (eq : (api_Expr × api_Expr) → Option Bool) : Option Bool := lim (fun k (x : List api_Expr × List api_Expr × ((api_Expr × api_Expr) → Option Bool)) => slices_EqualFunc_api_Expr_api_Expr_api_Expr_api_Expr_f k x.1 x.2.1 x.2.2) (s1, s2, eq)
noncomputable abbrev slices_EqualFunc_api_Expr_api_Expr_api_Expr_api_Expr_T : Tab S := ⟨[], [], false, false, none, []⟩
noncomputable def slices_EqualFunc_api_Expr_api_Expr_api_Expr_api_Expr_L (k : Nat) : Nat → List (Lab S Bool)
  | 0 => [⟨[1, 2, 15, 16, 17], [.val (.data (.sl (.st 0))), .fn [.st 0, .st 0] [.bool], .val (.data (.sl (.st 0))), .val (.data (.int .i64)), .val (.data (.int .i64))], fun x => slices_EqualFunc_api_Expr_api_Expr_api_Expr_api_Expr_l0 k x.1 x.2.1 x.2.2.1 x.2.2.2.1 x.2.2.2.2, false⟩]
  | _ + 1 => []
theorem slices_EqualFunc_api_Expr_api_Expr_api_Expr_api_Expr_eq (k : Nat) (s1 : List api_Expr) (s2 : List api_Expr) (eq : (api_Expr × api_Expr) → Option Bool) : slices_EqualFunc_api_Expr_api_Expr_api_Expr_api_Expr_f k s1 s2 eq = exec S (slices_EqualFunc_api_Expr_api_Expr_api_Expr_api_Expr_T) byt (labs S (slices_EqualFunc_api_Expr_api_Expr_api_Expr_api_Expr_T) (slices_EqualFunc_api_Expr_api_Expr_api_Expr_api_Expr_L k)) (ac [] Tryd.f34) (frame0 S [.val (.data (.sl (.st 0))), .val (.data (.sl (.st 0))), .fn [.st 0, .st 0] [.bool]] (s1, s2, eq)) (retK S (slices_EqualFunc_api_Expr_api_Expr_api_Expr_api_Expr_T) Tryd.f34 [.val (.data (.sl (.st 0))), .val (.data (.sl (.st 0))), .fn [.st 0, .st 0] [.bool]] [.val (.data .bool)]) := by kernel_rfl
theorem slices_EqualFunc_api_Expr_api_Expr_api_Expr_api_Expr_vc (k : Nat) : VC S (slices_EqualFunc_api_Expr_api_Expr_api_Expr_api_Expr_T) byt (slices_EqualFunc_api_Expr_api_Expr_api_Expr_api_Expr_L k) (slices_EqualFunc_api_Expr_api_Expr_api_Expr_api_Expr_L (k + 1)) (ac [] Tryd.f34) (retK S (slices_EqualFunc_api_Expr_api_Expr_api_Expr_api_Expr_T) Tryd.f34 [.val (.data (.sl (.st 0))), .val (.data (.sl (.st 0))), .fn [.st 0, .st 0] [.bool]] [.val (.data .bool)]) = [∀ x : List api_Expr × ((api_Expr × api_Expr) → Option Bool) × List api_Expr × Int × Int, slices_EqualFunc_api_Expr_api_Expr_api_Expr_api_Expr_l0 (k + 1) x.1 x.2.1 x.2.2.1 x.2.2.2.1 x.2.2.2.2 = slices_EqualFunc_api_Expr_api_Expr_api_Expr_api_Expr_l0 (k + 1) x.1 x.2.1 x.2.2.1 x.2.2.2.1 x.2.2.2.2] := by kernel_rfl
theorem slices_EqualFunc_api_Expr_api_Expr_api_Expr_api_Expr_sndk (k : Nat) : Snd Tryd.prog S ⟨34, [.val (.data (.sl (.st 0))), .val (.data (.sl (.st 0))), .fn [.st 0, .st 0] [.bool]], [.val (.data .bool)], fun x => slices_EqualFunc_api_Expr_api_Expr_api_Expr_api_Expr_f k x.1 x.2.1 x.2.2⟩ :=
  fn_ok progOk (T := (slices_EqualFunc_api_Expr_api_Expr_api_Expr_api_Expr_T)) (all_nil) (all_nil) (all_nil) mixed Tryd.func34 rfl (by kernel_rfl) (ac_code [] Tryd.f34 rfl) (L := slices_EqualFunc_api_Expr_api_Expr_api_Expr_api_Expr_L)
    (fun n l h x => by match n, h with
        | 0, h => 
          rcases List.mem_cons.1 h with rfl | h
          · rfl
          cases h
        | _ + 1, h => cases h) (fun k n l h => by match n, h with
        | 0, h => 
          rcases List.mem_cons.1 h with rfl | h
          · rfl
          cases h
        | _ + 1, h => cases h)
    (fun k => All.mem (slices_EqualFunc_api_Expr_api_Expr_api_Expr_api_Expr_vc k) ⟨fun _ => rfl, trivial⟩) (fun x r h => ⟨k, (slices_EqualFunc_api_Expr_api_Expr_api_Expr_api_Expr_eq k x.1 x.2.1 x.2.2).symm.trans h⟩) (by kernel_rfl) (by kernel_rfl) (Nat.le_of_ble_eq_true (by kernel_rfl)) (by kernel_rfl)
theorem slices_EqualFunc_api_Expr_api_Expr_api_Expr_api_Expr_snd : Snd Tryd.prog S ⟨34, [.val (.data (.sl (.st 0))), .val (.data (.sl (.st 0))), .fn [.st 0, .st 0] [.bool]], [.val (.data .bool)], fun x => slices_EqualFunc_api_Expr_api_Expr_api_Expr_api_Expr x.1 x.2.1 x.2.2⟩ := Snd.lim (slices_EqualFunc_api_Expr_api_Expr_api_Expr_api_Expr_sndk)
/-! ### 18 cotillion/expr.Same -/
noncomputable def expr_Same_b (self_expr_Same : api_Expr → api_Expr → Option Bool) (k : Nat) (a : api_Expr) (b : api_Expr) : Option Bool := if a.Kind = b.Kind then
    if a.N = b.N then
    if a.Name = b.Name then
    (slices_EqualFunc_api_Expr_api_Expr_api_Expr_api_Expr a.Kids b.Kids (fun y => self_expr_Same y.1 y.2)).bind fun r1 =>
    some r1 else
    some false else
    some false else
    some false
noncomputable def expr_Same_f : Nat → api_Expr → api_Expr → Option Bool
  | 0, _, _ => none
  | k + 1, x0, x1 => expr_Same_b (expr_Same_f k) k x0 x1
noncomputable def expr_Same  (a : api_Expr) (b : api_Expr) : Option Bool := lim (fun k (x : api_Expr × api_Expr) => expr_Same_f k x.1 x.2) (a, b)
noncomputable abbrev expr_Same_T (self_expr_Same : api_Expr → api_Expr → Option Bool) : Tab S := ⟨[⟨34, [.val (.data (.sl (.st 0))), .val (.data (.sl (.st 0))), .fn [.st 0, .st 0] [.bool]], [.val (.data .bool)], fun x => slices_EqualFunc_api_Expr_api_Expr_api_Expr_api_Expr x.1 x.2.1 x.2.2⟩], [⟨18, [.st 0, .st 0], [], [.bool], fun x c => self_expr_Same x.1 x.2⟩], false, false, none, []⟩
noncomputable def expr_Same_L (self_expr_Same : api_Expr → api_Expr → Option Bool) (k : Nat) : Nat → List (Lab S Bool)
  | _ => []
theorem expr_Same_eq (self_expr_Same : api_Expr → api_Expr → Option Bool) (k : Nat) (a : api_Expr) (b : api_Expr) : expr_Same_b self_expr_Same k a b = exec S (expr_Same_T self_expr_Same) byt (labs S (expr_Same_T self_expr_Same) (expr_Same_L self_expr_Same k)) (ac [] Tryd.f18) (frame0 S [.val (.data (.st 0)), .val (.data (.st 0))] (a, b)) (retK S (expr_Same_T self_expr_Same) Tryd.f18 [.val (.data (.st 0)), .val (.data (.st 0))] [.val (.data .bool)]) := by kernel_rfl
theorem expr_Same_vc (self_expr_Same : api_Expr → api_Expr → Option Bool) (k : Nat) : VC S (expr_Same_T self_expr_Same) byt (expr_Same_L self_expr_Same k) (expr_Same_L self_expr_Same (k + 1)) (ac [] Tryd.f18) (retK S (expr_Same_T self_expr_Same) Tryd.f18 [.val (.data (.st 0)), .val (.data (.st 0))] [.val (.data .bool)]) = [] := by kernel_rfl
theorem expr_Same_sndk (self_expr_Same : api_Expr → api_Expr → Option Bool) (hself : Snd Tryd.prog S ⟨18, [.val (.data (.st 0)), .val (.data (.st 0))], [.val (.data .bool)], fun x => self_expr_Same x.1 x.2⟩) (k : Nat) : Snd Tryd.prog S ⟨18, [.val (.data (.st 0)), .val (.data (.st 0))], [.val (.data .bool)], fun x => expr_Same_b self_expr_Same k x.1 x.2⟩ :=
  fn_ok progOk (T := (expr_Same_T self_expr_Same)) (all_cons slices_EqualFunc_api_Expr_api_Expr_api_Expr_api_Expr_snd (all_nil)) (all_nil) (all_cons (FSnd.of (a := [.st 0, .st 0]) (c := []) (r := [.bool]) hself (fun _ _ z h => ⟨z, h, rfl⟩)) (all_nil)) mixed Tryd.func18 rfl (by kernel_rfl) (ac_code [] Tryd.f18 rfl) (L := expr_Same_L self_expr_Same)
    (fun n l h x => by cases h) (fun k n l h => by cases h)
    (fun k => All.mem (expr_Same_vc self_expr_Same k) trivial) (fun x r h => ⟨k, (expr_Same_eq self_expr_Same k x.1 x.2).symm.trans h⟩) (by kernel_rfl) (by kernel_rfl) (Nat.le_of_ble_eq_true (by kernel_rfl)) (by kernel_rfl)
theorem expr_Same_sndf : ∀ k, Snd Tryd.prog S ⟨18, [.val (.data (.st 0)), .val (.data (.st 0))], [.val (.data .bool)], fun x => expr_Same_f k x.1 x.2⟩
  | 0 => Snd.none ⟨_, Tryd.func18, by kernel_rfl, by kernel_rfl⟩ fun _ => rfl
  | k + 1 => expr_Same_sndk (expr_Same_f k) (expr_Same_sndf k) k
theorem expr_Same_snd : Snd Tryd.prog S ⟨18, [.val (.data (.st 0)), .val (.data (.st 0))], [.val (.data .bool)], fun x => expr_Same x.1 x.2⟩ := Snd.lim (expr_Same_sndf)
/-! ### 4 cotillion/cotillionlaw7.ExprRights -/
noncomputable def law7_ExprRights  (e : api_Expr) : Option Bool := (law7_few (api_Expr.mk e.Kind e.N e.Name e.Kids e.At) 20).bind fun r1 =>
    bif !r1 then
    (law7_known).bind fun r2 =>
    some r2 else
    (ref7_Flat (api_Expr.mk e.Kind e.N e.Name e.Kids e.At) 300).bind fun r3 =>
    if 300 < (r3.length : Int) then
    (law7_known).bind fun r4 =>
    some r4 else
    (expr_Right (api_Expr.mk e.Kind e.N e.Name e.Kids e.At)).bind fun r5 =>
    (ref7_Right (api_Expr.mk e.Kind e.N e.Name e.Kids e.At)).bind fun r6 =>
    if r5 ≠ r6 then
    some false else
    bif !r5 then
    (law7_known).bind fun r7 =>
    some r7 else
    (expr_Print (api_Expr.mk e.Kind e.N e.Name e.Kids e.At)).bind fun r8 =>
    (ref7_Print (api_Expr.mk e.Kind e.N e.Name e.Kids e.At)).bind fun r9 =>
    if r8 ≠ r9 then
    if 16384 < (r8.length : Int) then
    (law7_known).bind fun r10 =>
    some r10 else
    some false else
    if 16384 < (r8.length : Int) then
    if 16384 < (r8.length : Int) then
    (law7_known).bind fun r11 =>
    some r11 else
    some false else
    (law7_read r8).bind fun r12 =>
    bif r12.2 then
    (expr_Same (api_Expr.mk r12.1.Kind r12.1.N r12.1.Name r12.1.Kids r12.1.At) (api_Expr.mk e.Kind e.N e.Name e.Kids e.At)).bind fun r13 =>
    bif r13 then
    (law7_known).bind fun r14 =>
    some r14 else
    some false else
    some false
noncomputable abbrev law7_ExprRights_T : Tab S := ⟨[⟨11, [.val (.data (.st 0)), .val (.data (.int .i64))], [.val (.data .bool)], fun x => law7_few x.1 x.2⟩, ⟨8, [], [.val (.data .bool)], fun x => law7_known⟩, ⟨12, [.val (.data (.st 0)), .val (.data (.int .i64))], [.val (.marr (.int .i64))], fun x => ref7_Flat x.1 x.2⟩, ⟨13, [.val (.data (.st 0))], [.val (.data .bool)], fun x => expr_Right x⟩, ⟨14, [.val (.data (.st 0))], [.val (.data .bool)], fun x => ref7_Right x⟩, ⟨15, [.val (.data (.st 0))], [.val (.data .str)], fun x => expr_Print x⟩, ⟨16, [.val (.data (.st 0))], [.val (.data .str)], fun x => ref7_Print x⟩, ⟨17, [.val (.data .str)], [.val (.data (.st 0)), .val (.data .bool)], fun x => law7_read x⟩, ⟨18, [.val (.data (.st 0)), .val (.data (.st 0))], [.val (.data .bool)], fun x => expr_Same x.1 x.2⟩], [], false, false, none, []⟩
noncomputable def law7_ExprRights_L (k : Nat) : Nat → List (Lab S Bool)
  | _ => []
theorem law7_ExprRights_eq (k : Nat) (e : api_Expr) : law7_ExprRights e = exec S (law7_ExprRights_T) byt (labs S (law7_ExprRights_T) (law7_ExprRights_L k)) (ac [] Tryd.f4) (frame0 S [.val (.data (.st 0))] e) (retK S (law7_ExprRights_T) Tryd.f4 [.val (.data (.st 0))] [.val (.data .bool)]) := by kernel_rfl
theorem law7_ExprRights_vc (k : Nat) : VC S (law7_ExprRights_T) byt (law7_ExprRights_L k) (law7_ExprRights_L (k + 1)) (ac [] Tryd.f4) (retK S (law7_ExprRights_T) Tryd.f4 [.val (.data (.st 0))] [.val (.data .bool)]) = [] := by kernel_rfl
theorem law7_ExprRights_snd : Snd Tryd.prog S ⟨4, [.val (.data (.st 0))], [.val (.data .bool)], fun x => law7_ExprRights x⟩ :=
  fn_ok progOk (T := (law7_ExprRights_T)) (all_cons law7_few_snd (all_cons law7_known_snd (all_cons ref7_Flat_snd (all_cons expr_Right_snd (all_cons ref7_Right_snd (all_cons expr_Print_snd (all_cons ref7_Print_snd (all_cons law7_read_snd (all_cons expr_Same_snd (all_nil)))))))))) (all_nil) (all_nil) mixed Tryd.func4 rfl (by kernel_rfl) (ac_code [] Tryd.f4 rfl) (L := law7_ExprRights_L)
    (fun n l h x => by cases h) (fun k n l h => by cases h)
    (fun k => All.mem (law7_ExprRights_vc k) trivial) (fun x r h => ⟨0, (law7_ExprRights_eq 0 x).symm.trans h⟩) (by kernel_rfl) (by kernel_rfl) (Nat.le_of_ble_eq_true (by kernel_rfl)) (by kernel_rfl)
/-! ### 53 cotillion/cotillionref37.Place -/
noncomputable def ref37_Place  (v : Int) (n : Int) : Option Int := if ¬ n = 0 then
    if (v.tmod n) < 0 then
    some (w64 ((v.tmod n) + n)) else
    some (v.tmod n) else none
noncomputable abbrev ref37_Place_T : Tab S := ⟨[], [], false, false, none, []⟩
noncomputable def ref37_Place_L (k : Nat) : Nat → List (Lab S Int)
  | _ => []
theorem ref37_Place_eq (k : Nat) (v : Int) (n : Int) : ref37_Place v n = exec S (ref37_Place_T) byt (labs S (ref37_Place_T) (ref37_Place_L k)) (ac [] Tryd.f53) (frame0 S [.val (.data (.int .i64)), .val (.data (.int .i64))] (v, n)) (retK S (ref37_Place_T) Tryd.f53 [.val (.data (.int .i64)), .val (.data (.int .i64))] [.val (.data (.int .i64))]) := by kernel_rfl
theorem ref37_Place_vc (k : Nat) : VC S (ref37_Place_T) byt (ref37_Place_L k) (ref37_Place_L (k + 1)) (ac [] Tryd.f53) (retK S (ref37_Place_T) Tryd.f53 [.val (.data (.int .i64)), .val (.data (.int .i64))] [.val (.data (.int .i64))]) = [] := by kernel_rfl
theorem ref37_Place_snd : Snd Tryd.prog S ⟨53, [.val (.data (.int .i64)), .val (.data (.int .i64))], [.val (.data (.int .i64))], fun x => ref37_Place x.1 x.2⟩ :=
  fn_ok progOk (T := (ref37_Place_T)) (all_nil) (all_nil) (all_nil) mixed Tryd.func53 rfl (by kernel_rfl) (ac_code [] Tryd.f53 rfl) (L := ref37_Place_L)
    (fun n l h x => by cases h) (fun k n l h => by cases h)
    (fun k => All.mem (ref37_Place_vc k) trivial) (fun x r h => ⟨0, (ref37_Place_eq 0 x.1 x.2).symm.trans h⟩) (by kernel_rfl) (by kernel_rfl) (Nat.le_of_ble_eq_true (by kernel_rfl)) (by kernel_rfl)
/-! ### 35 (*cotillion/cotillionref37.Row).Next -/
noncomputable def ref37_Row_Next  (r_ : ref37_Row) (n : Int) : Option (Int × ref37_Row) := if (r_.L.length : Int) ≤ r_.At then
    some (0, r_) else
    if 0 ≤ (w64 ((w64 (r_.At + 1)) - 1)) then
    if (w64 ((w64 (r_.At + 1)) - 1)) < (r_.L.length : Int) then
    (ref37_Place (r_.L.getD (w64 ((w64 (r_.At + 1)) - 1)).toNat 0) n).bind fun r1 =>
    some (r1, ref37_Row.mk r_.L (w64 (r_.At + 1))) else none else none
noncomputable abbrev ref37_Row_Next_T : Tab S := ⟨[⟨53, [.val (.data (.int .i64)), .val (.data (.int .i64))], [.val (.data (.int .i64))], fun x => ref37_Place x.1 x.2⟩], [], false, false, none, []⟩
noncomputable def ref37_Row_Next_L (k : Nat) : Nat → List (Lab S (Int × ref37_Row))
  | _ => []
theorem ref37_Row_Next_eq (k : Nat) (r_ : ref37_Row) (n : Int) : ref37_Row_Next r_ n = exec S (ref37_Row_Next_T) byt (labs S (ref37_Row_Next_T) (ref37_Row_Next_L k)) (ac [] Tryd.f35) (frame0 S [.obj [.data (.st 10)], .val (.data (.int .i64))] (r_, n)) (retK S (ref37_Row_Next_T) Tryd.f35 [.obj [.data (.st 10)], .val (.data (.int .i64))] [.val (.data (.int .i64))]) := by kernel_rfl
theorem ref37_Row_Next_vc (k : Nat) : VC S (ref37_Row_Next_T) byt (ref37_Row_Next_L k) (ref37_Row_Next_L (k + 1)) (ac [] Tryd.f35) (retK S (ref37_Row_Next_T) Tryd.f35 [.obj [.data (.st 10)], .val (.data (.int .i64))] [.val (.data (.int .i64))]) = [] := by kernel_rfl
theorem ref37_Row_Next_snd : Snd Tryd.prog S ⟨35, [.obj [.data (.st 10)], .val (.data (.int .i64))], [.val (.data (.int .i64))], fun x => ref37_Row_Next x.1 x.2⟩ :=
  fn_ok progOk (T := (ref37_Row_Next_T)) (all_cons ref37_Place_snd (all_nil)) (all_nil) (all_nil) mixed Tryd.func35 rfl (by kernel_rfl) (ac_code [] Tryd.f35 rfl) (L := ref37_Row_Next_L)
    (fun n l h x => by cases h) (fun k n l h => by cases h)
    (fun k => All.mem (ref37_Row_Next_vc k) trivial) (fun x r h => ⟨0, (ref37_Row_Next_eq 0 x.1 x.2).symm.trans h⟩) (by kernel_rfl) (by kernel_rfl) (Nat.le_of_ble_eq_true (by kernel_rfl)) (by kernel_rfl)
/-! ### 36 cotillion/cotillionref37.pick -/
noncomputable def ref37_pick  (r_ : ref37_Row) (l : List (List UInt8)) (or : List UInt8) : Option (List UInt8 × ref37_Row) := if (l.length : Int) = 0 then
    some (or, r_) else
    (ref37_Row_Next r_ (l.length : Int)).bind fun r1 =>
    if 0 ≤ r1.1 then
    if r1.1 < (l.length : Int) then
    some (l.getD r1.1.toNat [], r1.2) else none else none
noncomputable abbrev ref37_pick_T : Tab S := ⟨[⟨35, [.obj [.data (.st 10)], .val (.data (.int .i64))], [.val (.data (.int .i64))], fun x => ref37_Row_Next x.1 x.2⟩], [], false, false, none, []⟩
noncomputable def ref37_pick_L (k : Nat) : Nat → List (Lab S (List UInt8 × ref37_Row))
  | _ => []
theorem ref37_pick_eq (k : Nat) (r_ : ref37_Row) (l : List (List UInt8)) (or : List UInt8) : ref37_pick r_ l or = exec S (ref37_pick_T) byt (labs S (ref37_pick_T) (ref37_pick_L k)) (ac [] Tryd.f36) (frame0 S [.obj [.data (.st 10)], .val (.data (.sl .str)), .val (.data .str)] (r_, l, or)) (retK S (ref37_pick_T) Tryd.f36 [.obj [.data (.st 10)], .val (.data (.sl .str)), .val (.data .str)] [.val (.data .str)]) := by kernel_rfl
theorem ref37_pick_vc (k : Nat) : VC S (ref37_pick_T) byt (ref37_pick_L k) (ref37_pick_L (k + 1)) (ac [] Tryd.f36) (retK S (ref37_pick_T) Tryd.f36 [.obj [.data (.st 10)], .val (.data (.sl .str)), .val (.data .str)] [.val (.data .str)]) = [] := by kernel_rfl
theorem ref37_pick_snd : Snd Tryd.prog S ⟨36, [.obj [.data (.st 10)], .val (.data (.sl .str)), .val (.data .str)], [.val (.data .str)], fun x => ref37_pick x.1 x.2.1 x.2.2⟩ :=
  fn_ok progOk (T := (ref37_pick_T)) (all_cons ref37_Row_Next_snd (all_nil)) (all_nil) (all_nil) mixed Tryd.func36 rfl (by kernel_rfl) (ac_code [] Tryd.f36 rfl) (L := ref37_pick_L)
    (fun n l h x => by cases h) (fun k n l h => by cases h)
    (fun k => All.mem (ref37_pick_vc k) trivial) (fun x r h => ⟨0, (ref37_pick_eq 0 x.1 x.2.1 x.2.2).symm.trans h⟩) (by kernel_rfl) (by kernel_rfl) (Nat.le_of_ble_eq_true (by kernel_rfl)) (by kernel_rfl)
/-! ### 19 cotillion/cotillionref37.Expr -/
noncomputable def ref37_Expr_c1 (self_ref37_Expr : ref37_Row → ref37_Scope → Int → Option (api_Expr × ref37_Row)) : Nat → (List Int) → Int → Int → (List (List UInt8)) → (List (List UInt8)) → (List (List UInt8)) → (List (List UInt8)) → Int → Int → (List UInt8) → (List api_Expr) → Int → Option (api_Expr × ref37_Row)
  | 0, _, _, _, _, _, _, _, _, _, _, _, _ => none
  | k + 1, r__L, r__At, deep, s_Vars, s_Ports, s_Timers, s_States, x6_Kind, x6_N, x6_Name, x6_Kids, x6_At => (self_ref37_Expr (ref37_Row.mk r__L r__At) (ref37_Scope.mk s_Vars s_Ports s_Timers s_States) (w64 (deep - 1))).bind fun r14 =>
    (ref37_Row_Next r14.2 13).bind fun r15 =>
    (self_ref37_Expr r15.2 (ref37_Scope.mk s_Vars s_Ports s_Timers s_States) (w64 (deep - 1))).bind fun r16 =>
    some (api_Expr.mk (w64 (7 + r15.1)) 0 [] [api_Expr.mk r14.1.Kind r14.1.N r14.1.Name r14.1.Kids r14.1.At, r16.1] 0, r16.2)
noncomputable def ref37_Expr_c0 (self_ref37_Expr : ref37_Row → ref37_Scope → Int → Option (api_Expr × ref37_Row)) : Nat → (List Int) → Int → Int → (List (List UInt8)) → (List (List UInt8)) → (List (List UInt8)) → (List (List UInt8)) → Int → Int → (List UInt8) → (List api_Expr) → Int → Int → Option (api_Expr × ref37_Row)
  | 0, _, _, _, _, _, _, _, _, _, _, _, _, _ => none
  | k + 1, r__L, r__At, deep, s_Vars, s_Ports, s_Timers, s_States, x6_Kind, x6_N, x6_Name, x6_Kids, x6_At, k_ => if k_ < 2 then
    (ref37_Row_Next (ref37_Row.mk r__L r__At) 6).bind fun r2 =>
    if 0 ≤ r2.1 then
    if r2.1 < (row_xe3552.length : Int) then
    some (api_Expr.mk 1 (row_xe3552.getD r2.1.toNat 0) [] [] 0, r2.2) else none else none else
    if k_ = 2 then
    if 0 < (s_Vars.length : Int) then
    (ref37_pick (ref37_Row.mk r__L r__At) s_Vars []).bind fun r3 =>
    some (api_Expr.mk 2 0 r3.1 [] 0, r3.2) else
    if k_ = 3 then
    if 0 < (s_States.length : Int) then
    (ref37_pick (ref37_Row.mk r__L r__At) s_States []).bind fun r4 =>
    some (api_Expr.mk 4 0 r4.1 [] 0, r4.2) else
    if k_ < 6 then
    some (api_Expr.mk 3 0 [] [] 0, ref37_Row.mk r__L r__At) else
    if k_ = 6 then
    (ref37_Row_Next (ref37_Row.mk r__L r__At) 2).bind fun r5 =>
    (self_ref37_Expr r5.2 (ref37_Scope.mk s_Vars s_Ports s_Timers s_States) (w64 (deep - 1))).bind fun r6 =>
    some (api_Expr.mk (w64 (5 + r5.1)) 0 [] [r6.1] 0, r6.2) else
    ref37_Expr_c1 self_ref37_Expr k r__L r__At deep s_Vars s_Ports s_Timers s_States x6_Kind x6_N x6_Name x6_Kids x6_At else
    if k_ < 6 then
    some (api_Expr.mk 3 0 [] [] 0, ref37_Row.mk r__L r__At) else
    if k_ = 6 then
    (ref37_Row_Next (ref37_Row.mk r__L r__At) 2).bind fun r7 =>
    (self_ref37_Expr r7.2 (ref37_Scope.mk s_Vars s_Ports s_Timers s_States) (w64 (deep - 1))).bind fun r8 =>
    some (api_Expr.mk (w64 (5 + r7.1)) 0 [] [r8.1] 0, r8.2) else
    ref37_Expr_c1 self_ref37_Expr k r__L r__At deep s_Vars s_Ports s_Timers s_States x6_Kind x6_N x6_Name x6_Kids x6_At else
    if k_ = 3 then
    if 0 < (s_States.length : Int) then
    (ref37_pick (ref37_Row.mk r__L r__At) s_States []).bind fun r9 =>
    some (api_Expr.mk 4 0 r9.1 [] 0, r9.2) else
    if k_ < 6 then
    some (api_Expr.mk 3 0 [] [] 0, ref37_Row.mk r__L r__At) else
    if k_ = 6 then
    (ref37_Row_Next (ref37_Row.mk r__L r__At) 2).bind fun r10 =>
    (self_ref37_Expr r10.2 (ref37_Scope.mk s_Vars s_Ports s_Timers s_States) (w64 (deep - 1))).bind fun r11 =>
    some (api_Expr.mk (w64 (5 + r10.1)) 0 [] [r11.1] 0, r11.2) else
    ref37_Expr_c1 self_ref37_Expr k r__L r__At deep s_Vars s_Ports s_Timers s_States x6_Kind x6_N x6_Name x6_Kids x6_At else
    if k_ < 6 then
    some (api_Expr.mk 3 0 [] [] 0, ref37_Row.mk r__L r__At) else
    if k_ = 6 then
    (ref37_Row_Next (ref37_Row.mk r__L r__At) 2).bind fun r12 =>
    (self_ref37_Expr r12.2 (ref37_Scope.mk s_Vars s_Ports s_Timers s_States) (w64 (deep - 1))).bind fun r13 =>
    some (api_Expr.mk (w64 (5 + r12.1)) 0 [] [r13.1] 0, r13.2) else
    ref37_Expr_c1 self_ref37_Expr k r__L r__At deep s_Vars s_Ports s_Timers s_States x6_Kind x6_N x6_Name x6_Kids x6_At
noncomputable def ref37_Expr_b (self_ref37_Expr : ref37_Row → ref37_Scope → Int → Option (api_Expr × ref37_Row)) (k : Nat) (r_ : ref37_Row) (s : ref37_Scope) (deep : Int) : Option (api_Expr × ref37_Row) := (ref37_Row_Next r_ 14).bind fun r1 =>
    if deep = 0 then
    if 5 < r1.1 then
    if ¬ (6 : Int) = 0 then
    ref37_Expr_c0 self_ref37_Expr k r1.2.L r1.2.At deep s.Vars s.Ports s.Timers s.States 0 0 [] [] 0 (r1.1.tmod 6) else none else
    ref37_Expr_c0 self_ref37_Expr k r1.2.L r1.2.At deep s.Vars s.Ports s.Timers s.States 0 0 [] [] 0 r1.1 else
    ref37_Expr_c0 self_ref37_Expr k r1.2.L r1.2.At deep s.Vars s.Ports s.Timers s.States 0 0 [] [] 0 r1.1
noncomputable def ref37_Expr_f : Nat → ref37_Row → ref37_Scope → Int → Option (api_Expr × ref37_Row)
  | 0, _, _, _ => none
  | k + 1, x0, x1, x2 => ref37_Expr_b (ref37_Expr_f k) k x0 x1 x2
noncomputable def ref37_Expr  (r_ : ref37_Row) (s : ref37_Scope) (deep : Int) : Option (api_Expr × ref37_Row) := lim (fun k (x : ref37_Row × ref37_Scope × Int) => ref37_Expr_f k x.1 x.2.1 x.2.2) (r_, s, deep)
noncomputable abbrev ref37_Expr_T (self_ref37_Expr : ref37_Row → ref37_Scope → Int → Option (api_Expr × ref37_Row)) : Tab S := ⟨[⟨35, [.obj [.data (.st 10)], .val (.data (.int .i64))], [.val (.data (.int .i64))], fun x => ref37_Row_Next x.1 x.2⟩, ⟨36, [.obj [.data (.st 10)], .val (.data (.sl .str)), .val (.data .str)], [.val (.data .str)], fun x => ref37_pick x.1 x.2.1 x.2.2⟩, ⟨19, [.obj [.data (.st 10)], .val (.data (.st 9)), .val (.data (.int .i64))], [.val (.data (.st 0))], fun x => self_ref37_Expr x.1 x.2.1 x.2.2⟩], [], false, false, none, []⟩
noncomputable def ref37_Expr_L (self_ref37_Expr : ref37_Row → ref37_Scope → Int → Option (api_Expr × ref37_Row)) (k : Nat) : Nat → List (Lab S (api_Expr × ref37_Row))
  | 0 => []
  | 1 => [⟨[0, 2, 4, 6, 7], [.obj [.data (.sl (.int .i64)), .data (.int .i64)], .val (.data (.int .i64)), .obj [.data (.sl .str), .data (.sl .str), .data (.sl .str), .data (.sl .str)], .obj [.data (.int .i64), .data (.int .i64), .data .str, .marr (.st 0), .data (.int .i64)], .val (.data (.int .i64))], fun x => ref37_Expr_c0 self_ref37_Expr k x.1.1 x.1.2 x.2.1 x.2.2.1.1 x.2.2.1.2.1 x.2.2.1.2.2.1 x.2.2.1.2.2.2 x.2.2.2.1.1 x.2.2.2.1.2.1 x.2.2.2.1.2.2.1 x.2.2.2.1.2.2.2.1 x.2.2.2.1.2.2.2.2 x.2.2.2.2, false⟩]
  | 2 => []
  | 3 => [⟨[0, 2, 4, 6], [.obj [.data (.sl (.int .i64)), .data (.int .i64)], .val (.data (.int .i64)), .obj [.data (.sl .str), .data (.sl .str), .data (.sl .str), .data (.sl .str)], .obj [.data (.int .i64), .data (.int .i64), .data .str, .marr (.st 0), .data (.int .i64)]], fun x => ref37_Expr_c1 self_ref37_Expr k x.1.1 x.1.2 x.2.1 x.2.2.1.1 x.2.2.1.2.1 x.2.2.1.2.2.1 x.2.2.1.2.2.2 x.2.2.2.1 x.2.2.2.2.1 x.2.2.2.2.2.1 x.2.2.2.2.2.2.1 x.2.2.2.2.2.2.2, false⟩]
  | _ + 4 => []
theorem ref37_Expr_eq (self_ref37_Expr : ref37_Row → ref37_Scope → Int → Option (api_Expr × ref37_Row)) (k : Nat) (r_ : ref37_Row) (s : ref37_Scope) (deep : Int) : ref37_Expr_b self_ref37_Expr k r_ s deep = exec S (ref37_Expr_T self_ref37_Expr) byt (labs S (ref37_Expr_T self_ref37_Expr) (ref37_Expr_L self_ref37_Expr k)) (ac [2, 4] Tryd.f19) (frame0 S [.obj [.data (.st 10)], .val (.data (.st 9)), .val (.data (.int .i64))] (r_, s, deep)) (retK S (ref37_Expr_T self_ref37_Expr) Tryd.f19 [.obj [.data (.st 10)], .val (.data (.st 9)), .val (.data (.int .i64))] [.val (.data (.st 0))]) := by kernel_rfl
theorem ref37_Expr_vc (self_ref37_Expr : ref37_Row → ref37_Scope → Int → Option (api_Expr × ref37_Row)) (k : Nat) : VC S (ref37_Expr_T self_ref37_Expr) byt (ref37_Expr_L self_ref37_Expr k) (ref37_Expr_L self_ref37_Expr (k + 1)) (ac [2, 4] Tryd.f19) (retK S (ref37_Expr_T self_ref37_Expr) Tryd.f19 [.obj [.data (.st 10)], .val (.data (.st 9)), .val (.data (.int .i64))] [.val (.data (.st 0))]) = [∀ x : (List Int × Int) × Int × (List (List UInt8) × List (List UInt8) × List (List UInt8) × List (List UInt8)) × (Int × Int × List UInt8 × List api_Expr × Int), ref37_Expr_c1 self_ref37_Expr (k + 1) x.1.1 x.1.2 x.2.1 x.2.2.1.1 x.2.2.1.2.1 x.2.2.1.2.2.1 x.2.2.1.2.2.2 x.2.2.2.1 x.2.2.2.2.1 x.2.2.2.2.2.1 x.2.2.2.2.2.2.1 x.2.2.2.2.2.2.2 = ref37_Expr_c1 self_ref37_Expr (k + 1) x.1.1 x.1.2 x.2.1 x.2.2.1.1 x.2.2.1.2.1 x.2.2.1.2.2.1 x.2.2.1.2.2.2 x.2.2.2.1 x.2.2.2.2.1 x.2.2.2.2.2.1 x.2.2.2.2.2.2.1 x.2.2.2.2.2.2.2, ∀ x : (List Int × Int) × Int × (List (List UInt8) × List (List UInt8) × List (List UInt8) × List (List UInt8)) × (Int × Int × List UInt8 × List api_Expr × Int) × Int, ref37_Expr_c0 self_ref37_Expr (k + 1) x.1.1 x.1.2 x.2.1 x.2.2.1.1 x.2.2.1.2.1 x.2.2.1.2.2.1 x.2.2.1.2.2.2 x.2.2.2.1.1 x.2.2.2.1.2.1 x.2.2.2.1.2.2.1 x.2.2.2.1.2.2.2.1 x.2.2.2.1.2.2.2.2 x.2.2.2.2 = ref37_Expr_c0 self_ref37_Expr (k + 1) x.1.1 x.1.2 x.2.1 x.2.2.1.1 x.2.2.1.2.1 x.2.2.1.2.2.1 x.2.2.1.2.2.2 x.2.2.2.1.1 x.2.2.2.1.2.1 x.2.2.2.1.2.2.1 x.2.2.2.1.2.2.2.1 x.2.2.2.1.2.2.2.2 x.2.2.2.2] := by kernel_rfl
theorem ref37_Expr_sndk (self_ref37_Expr : ref37_Row → ref37_Scope → Int → Option (api_Expr × ref37_Row)) (hself : Snd Tryd.prog S ⟨19, [.obj [.data (.st 10)], .val (.data (.st 9)), .val (.data (.int .i64))], [.val (.data (.st 0))], fun x => self_ref37_Expr x.1 x.2.1 x.2.2⟩) (k : Nat) : Snd Tryd.prog S ⟨19, [.obj [.data (.st 10)], .val (.data (.st 9)), .val (.data (.int .i64))], [.val (.data (.st 0))], fun x => ref37_Expr_b self_ref37_Expr k x.1 x.2.1 x.2.2⟩ :=
  fn_ok progOk (T := (ref37_Expr_T self_ref37_Expr)) (all_cons ref37_Row_Next_snd (all_cons ref37_pick_snd (all_cons hself (all_nil)))) (all_nil) (all_nil) mixed Tryd.func19 rfl (by kernel_rfl) (ac_code [2, 4] Tryd.f19 rfl) (L := ref37_Expr_L self_ref37_Expr)
    (fun n l h x => by match n, h with
        | 0, h => cases h
        | 1, h => 
          rcases List.mem_cons.1 h with rfl | h
          · rfl
          cases h
        | 2, h => cases h
        | 3, h => 
          rcases List.mem_cons.1 h with rfl | h
          · rfl
          cases h
        | _ + 4, h => cases h) (fun k n l h => by match n, h with
        | 0, h => cases h
        | 1, h => 
          rcases List.mem_cons.1 h with rfl | h
          · rfl
          cases h
        | 2, h => cases h
        | 3, h => 
          rcases List.mem_cons.1 h with rfl | h
          · rfl
          cases h
        | _ + 4, h => cases h)
    (fun k => All.mem (ref37_Expr_vc self_ref37_Expr k) ⟨fun _ => rfl, ⟨fun _ => rfl, trivial⟩⟩) (fun x r h => ⟨k, (ref37_Expr_eq self_ref37_Expr k x.1 x.2.1 x.2.2).symm.trans h⟩) (by kernel_rfl) (by kernel_rfl) (Nat.le_of_ble_eq_true (by kernel_rfl)) (by kernel_rfl)
theorem ref37_Expr_sndf : ∀ k, Snd Tryd.prog S ⟨19, [.obj [.data (.st 10)], .val (.data (.st 9)), .val (.data (.int .i64))], [.val (.data (.st 0))], fun x => ref37_Expr_f k x.1 x.2.1 x.2.2⟩
  | 0 => Snd.none ⟨_, Tryd.func19, by kernel_rfl, by kernel_rfl⟩ fun _ => rfl
  | k + 1 => ref37_Expr_sndk (ref37_Expr_f k) (ref37_Expr_sndf k) k
theorem ref37_Expr_snd : Snd Tryd.prog S ⟨19, [.obj [.data (.st 10)], .val (.data (.st 9)), .val (.data (.int .i64))], [.val (.data (.st 0))], fun x => ref37_Expr x.1 x.2.1 x.2.2⟩ := Snd.lim (ref37_Expr_sndf)
/-! ### 5 cotillion/cotillionlaw7.ExprBack -/
noncomputable def law7_ExprBack  (v : List Int) : Option Bool := if 200 < (v.length : Int) then
    (law7_known).bind fun r1 =>
    some r1 else
    (ref37_Expr (ref37_Row.mk v 0) (ref37_Scope.mk [s_x, s_y1, s_z_xacb46] [] [] [s_idle, s_waiting]) 6).bind fun r2 =>
    (expr_Print (api_Expr.mk r2.1.Kind r2.1.N r2.1.Name r2.1.Kids r2.1.At)).bind fun r3 =>
    (law7_read r3).bind fun r4 =>
    (ref7_Print (api_Expr.mk r2.1.Kind r2.1.N r2.1.Name r2.1.Kids r2.1.At)).bind fun r5 =>
    if r3 = r5 then
    bif r4.2 then
    (expr_Right (api_Expr.mk r2.1.Kind r2.1.N r2.1.Name r2.1.Kids r2.1.At)).bind fun r6 =>
    bif r6 then
    (expr_Same (api_Expr.mk r4.1.Kind r4.1.N r4.1.Name r4.1.Kids r4.1.At) (api_Expr.mk r2.1.Kind r2.1.N r2.1.Name r2.1.Kids r2.1.At)).bind fun r7 =>
    bif r7 then
    (expr_Right (api_Expr.mk r4.1.Kind r4.1.N r4.1.Name r4.1.Kids r4.1.At)).bind fun r8 =>
    bif r8 then
    (expr_Print (api_Expr.mk r4.1.Kind r4.1.N r4.1.Name r4.1.Kids r4.1.At)).bind fun r9 =>
    if r9 = r3 then
    (law7_known).bind fun r10 =>
    some r10 else
    some false else
    some false else
    some false else
    some false else
    some false else
    some false
noncomputable abbrev law7_ExprBack_T : Tab S := ⟨[⟨8, [], [.val (.data .bool)], fun x => law7_known⟩, ⟨19, [.obj [.data (.st 10)], .val (.data (.st 9)), .val (.data (.int .i64))], [.val (.data (.st 0))], fun x => ref37_Expr x.1 x.2.1 x.2.2⟩, ⟨15, [.val (.data (.st 0))], [.val (.data .str)], fun x => expr_Print x⟩, ⟨17, [.val (.data .str)], [.val (.data (.st 0)), .val (.data .bool)], fun x => law7_read x⟩, ⟨16, [.val (.data (.st 0))], [.val (.data .str)], fun x => ref7_Print x⟩, ⟨13, [.val (.data (.st 0))], [.val (.data .bool)], fun x => expr_Right x⟩, ⟨18, [.val (.data (.st 0)), .val (.data (.st 0))], [.val (.data .bool)], fun x => expr_Same x.1 x.2⟩], [], false, false, none, []⟩
noncomputable def law7_ExprBack_L (k : Nat) : Nat → List (Lab S Bool)
  | _ => []
theorem law7_ExprBack_eq (k : Nat) (v : List Int) : law7_ExprBack v = exec S (law7_ExprBack_T) byt (labs S (law7_ExprBack_T) (law7_ExprBack_L k)) (ac [] Tryd.f5) (frame0 S [.val (.data (.sl (.int .i64)))] v) (retK S (law7_ExprBack_T) Tryd.f5 [.val (.data (.sl (.int .i64)))] [.val (.data .bool)]) := by kernel_rfl
theorem law7_ExprBack_vc (k : Nat) : VC S (law7_ExprBack_T) byt (law7_ExprBack_L k) (law7_ExprBack_L (k + 1)) (ac [] Tryd.f5) (retK S (law7_ExprBack_T) Tryd.f5 [.val (.data (.sl (.int .i64)))] [.val (.data .bool)]) = [] := by kernel_rfl
theorem law7_ExprBack_snd : Snd Tryd.prog S ⟨5, [.val (.data (.sl (.int .i64)))], [.val (.data .bool)], fun x => law7_ExprBack x⟩ :=
  fn_ok progOk (T := (law7_ExprBack_T)) (all_cons law7_known_snd (all_cons ref37_Expr_snd (all_cons expr_Print_snd (all_cons law7_read_snd (all_cons ref7_Print_snd (all_cons expr_Right_snd (all_cons expr_Same_snd (all_nil)))))))) (all_nil) (all_nil) mixed Tryd.func5 rfl (by kernel_rfl) (ac_code [] Tryd.f5 rfl) (L := law7_ExprBack_L)
    (fun n l h x => by cases h) (fun k n l h => by cases h)
    (fun k => All.mem (law7_ExprBack_vc k) trivial) (fun x r h => ⟨0, (law7_ExprBack_eq 0 x).symm.trans h⟩) (by kernel_rfl) (by kernel_rfl) (Nat.le_of_ble_eq_true (by kernel_rfl)) (by kernel_rfl)
/-! ### 6 cotillion/cotillionlaw7.ExprBrackets -/
noncomputable def law7_ExprBrackets_l0 : Nat → Int → Int → Int → (List UInt8) → (List api_Expr) → Int → (List UInt8) → Int → Option Bool
  | 0, _, _, _, _, _, _, _, _ => none
  | k + 1, n, e_Kind, e_N, e_Name, e_Kids, e_At, t, i => if ¬ (4 : Int) = 0 then
    if i < ((w64 n).tmod 4) then
    if s_lp.length + t.length ≤ 9223372036854775807 then
    if (s_lp ++ t).length + s_rp.length ≤ 9223372036854775807 then
    law7_ExprBrackets_l0 k n e_Kind e_N e_Name e_Kids e_At ((s_lp ++ t) ++ s_rp) (w64 (i + 1)) else none else none else
    (law7_read t).bind fun r4 =>
    (expr_Print (api_Expr.mk e_Kind e_N e_Name e_Kids e_At)).bind fun r5 =>
    if s_0_x8c5fc.length + r5.length ≤ 9223372036854775807 then
    if (s_0_x8c5fc ++ r5).length + s_1_x1f2f8.length ≤ 9223372036854775807 then
    (law7_read ((s_0_x8c5fc ++ r5) ++ s_1_x1f2f8)).bind fun r6 =>
    bif r4.2 then
    (expr_Same (api_Expr.mk r4.1.Kind r4.1.N r4.1.Name r4.1.Kids r4.1.At) (api_Expr.mk e_Kind e_N e_Name e_Kids e_At)).bind fun r7 =>
    bif r7 then
    bif r6.2 then
    if r6.1.Kind = 10 then
    if (r6.1.Kids.length : Int) = 2 then
    if (0 : Int) ≤ 1 then
    if 1 < (r6.1.Kids.length : Int) then
    if (((r6.1.Kids.getD (1 : Int).toNat api_Expr.z).Kids).length : Int) = 2 then
    if (0 : Int) ≤ 1 then
    if 1 < (r6.1.Kids.length : Int) then
    if (0 : Int) ≤ 0 then
    if 0 < (((r6.1.Kids.getD (1 : Int).toNat api_Expr.z).Kids).length : Int) then
    (expr_Same (((r6.1.Kids.getD (1 : Int).toNat api_Expr.z).Kids).getD (0 : Int).toNat api_Expr.z) (api_Expr.mk e_Kind e_N e_Name e_Kids e_At)).bind fun r8 =>
    bif r8 then
    (law7_known).bind fun r9 =>
    some r9 else
    some false else none else none else none else none else
    some false else none else none else
    some false else
    some false else
    some false else
    some false else
    some false else none else none else none
noncomputable def law7_ExprBrackets_f (k : Nat) (v : List Int) (n : Int) : Option Bool := if 100 < (v.length : Int) then
    (law7_known).bind fun r1 =>
    some r1 else
    (ref37_Expr (ref37_Row.mk v 0) (ref37_Scope.mk [s_x] [] [] []) 3).bind fun r2 =>
    (expr_Print (api_Expr.mk r2.1.Kind r2.1.N r2.1.Name r2.1.Kids r2.1.At)).bind fun r3 =>
    law7_ExprBrackets_l0 k n r2.1.Kind r2.1.N r2.1.Name r2.1.Kids r2.1.At r3 0
noncomputable def law7_ExprBrackets  (v : List Int) (n : Int) : Option Bool := lim (fun k (x : List Int × Int) => law7_ExprBrackets_f k x.1 x.2) (v, n)
noncomputable abbrev law7_ExprBrackets_T : Tab S := ⟨[⟨8, [], [.val (.data .bool)], fun x => law7_known⟩, ⟨19, [.obj [.data (.st 10)], .val (.data (.st 9)), .val (.data (.int .i64))], [.val (.data (.st 0))], fun x => ref37_Expr x.1 x.2.1 x.2.2⟩, ⟨15, [.val (.data (.st 0))], [.val (.data .str)], fun x => expr_Print x⟩, ⟨17, [.val (.data .str)], [.val (.data (.st 0)), .val (.data .bool)], fun x => law7_read x⟩, ⟨18, [.val (.data (.st 0)), .val (.data (.st 0))], [.val (.data .bool)], fun x => expr_Same x.1 x.2⟩], [], false, false, none, []⟩
noncomputable def law7_ExprBrackets_L (k : Nat) : Nat → List (Lab S Bool)
  | 0 => [⟨[1, 6, 7, 8], [.val (.data (.int .u8)), .obj [.data (.int .i64), .data (.int .i64), .data .str, .data (.sl (.st 0)), .data (.int .i64)], .val (.data .str), .val (.data (.int .i64))], fun x => law7_ExprBrackets_l0 k x.1 x.2.1.1 x.2.1.2.1 x.2.1.2.2.1 x.2.1.2.2.2.1 x.2.1.2.2.2.2 x.2.2.1 x.2.2.2, false⟩]
  | _ + 1 => []
theorem law7_ExprBrackets_eq (k : Nat) (v : List Int) (n : Int) : law7_ExprBrackets_f k v n = exec S (law7_ExprBrackets_T) byt (labs S (law7_ExprBrackets_T) (law7_ExprBrackets_L k)) (ac [] Tryd.f6) (frame0 S [.val (.data (.sl (.int .i64))), .val (.data (.int .u8))] (v, n)) (retK S (law7_ExprBrackets_T) Tryd.f6 [.val (.data (.sl (.int .i64))), .val (.data (.int .u8))] [.val (.data .bool)]) := by kernel_rfl
theorem law7_ExprBrackets_vc (k : Nat) : VC S (law7_ExprBrackets_T) byt (law7_ExprBrackets_L k) (law7_ExprBrackets_L (k + 1)) (ac [] Tryd.f6) (retK S (law7_ExprBrackets_T) Tryd.f6 [.val (.data (.sl (.int .i64))), .val (.data (.int .u8))] [.val (.data .bool)]) = [∀ x : Int × (Int × Int × List UInt8 × List api_Expr × Int) × List UInt8 × Int, law7_ExprBrackets_l0 (k + 1) x.1 x.2.1.1 x.2.1.2.1 x.2.1.2.2.1 x.2.1.2.2.2.1 x.2.1.2.2.2.2 x.2.2.1 x.2.2.2 = law7_ExprBrackets_l0 (k + 1) x.1 x.2.1.1 x.2.1.2.1 x.2.1.2.2.1 x.2.1.2.2.2.1 x.2.1.2.2.2.2 x.2.2.1 x.2.2.2] := by kernel_rfl
theorem law7_ExprBrackets_sndk (k : Nat) : Snd Tryd.prog S ⟨6, [.val (.data (.sl (.int .i64))), .val (.data (.int .u8))], [.val (.data .bool)], fun x => law7_ExprBrackets_f k x.1 x.2⟩ :=
  fn_ok progOk (T := (law7_ExprBrackets_T)) (all_cons law7_known_snd (all_cons ref37_Expr_snd (all_cons expr_Print_snd (all_cons law7_read_snd (all_cons expr_Same_snd (all_nil)))))) (all_nil) (all_nil) mixed Tryd.func6 rfl (by kernel_rfl) (ac_code [] Tryd.f6 rfl) (L := law7_ExprBrackets_L)
    (fun n l h x => by match n, h with
        | 0, h => 
          rcases List.mem_cons.1 h with rfl | h
          · rfl
          cases h
        | _ + 1, h => cases h) (fun k n l h => by match n, h with
        | 0, h => 
          rcases List.mem_cons.1 h with rfl | h
          · rfl
          cases h
        | _ + 1, h => cases h)
    (fun k => All.mem (law7_ExprBrackets_vc k) ⟨fun _ => rfl, trivial⟩) (fun x r h => ⟨k, (law7_ExprBrackets_eq k x.1 x.2).symm.trans h⟩) (by kernel_rfl) (by kernel_rfl) (Nat.le_of_ble_eq_true (by kernel_rfl)) (by kernel_rfl)
theorem law7_ExprBrackets_snd : Snd Tryd.prog S ⟨6, [.val (.data (.sl (.int .i64))), .val (.data (.int .u8))], [.val (.data .bool)], fun x => law7_ExprBrackets x.1 x.2⟩ := Snd.lim (law7_ExprBrackets_sndk)
/-! ### 20 cotillion/cotillionref7.Same -/
noncomputable def ref7_Same_l0 (self_ref7_Same : api_Expr → api_Expr → Option Bool) : Nat → Int → Int → (List UInt8) → (List api_Expr) → Int → Int → Int → (List UInt8) → (List api_Expr) → Int → Int → Option Bool
  | 0, _, _, _, _, _, _, _, _, _, _, _ => none
  | k + 1, a_Kind, a_N, a_Name, a_Kids, a_At, b_Kind, b_N, b_Name, b_Kids, b_At, i => if i < (a_Kids.length : Int) then
    if 0 ≤ i then
    if i < (a_Kids.length : Int) then
    if 0 ≤ i then
    if i < (b_Kids.length : Int) then
    (self_ref7_Same (a_Kids.getD i.toNat api_Expr.z) (b_Kids.getD i.toNat api_Expr.z)).bind fun r1 =>
    bif !r1 then
    some false else
    ref7_Same_l0 self_ref7_Same k a_Kind a_N a_Name a_Kids a_At b_Kind b_N b_Name b_Kids b_At (w64 (i + 1)) else none else none else none else none else
    some true
noncomputable def ref7_Same_b (self_ref7_Same : api_Expr → api_Expr → Option Bool) (k : Nat) (a : api_Expr) (b : api_Expr) : Option Bool := if a.Kind ≠ b.Kind then
    some false else
    if a.N ≠ b.N then
    some false else
    if a.Name ≠ b.Name then
    some false else
    if (a.Kids.length : Int) ≠ (b.Kids.length : Int) then
    some false else
    ref7_Same_l0 self_ref7_Same k a.Kind a.N a.Name a.Kids a.At b.Kind b.N b.Name b.Kids b.At 0
noncomputable def ref7_Same_f : Nat → api_Expr → api_Expr → Option Bool
  | 0, _, _ => none
  | k + 1, x0, x1 => ref7_Same_b (ref7_Same_f k) k x0 x1
noncomputable def ref7_Same  (a : api_Expr) (b : api_Expr) : Option Bool := lim (fun k (x : api_Expr × api_Expr) => ref7_Same_f k x.1 x.2) (a, b)
noncomputable abbrev ref7_Same_T (self_ref7_Same : api_Expr → api_Expr → Option Bool) : Tab S := ⟨[⟨20, [.val (.data (.st 0)), .val (.data (.st 0))], [.val (.data .bool)], fun x => self_ref7_Same x.1 x.2⟩], [], false, false, none, []⟩
noncomputable def ref7_Same_L (self_ref7_Same : api_Expr → api_Expr → Option Bool) (k : Nat) : Nat → List (Lab S Bool)
  | 0 => [⟨[2, 3, 5], [.obj [.data (.int .i64), .data (.int .i64), .data .str, .data (.sl (.st 0)), .data (.int .i64)], .obj [.data (.int .i64), .data (.int .i64), .data .str, .data (.sl (.st 0)), .data (.int .i64)], .val (.data (.int .i64))], fun x => ref7_Same_l0 self_ref7_Same k x.1.1 x.1.2.1 x.1.2.2.1 x.1.2.2.2.1 x.1.2.2.2.2 x.2.1.1 x.2.1.2.1 x.2.1.2.2.1 x.2.1.2.2.2.1 x.2.1.2.2.2.2 x.2.2, false⟩]
  | _ + 1 => []
theorem ref7_Same_eq (self_ref7_Same : api_Expr → api_Expr → Option Bool) (k : Nat) (a : api_Expr) (b : api_Expr) : ref7_Same_b self_ref7_Same k a b = exec S (ref7_Same_T self_ref7_Same) byt (labs S (ref7_Same_T self_ref7_Same) (ref7_Same_L self_ref7_Same k)) (ac [] Tryd.f20) (frame0 S [.val (.data (.st 0)), .val (.data (.st 0))] (a, b)) (retK S (ref7_Same_T self_ref7_Same) Tryd.f20 [.val (.data (.st 0)), .val (.data (.st 0))] [.val (.data .bool)]) := by kernel_rfl
theorem ref7_Same_vc (self_ref7_Same : api_Expr → api_Expr → Option Bool) (k : Nat) : VC S (ref7_Same_T self_ref7_Same) byt (ref7_Same_L self_ref7_Same k) (ref7_Same_L self_ref7_Same (k + 1)) (ac [] Tryd.f20) (retK S (ref7_Same_T self_ref7_Same) Tryd.f20 [.val (.data (.st 0)), .val (.data (.st 0))] [.val (.data .bool)]) = [∀ x : (Int × Int × List UInt8 × List api_Expr × Int) × (Int × Int × List UInt8 × List api_Expr × Int) × Int, ref7_Same_l0 self_ref7_Same (k + 1) x.1.1 x.1.2.1 x.1.2.2.1 x.1.2.2.2.1 x.1.2.2.2.2 x.2.1.1 x.2.1.2.1 x.2.1.2.2.1 x.2.1.2.2.2.1 x.2.1.2.2.2.2 x.2.2 = ref7_Same_l0 self_ref7_Same (k + 1) x.1.1 x.1.2.1 x.1.2.2.1 x.1.2.2.2.1 x.1.2.2.2.2 x.2.1.1 x.2.1.2.1 x.2.1.2.2.1 x.2.1.2.2.2.1 x.2.1.2.2.2.2 x.2.2] := by kernel_rfl
theorem ref7_Same_sndk (self_ref7_Same : api_Expr → api_Expr → Option Bool) (hself : Snd Tryd.prog S ⟨20, [.val (.data (.st 0)), .val (.data (.st 0))], [.val (.data .bool)], fun x => self_ref7_Same x.1 x.2⟩) (k : Nat) : Snd Tryd.prog S ⟨20, [.val (.data (.st 0)), .val (.data (.st 0))], [.val (.data .bool)], fun x => ref7_Same_b self_ref7_Same k x.1 x.2⟩ :=
  fn_ok progOk (T := (ref7_Same_T self_ref7_Same)) (all_cons hself (all_nil)) (all_nil) (all_nil) mixed Tryd.func20 rfl (by kernel_rfl) (ac_code [] Tryd.f20 rfl) (L := ref7_Same_L self_ref7_Same)
    (fun n l h x => by match n, h with
        | 0, h => 
          rcases List.mem_cons.1 h with rfl | h
          · rfl
          cases h
        | _ + 1, h => cases h) (fun k n l h => by match n, h with
        | 0, h => 
          rcases List.mem_cons.1 h with rfl | h
          · rfl
          cases h
        | _ + 1, h => cases h)
    (fun k => All.mem (ref7_Same_vc self_ref7_Same k) ⟨fun _ => rfl, trivial⟩) (fun x r h => ⟨k, (ref7_Same_eq self_ref7_Same k x.1 x.2).symm.trans h⟩) (by kernel_rfl) (by kernel_rfl) (Nat.le_of_ble_eq_true (by kernel_rfl)) (by kernel_rfl)
theorem ref7_Same_sndf : ∀ k, Snd Tryd.prog S ⟨20, [.val (.data (.st 0)), .val (.data (.st 0))], [.val (.data .bool)], fun x => ref7_Same_f k x.1 x.2⟩
  | 0 => Snd.none ⟨_, Tryd.func20, by kernel_rfl, by kernel_rfl⟩ fun _ => rfl
  | k + 1 => ref7_Same_sndk (ref7_Same_f k) (ref7_Same_sndf k) k
theorem ref7_Same_snd : Snd Tryd.prog S ⟨20, [.val (.data (.st 0)), .val (.data (.st 0))], [.val (.data .bool)], fun x => ref7_Same x.1 x.2⟩ := Snd.lim (ref7_Same_sndf)
/-! ### 7 cotillion/cotillionlaw7.ExprSame -/
noncomputable def law7_ExprSame_c0 : Nat → (List Int) → (List Int) → Int → Int → (List UInt8) → (List api_Expr) → Int → Int → Int → (List UInt8) → (List api_Expr) → Int → Option Bool
  | 0, _, _, _, _, _, _, _, _, _, _, _, _ => none
  | k + 1, v, w, a_Kind, a_N, a_Name, a_Kids, a_At, b_Kind, b_N, b_Name, b_Kids, b_At => (ref37_Expr (ref37_Row.mk v 0) (ref37_Scope.mk [s_x, s_y] [] [] []) 2).bind fun r7 =>
    (ref37_Expr (ref37_Row.mk w 0) (ref37_Scope.mk [s_x, s_y] [] [] []) 2).bind fun r8 =>
    (expr_Same (api_Expr.mk a_Kind a_N a_Name a_Kids a_At) (api_Expr.mk b_Kind b_N b_Name b_Kids b_At)).bind fun r9 =>
    (ref7_Same (api_Expr.mk a_Kind a_N a_Name a_Kids a_At) (api_Expr.mk b_Kind b_N b_Name b_Kids b_At)).bind fun r10 =>
    if r9 = r10 then
    (expr_Same (api_Expr.mk a_Kind a_N a_Name a_Kids a_At) (api_Expr.mk a_Kind a_N a_Name a_Kids a_At)).bind fun r11 =>
    bif r11 then
    (expr_Same (api_Expr.mk r7.1.Kind r7.1.N r7.1.Name r7.1.Kids r7.1.At) (api_Expr.mk r8.1.Kind r8.1.N r8.1.Name r8.1.Kids r8.1.At)).bind fun r12 =>
    (ref7_Same (api_Expr.mk r7.1.Kind r7.1.N r7.1.Name r7.1.Kids r7.1.At) (api_Expr.mk r8.1.Kind r8.1.N r8.1.Name r8.1.Kids r8.1.At)).bind fun r13 =>
    if r12 = r13 then
    (expr_Same (api_Expr.mk r7.1.Kind r7.1.N r7.1.Name r7.1.Kids r7.1.At) (api_Expr.mk r8.1.Kind r8.1.N r8.1.Name r8.1.Kids r8.1.At)).bind fun r14 =>
    (expr_Print (api_Expr.mk r7.1.Kind r7.1.N r7.1.Name r7.1.Kids r7.1.At)).bind fun r15 =>
    (expr_Print (api_Expr.mk r8.1.Kind r8.1.N r8.1.Name r8.1.Kids r8.1.At)).bind fun r16 =>
    if r14 = (decide (r15 = r16)) then
    (law7_known).bind fun r17 =>
    some r17 else
    some false else
    some false else
    some false else
    some false
noncomputable def law7_ExprSame_f (k : Nat) (a : api_Expr) (b : api_Expr) (v : List Int) (w : List Int) : Option Bool := (law7_few (api_Expr.mk a.Kind a.N a.Name a.Kids a.At) 12).bind fun r1 =>
    bif !r1 then
    (law7_known).bind fun r2 =>
    some r2 else
    (law7_few (api_Expr.mk b.Kind b.N b.Name b.Kids b.At) 12).bind fun r3 =>
    bif !r3 then
    (law7_known).bind fun r4 =>
    some r4 else
    if 60 < (v.length : Int) then
    (law7_known).bind fun r5 =>
    some r5 else
    if 60 < (w.length : Int) then
    (law7_known).bind fun r6 =>
    some r6 else
    law7_ExprSame_c0 k v w a.Kind a.N a.Name a.Kids a.At b.Kind b.N b.Name b.Kids b.At
noncomputable def law7_ExprSame  (a : api_Expr) (b : api_Expr) (v : List Int) (w : List Int) : Option Bool := lim (fun k (x : api_Expr × api_Expr × List Int × List Int) => law7_ExprSame_f k x.1 x.2.1 x.2.2.1 x.2.2.2) (a, b, v, w)
noncomputable abbrev law7_ExprSame_T : Tab S := ⟨[⟨11, [.val (.data (.st 0)), .val (.data (.int .i64))], [.val (.data .bool)], fun x => law7_few x.1 x.2⟩, ⟨8, [], [.val (.data .bool)], fun x => law7_known⟩, ⟨19, [.obj [.data (.st 10)], .val (.data (.st 9)), .val (.data (.int .i64))], [.val (.data (.st 0))], fun x => ref37_Expr x.1 x.2.1 x.2.2⟩, ⟨18, [.val (.data (.st 0)), .val (.data (.st 0))], [.val (.data .bool)], fun x => expr_Same x.1 x.2⟩, ⟨20, [.val (.data (.st 0)), .val (.data (.st 0))], [.val (.data .bool)], fun x => ref7_Same x.1 x.2⟩, ⟨15, [.val (.data (.st 0))], [.val (.data .str)], fun x => expr_Print x⟩], [], false, false, none, []⟩
noncomputable def law7_ExprSame_L (k : Nat) : Nat → List (Lab S Bool)
  | 0 => []
  | 1 => [⟨[2, 3, 4, 5], [.val (.data (.sl (.int .i64))), .val (.data (.sl (.int .i64))), .obj [.data (.int .i64), .data (.int .i64), .data .str, .data (.sl (.st 0)), .data (.int .i64)], .obj [.data (.int .i64), .data (.int .i64), .data .str, .data (.sl (.st 0)), .data (.int .i64)]], fun x => law7_ExprSame_c0 k x.1 x.2.1 x.2.2.1.1 x.2.2.1.2.1 x.2.2.1.2.2.1 x.2.2.1.2.2.2.1 x.2.2.1.2.2.2.2 x.2.2.2.1 x.2.2.2.2.1 x.2.2.2.2.2.1 x.2.2.2.2.2.2.1 x.2.2.2.2.2.2.2, false⟩]
  | _ + 2 => []
theorem law7_ExprSame_eq (k : Nat) (a : api_Expr) (b : api_Expr) (v : List Int) (w : List Int) : law7_ExprSame_f k a b v w = exec S (law7_ExprSame_T) byt (labs S (law7_ExprSame_T) (law7_ExprSame_L k)) (ac [1] Tryd.f7) (frame0 S [.val (.data (.st 0)), .val (.data (.st 0)), .val (.data (.sl (.int .i64))), .val (.data (.sl (.int .i64)))] (a, b, v, w)) (retK S (law7_ExprSame_T) Tryd.f7 [.val (.data (.st 0)), .val (.data (.st 0)), .val (.data (.sl (.int .i64))), .val (.data (.sl (.int .i64)))] [.val (.data .bool)]) := by kernel_rfl
theorem law7_ExprSame_vc (k : Nat) : VC S (law7_ExprSame_T) byt (law7_ExprSame_L k) (law7_ExprSame_L (k + 1)) (ac [1] Tryd.f7) (retK S (law7_ExprSame_T) Tryd.f7 [.val (.data (.st 0)), .val (.data (.st 0)), .val (.data (.sl (.int .i64))), .val (.data (.sl (.int .i64)))] [.val (.data .bool)]) = [∀ x : List Int × List Int × (Int × Int × List UInt8 × List api_Expr × Int) × (Int × Int × List UInt8 × List api_Expr × Int), law7_ExprSame_c0 (k + 1) x.1 x.2.1 x.2.2.1.1 x.2.2.1.2.1 x.2.2.1.2.2.1 x.2.2.1.2.2.2.1 x.2.2.1.2.2.2.2 x.2.2.2.1 x.2.2.2.2.1 x.2.2.2.2.2.1 x.2.2.2.2.2.2.1 x.2.2.2.2.2.2.2 = law7_ExprSame_c0 (k + 1) x.1 x.2.1 x.2.2.1.1 x.2.2.1.2.1 x.2.2.1.2.2.1 x.2.2.1.2.2.2.1 x.2.2.1.2.2.2.2 x.2.2.2.1 x.2.2.2.2.1 x.2.2.2.2.2.1 x.2.2.2.2.2.2.1 x.2.2.2.2.2.2.2] := by kernel_rfl
theorem law7_ExprSame_sndk (k : Nat) : Snd Tryd.prog S ⟨7, [.val (.data (.st 0)), .val (.data (.st 0)), .val (.data (.sl (.int .i64))), .val (.data (.sl (.int .i64)))], [.val (.data .bool)], fun x => law7_ExprSame_f k x.1 x.2.1 x.2.2.1 x.2.2.2⟩ :=
  fn_ok progOk (T := (law7_ExprSame_T)) (all_cons law7_few_snd (all_cons law7_known_snd (all_cons ref37_Expr_snd (all_cons expr_Same_snd (all_cons ref7_Same_snd (all_cons expr_Print_snd (all_nil))))))) (all_nil) (all_nil) mixed Tryd.func7 rfl (by kernel_rfl) (ac_code [1] Tryd.f7 rfl) (L := law7_ExprSame_L)
    (fun n l h x => by match n, h with
        | 0, h => cases h
        | 1, h => 
          rcases List.mem_cons.1 h with rfl | h
          · rfl
          cases h
        | _ + 2, h => cases h) (fun k n l h => by match n, h with
        | 0, h => cases h
        | 1, h => 
          rcases List.mem_cons.1 h with rfl | h
          · rfl
          cases h
        | _ + 2, h => cases h)
    (fun k => All.mem (law7_ExprSame_vc k) ⟨fun _ => rfl, trivial⟩) (fun x r h => ⟨k, (law7_ExprSame_eq k x.1 x.2.1 x.2.2.1 x.2.2.2).symm.trans h⟩) (by kernel_rfl) (by kernel_rfl) (Nat.le_of_ble_eq_true (by kernel_rfl)) (by kernel_rfl)
theorem law7_ExprSame_snd : Snd Tryd.prog S ⟨7, [.val (.data (.st 0)), .val (.data (.st 0)), .val (.data (.sl (.int .i64))), .val (.data (.sl (.int .i64)))], [.val (.data .bool)], fun x => law7_ExprSame x.1 x.2.1 x.2.2.1 x.2.2.2⟩ := Snd.lim (law7_ExprSame_sndk)
end Go.Sy.Ex
/-! The start of a call: the package variables. -/
namespace Go.Sy.Ex
open Go Go.Sy Go.Proofs Go.Proofs.YtakpokjdemielaaDoor
abbrev L7 : List (String × DataW Unit) := [("math/bits.deBruijn32tab", Rows.laid_math_bits_deBruijn32tab), ("math/bits.deBruijn64tab", Rows.laid_math_bits_deBruijn64tab), ("internal/strconv.uint64pow10", Rows.laid_internal_strconv_uint64pow10), ("strconv.ErrRange", Rows.laid_strconv_ErrRange), ("strconv.ErrSyntax", Rows.laid_strconv_ErrSyntax)]
theorem gER : Tryd.prog.globalNamed "strconv.ErrRange" = some 3 := by kernel_rfl
theorem gES : Tryd.prog.globalNamed "strconv.ErrSyntax" = some 2 := by kernel_rfl
theorem tER : (Tryd.prog.globals[3]?).map (·.type) = some 93 := by kernel_rfl
theorem tES : (Tryd.prog.globals[2]?).map (·.type) = some 93 := by kernel_rfl
theorem star : "*" ++ "errors.errorString" = "*errors.errorString" := by decide
theorem rowE (u : TypeId) (h : Tryd.prog.typeName? 3 u = some "*errors.errorString") : u = 140 :=
  typeName_ptr_named (nm := "errors.errorString") (by rw [star]; kernel_rfl) (by kernel_rfl) (by decide) u (by rw [star]; exact h)
theorem gPT : Tryd.prog.globalNamed "internal/strconv.uint64pow10" = some 1 := by kernel_rfl
theorem tPT : (Tryd.prog.globals[1]?).map (·.type) = some 130 := by kernel_rfl
theorem maxLen_cell {W : World} (h : W.ShapedOpen Tryd.prog) : ∃ m, W.cell? ⟨0, 0, none⟩ = some (.int .i64 m) :=
  cell_of_shapedOpen_int (t := 3) (zero := #[.int .i64 0]) h (of_decide_eq_true (by kernel_rfl)) (by kernel_rfl) rfl (by kernel_rfl) (by kernel_rfl) Tryd.underlying3
theorem glob0 {W : World} {M : St} (hM : NoSt M) (hL : laidMetH Tryd.prog L7 W) (hsh : W.ShapedOpen Tryd.prog) : Glob S W M := by
  rw [MakeChecks.laidMetH_plain _ _ _ (by kernel_rfl)] at hL
  have hT : Lib.TabIs Tryd.prog W "internal/strconv.uint64pow10" .u64 Lib.pow10Tab := Lib.tabIs_of_head gPT tPT Tryd.underlying130 Tryd.underlying117 (by kernel_rfl) (by kernel_rfl) hL.tail.tail
  obtain ⟨a0, s0, hv0, -, -, -⟩ := laid_sentinel hL.tail.tail.tail gER tER Tryd.underlying93 rowE Tryd.underlying140 Tryd.underlying142 rfl rfl Tryd.underlying9 (by kernel_rfl) (by kernel_rfl)
  have c1 := World.var?_cell gER hv0 0
  obtain ⟨a1, s1, hv1, -, -, -⟩ := laid_sentinel hL.tail.tail.tail.tail gES tES Tryd.underlying93 rowE Tryd.underlying140 Tryd.underlying142 rfl rfl Tryd.underlying9 (by kernel_rfl) (by kernel_rfl)
  have c0 := World.var?_cell gES hv1 0
  obtain ⟨m, c3⟩ := maxLen_cell hsh
  refine ⟨fun g hg => ?_, fun g hg => ?_⟩
  · simp only [List.mem_cons, List.not_mem_nil, or_false] at hg
    rcases hg with rfl | rfl | rfl
    · exact ⟨World.block_lt_of_cell? _ _ c3, hM _ _, _, c3, m, rfl⟩
    · exact ⟨World.block_lt_of_cell? _ _ (by simpa using c1), hM _ _, _, by simpa using c1, .inr ⟨_, _, rfl⟩⟩
    · exact ⟨World.block_lt_of_cell? _ _ (by simpa using c0), hM _ _, _, by simpa using c0, .inr ⟨_, _, rfl⟩⟩
  · simp only [List.mem_cons, List.not_mem_nil, or_false] at hg
    subst hg
    unfold Lib.TabIs World.var? at hT
    rw [gPT] at hT
    simp only [Option.bind_some] at hT
    split at hT
    · rename_i cs t f hb
      cases hT
      exact ⟨(Array.getElem?_eq_some_iff.1 hb).1, fun o => hM _ _, _, hb, t, f, rfl⟩
    · cases hT
end Go.Sy.Ex
namespace Go.Sy.Ex
open Go Go.Sy Go.Proofs Go.Proofs.YtakpokjdemielaaDoor Go.ChangeShapes Go.WideShapes Go.RowKit
/-- A contract under a condition on the memory, the world's shape kept. -/
theorem returns_and_shaped {H : Type} {enc : TypeId × Value → H} {a : Assume} {C : Checked} {os : Os} {f : FuncId} {fn : Func} {s : ChangeSpec} {conds : List PathCond} {apart fresh handsOn again : Bool} {X : World → Array Value → Prop}
    (hX : ∀ (w w' : World) (args : Array Value), w.heap = w'.heap → X w args → X w' args)
    (own : ownKnob C.prog.godebug = none) (started : os.Started) (noInit : C.prog.inits.idxOf? f = none) (hfn : C.prog.funcs[f]? = some fn)
    (witness : ∃ (w : World) (tape : Tape) (i : Input), w.os = os ∧ (w.forCall tape i).Shaped C.prog ∧ i.vars = [] ∧ Input.okWide C.prog (w.forCall tape i) .any w.heap.size f i ∧
      ((s.pre enc C.prog fn conds apart (w.forCall tape i).memory i.args ∧ X (w.forCall tape i).memory i.args) ∧ sizedMet enc C.prog fn (OpenSpec.ofChange s) apart (w.forCall tape i).memory i.args) ∧ a.holds C.prog (lone (Frame.enter C.prog f i.args .normal) [] (w.forCall tape i)))
    (contract : ∀ (W : World) (base : Nat) (args : Array Value) (ds gs : List (DataW H)) (before : List MemPlace),
      (∀ (j : Nat) t v, fn.params[j]? = some t → args[j]? = some v → Value.okWide C.prog W .any base t v) →
      DataW.Whole enc C.prog fn.params.toList s.vars apart W args.toList ds gs before →
      conds.all (PathCond.test C.prog ⟨fn.params.toList, ds, s.plain.varTypes C.prog, gs⟩) = true →
      (DataW.weightsEach C.prog (fn.params.toList ++ s.plain.varTypes C.prog) (ds ++ gs)).all (· ≤ reachBytes) = true → X W args → W.ShapedOpen C.prog →
      a.holds C.prog (lone (Frame.enter C.prog f args .normal) [] W) →
      Calls C.prog f args W fun e W' => ∃ v, e = .returned v ∧ s.post enc C.prog fn apart fresh handsOn again W args v W') :
    ReturnsInHanded a C os f .any (fun w args => (s.pre enc C.prog fn conds apart w args ∧ X w args) ∧ sizedMet enc C.prog fn (OpenSpec.ofChange s) apart w args) (s.post enc C.prog fn apart fresh handsOn again) := by
  refine returnsInHanded_of_calls own started noInit witness ?_
  intro w tape i _ hsh _ hok hpre hholds
  obtain ⟨_, _, _, fn', hfn', _, _, _, _, hval⟩ := hok
  have e : fn' = fn := Option.some.inj (hfn'.symm.trans hfn)
  subst e
  obtain ⟨⟨⟨ds, gs, before, hw, hc⟩, hx⟩, hz⟩ := hpre
  have hw' := DataW.Whole.of_heap (w' := w.forCall tape i) (by rfl) hw
  refine (contract (w.forCall tape i) w.heap.size i.args ds gs before hval hw' hc (hz.weights hw) (hX _ _ _ (by rfl) hx) hsh hholds).mono fun e W' ⟨v, he, hp⟩ => ?_
  subst he
  exact ChangeSpec.post_blind hp
set_option maxRecDepth 100000 in
theorem door_met (os : Os) (args : Array Value) : laidMetH Tryd.prog L7 ((World.laidAll Tryd.prog os L7).forCall (fun _ _ => 0) ⟨#[], args, []⟩).memory := by
  rw [MakeChecks.laidMetH_plain _ _ _ (by kernel_rfl)]
  exact laidMet_laidAll _ (by kernel_rfl) (by kernel_rfl)
end Go.Sy.Ex
