import Derived.Shelf.Strings.Builder1
import Derived.Shelf.Strings.Builder2
import Derived.Shelf.Small.Strs
import Derived.Shelf.Strings.BuilderF
import Derived.Shelf.Strings.BuilderK
import Derived.Shelf.Strings.Builder2Cap
import Derived.Shelf.Strconv.Itoa0
import Derived.Shelf.Strconv.Itoa1
import Derived.Shelf.LaysM
import Derived.Shelf.Strconv.Itoa2
import Derived.Shelf.Strconv.Itoa3
import Derived.Shelf.Strconv.Itoa4
import Derived.Shelf.Strconv.ParseIntEmpty
import Derived.Shelf.Strconv.Clone
import Derived.Shelf.Strconv.SyntaxError
import Derived.Shelf.LaysC
import Derived.Shelf.Strconv.ToError
import Derived.Shelf.Strconv.Lower
import Derived.Shelf.Strconv.ParseUint10
import Derived.Shelf.Strconv.ParseUint10Empty
import Derived.Shelf.Strconv.ParseUint10Any
import Derived.Shelf.Strconv.ParseInt10
import Derived.Shelf.Strconv.RangeError
import Derived.Shelf.Strconv.ToErrorRange
import Derived.Shelf.Strconv.ParseUintEmpty
import Derived.Shelf.Strconv.ParseUint10b64
import Derived.Shelf.Strconv.ParseUint10b32
import Derived.Shelf.Strconv.ParseUint10b16
import Derived.Shelf.Strconv.ParseUint10b8
import Derived.Shelf.Strconv.ParseUint10At
import Derived.Shelf.Strconv.ParseInt10At64
import Derived.Shelf.Strconv.ParseInt10At32
import Derived.Shelf.Strconv.ParseInt10At16
import Derived.Shelf.Strconv.ParseInt10At8
import Derived.Shelf.Strconv.ParseInt10All
import Derived.Shelf.Strconv.ParseIntPublic10
import Derived.Shelf.Strings.Search1
import Derived.Shelf.Strings.Search2
import Derived.Shelf.Strings.Search3
import Derived.Shelf.Strings.Shaped
import Derived.Shelf.Strings.Prefix
import Derived.Shelf.Bits.Mul64
import Derived.Shelf.Strings.Repeat
import Derived.Lib.ItoaMem
import Derived.Test.YtabknfplmamfmaaGreatDoorProg
import Derived.Test.YtabknfplmamfmaaGreatDoorSc
set_option linter.unusedVariables false
set_option linter.unusedSimpArgs false
/-
 DERIVED: THE SHELF's CONTRACTS AT THIS DUMP, IN PLAIN WORDS (tools/lay-plain.mjs out of 'XAcL.lean', which tools/lay-shelf.mjs wrote): THE SAME DECLARATIONS UNDER THE SAME NAMES: 'import', 'namespace', 'open', 'def', 'theorem' AND NOTHING ELSE: no command of the shelf's: FOR A HAND-IN. Each laying: the table of numbers ('.._ren') and one theorem, a field a fact of the dump's own or the kernel's comparison; each contract: ONE APPLICATION.
-/
namespace Go.Proofs
open Go.Shelf
def Tryz.lays137_ren : Go.Shelf.Ren := ⟨fun | 137 => 69 | 217 => 98 | 266 => 118 | n => n, fun | 9 => 9 | 5 => 5 | 3 => 3 | n => n, fun | n => n⟩
theorem Tryz.lays137 : Go.Proofs.Lays.n137 Tryz.prog Tryz.lays137_ren := {
 mixed := by kernel_rfl
 f137 := Tryz.func69.trans (congrArg some (by kernel_rfl))
 f217 := Tryz.func98.trans (congrArg some (by kernel_rfl))
 f266 := Tryz.func118.trans (congrArg some (by kernel_rfl))
 t3 := Tryz.underlying3
 a3 := Tryz.isAgg3
 z3 := Tryz.sizeOf3
 v3 := Tryz.zeroValue3
 t5 := Tryz.underlying5
 a5 := Tryz.isAgg5
 z5 := Tryz.sizeOf5
 v5 := Tryz.zeroValue5
 t9 := Tryz.underlying9
 a9 := Tryz.isAgg9
 z9 := Tryz.sizeOf9
 v9 := Tryz.zeroValue9 }
open Go.RowKit in
theorem Tryz.strings_IndexByte (s : ByteArray) (c : Int) (w : World) :
 Calls Tryz.prog 69 #[.string s, .int .u8 c] w fun e w' => e = .returned (.int .i64 (Lib.indexByte s.data.toList c.toNat.toUInt8)) ∧ w' = w := Any.strings_IndexByte Tryz.lays137 s c w
def Tryz.lays144_ren : Go.Shelf.Ren := ⟨fun | 144 => 100 | 143 => 121 | 219 => 142 | 217 => 98 | 225 => 155 | 224 => 156 | 267 => 157 | 266 => 118 | 314 => 168 | n => n, fun | 9 => 9 | 4 => 4 | 3 => 3 | 5 => 5 | 46 => 139 | 146 => 155 | 51 => 154 | n => n, fun | 1 => 0 | n => n⟩
theorem Tryz.lays144 : Go.Proofs.Lays.n144 Tryz.prog Tryz.lays144_ren := {
 mixed := by kernel_rfl
 f143 := Tryz.func121.trans (congrArg some (by kernel_rfl))
 f144 := Tryz.func100.trans (congrArg some (by kernel_rfl))
 f217 := Tryz.func98.trans (congrArg some (by kernel_rfl))
 f219 := Tryz.func142.trans (congrArg some (by kernel_rfl))
 f224 := Tryz.func156.trans (congrArg some (by kernel_rfl))
 f225 := Tryz.func155.trans (congrArg some (by kernel_rfl))
 f266 := Tryz.func118.trans (congrArg some (by kernel_rfl))
 f267 := Tryz.func157.trans (congrArg some (by kernel_rfl))
 f314 := Tryz.func168.trans (congrArg some (by kernel_rfl))
 t3 := Tryz.underlying3
 a3 := Tryz.isAgg3
 z3 := Tryz.sizeOf3
 v3 := Tryz.zeroValue3
 t4 := Tryz.underlying4
 a4 := Tryz.isAgg4
 z4 := Tryz.sizeOf4
 v4 := Tryz.zeroValue4
 t5 := Tryz.underlying5
 a5 := Tryz.isAgg5
 z5 := Tryz.sizeOf5
 v5 := Tryz.zeroValue5
 t9 := Tryz.underlying9
 a9 := Tryz.isAgg9
 z9 := Tryz.sizeOf9
 v9 := Tryz.zeroValue9
 t46 := Tryz.underlying139
 a46 := Tryz.isAgg139
 z46 := Tryz.sizeOf139
 v46 := Tryz.zeroValue139
 t51 := Tryz.underlying154
 a51 := Tryz.isAgg154
 z51 := Tryz.sizeOf154
 v51 := Tryz.zeroValue154
 t146 := Tryz.underlying155
 a146 := Tryz.isAgg155
 z146 := Tryz.sizeOf155
 v146 := Tryz.zeroValue155
 g1 := by kernel_rfl }
open Go.RowKit Go.Lib in
theorem Tryz.strings_Contains (s sub : ByteArray) (m : Int) (w : World) (hs : s.size < 4294967281) (hm : w.cell? ⟨0, 0, none⟩ = some (.int .i64 m)) :
 Calls Tryz.prog 100 #[.string s, .string sub] w fun e w' => e = .returned (.bool (Lib.contains s.data.toList sub.data.toList)) ∧ w' = w := Any.strings_Contains Tryz.lays144 s sub m w hs hm
def Tryz.laysC174_ren : Go.Shelf.Ren := ⟨fun | 174 => 99 | 247 => 119 | 245 => 120 | 287 => 137 | 279 => 138 | 280 => 139 | 281 => 140 | 282 => 141 | 321 => 151 | 322 => 152 | 316 => 153 | 171 => 110 | 205 => 154 | 243 => 131 | 246 => 146 | 283 => 158 | 284 => 159 | 285 => 160 | 286 => 161 | 129 => 170 | 317 => 169 | 318 => 171 | 319 => 172 | 320 => 173 | 337 => 176 | 338 => 177 | n => n, fun | 9 => 9 | 3 => 3 | 2 => 2 | 75 => 117 | 85 => 134 | 4 => 4 | 167 => 169 | 5 => 5 | 53 => 157 | 175 => 170 | 46 => 139 | 168 => 172 | 37 => 79 | 0 => 0 | 210 => 187 | 21 => 21 | 127 => 122 | 145 => 199 | 143 => 197 | 171 => 190 | 173 => 193 | 212 => 202 | 51 => 154 | 20 => 20 | 213 => 203 | 232 => 206 | 233 => 207 | 80 => 83 | n => n, fun | 15 => 1 | 16 => 2 | 17 => 3 | 18 => 4 | 19 => 5 | n => n⟩
theorem Tryz.laysC174 : Go.Proofs.LaysC.n174 Tryz.prog Tryz.laysC174_ren := {
 mixed := by kernel_rfl
 f129 := Tryz.func170.trans (congrArg some (by kernel_rfl))
 f171 := Tryz.func110.trans (congrArg some (by kernel_rfl))
 f174 := Tryz.func99.trans (congrArg some (by kernel_rfl))
 f205 := Tryz.func154.trans (congrArg some (by kernel_rfl))
 f243 := Tryz.func131.trans (congrArg some (by kernel_rfl))
 f245 := Tryz.func120.trans (congrArg some (by kernel_rfl))
 f246 := Tryz.func146.trans (congrArg some (by kernel_rfl))
 f247 := Tryz.func119.trans (congrArg some (by kernel_rfl))
 f279 := Tryz.func138.trans (congrArg some (by kernel_rfl))
 f280 := Tryz.func139.trans (congrArg some (by kernel_rfl))
 f281 := Tryz.func140.trans (congrArg some (by kernel_rfl))
 f282 := Tryz.func141.trans (congrArg some (by kernel_rfl))
 f283 := Tryz.func158.trans (congrArg some (by kernel_rfl))
 f284 := Tryz.func159.trans (congrArg some (by kernel_rfl))
 f285 := Tryz.func160.trans (congrArg some (by kernel_rfl))
 f286 := Tryz.func161.trans (congrArg some (by kernel_rfl))
 f287 := Tryz.func137.trans (congrArg some (by kernel_rfl))
 f316 := Tryz.func153.trans (congrArg some (by kernel_rfl))
 f317 := Tryz.func169.trans (congrArg some (by kernel_rfl))
 f318 := Tryz.func171.trans (congrArg some (by kernel_rfl))
 f319 := Tryz.func172.trans (congrArg some (by kernel_rfl))
 f320 := Tryz.func173.trans (congrArg some (by kernel_rfl))
 f321 := Tryz.func151.trans (congrArg some (by kernel_rfl))
 f322 := Tryz.func152.trans (congrArg some (by kernel_rfl))
 f337 := Tryz.func176.trans (congrArg some (by kernel_rfl))
 f338 := Tryz.func177.trans (congrArg some (by kernel_rfl))
 t0 := Tryz.underlying0
 a0 := Tryz.isAgg0
 z0 := Tryz.sizeOf0
 v0 := Tryz.zeroValue0
 t2 := Tryz.underlying2
 a2 := Tryz.isAgg2
 z2 := Tryz.sizeOf2
 v2 := Tryz.zeroValue2
 t3 := Tryz.underlying3
 a3 := Tryz.isAgg3
 z3 := Tryz.sizeOf3
 v3 := Tryz.zeroValue3
 t4 := Tryz.underlying4
 a4 := Tryz.isAgg4
 z4 := Tryz.sizeOf4
 v4 := Tryz.zeroValue4
 t5 := Tryz.underlying5
 a5 := Tryz.isAgg5
 z5 := Tryz.sizeOf5
 v5 := Tryz.zeroValue5
 t9 := Tryz.underlying9
 a9 := Tryz.isAgg9
 z9 := Tryz.sizeOf9
 v9 := Tryz.zeroValue9
 t20 := Tryz.underlying20
 a20 := Tryz.isAgg20
 z20 := Tryz.sizeOf20
 v20 := Tryz.zeroValue20
 t21 := Tryz.underlying21
 a21 := Tryz.isAgg21
 z21 := Tryz.sizeOf21
 v21 := Tryz.zeroValue21
 t37 := Tryz.underlying79
 a37 := Tryz.isAgg79
 z37 := Tryz.sizeOf79
 v37 := Tryz.zeroValue79
 t46 := Tryz.underlying139
 a46 := Tryz.isAgg139
 z46 := Tryz.sizeOf139
 v46 := Tryz.zeroValue139
 t51 := Tryz.underlying154
 a51 := Tryz.isAgg154
 z51 := Tryz.sizeOf154
 v51 := Tryz.zeroValue154
 t53 := Tryz.underlying157
 a53 := Tryz.isAgg157
 z53 := Tryz.sizeOf157
 v53 := Tryz.zeroValue157
 t75 := Tryz.underlying117
 a75 := Tryz.isAgg117
 z75 := Tryz.sizeOf117
 v75 := Tryz.zeroValue117
 t85 := Tryz.underlying134
 a85 := Tryz.isAgg134
 z85 := Tryz.sizeOf134
 v85 := Tryz.zeroValue134
 t127 := Tryz.underlying122
 a127 := Tryz.isAgg122
 z127 := Tryz.sizeOf122
 v127 := Tryz.zeroValue122
 t143 := Tryz.underlying197
 a143 := Tryz.isAgg197
 z143 := Tryz.sizeOf197
 v143 := Tryz.zeroValue197
 t145 := Tryz.underlying199
 a145 := Tryz.isAgg199
 z145 := Tryz.sizeOf199
 v145 := Tryz.zeroValue199
 t167 := Tryz.underlying169
 a167 := Tryz.isAgg169
 z167 := Tryz.sizeOf169
 v167 := Tryz.zeroValue169
 t168 := Tryz.underlying172
 a168 := Tryz.isAgg172
 z168 := Tryz.sizeOf172
 v168 := Tryz.zeroValue172
 t171 := Tryz.underlying190
 a171 := Tryz.isAgg190
 z171 := Tryz.sizeOf190
 v171 := Tryz.zeroValue190
 t173 := Tryz.underlying193
 a173 := Tryz.isAgg193
 z173 := Tryz.sizeOf193
 v173 := Tryz.zeroValue193
 t175 := Tryz.underlying170
 a175 := Tryz.isAgg170
 z175 := Tryz.sizeOf170
 v175 := Tryz.zeroValue170
 t210 := Tryz.underlying187
 a210 := Tryz.isAgg187
 z210 := Tryz.sizeOf187
 v210 := Tryz.zeroValue187
 t212 := Tryz.underlying202
 a212 := Tryz.isAgg202
 z212 := Tryz.sizeOf202
 v212 := Tryz.zeroValue202
 t213 := Tryz.underlying203
 a213 := Tryz.isAgg203
 z213 := Tryz.sizeOf203
 t232 := Tryz.underlying206
 a232 := Tryz.isAgg206
 z232 := Tryz.sizeOf206
 v232 := Tryz.zeroValue206
 t233 := Tryz.underlying207
 a233 := Tryz.isAgg207
 z233 := Tryz.sizeOf207
 v233 := Tryz.zeroValue207
 g15 := by kernel_rfl
 g16 := by kernel_rfl
 g17 := by kernel_rfl
 g18 := by kernel_rfl
 g19 := by kernel_rfl
 t80 := Tryz.underlying83
 a80 := Tryz.isAgg83
 z80 := Tryz.sizeOf83
 v80 := Tryz.zeroValue83
 i0 := by kernel_rfl
 i2 := by kernel_rfl
 i3 := by kernel_rfl
 i4 := by kernel_rfl
 i5 := by kernel_rfl
 i9 := by kernel_rfl
 i20 := by kernel_rfl
 i21 := by kernel_rfl
 i37 := by kernel_rfl
 i46 := by kernel_rfl
 i51 := by kernel_rfl
 i53 := by kernel_rfl
 i75 := by kernel_rfl
 i80 := by kernel_rfl
 i85 := by kernel_rfl
 i127 := by kernel_rfl
 i143 := by kernel_rfl
 i145 := by kernel_rfl
 i167 := by kernel_rfl
 i168 := by kernel_rfl
 i171 := by kernel_rfl
 i173 := by kernel_rfl
 i175 := by kernel_rfl
 i210 := by kernel_rfl
 i212 := by kernel_rfl
 i232 := by kernel_rfl
 i233 := by kernel_rfl
 m15 := by kernel_rfl
 m16 := by kernel_rfl
 m17 := by kernel_rfl
 m18 := by kernel_rfl
 m19 := by kernel_rfl
 c0 := by kernel_rfl
 c2 := by kernel_rfl
 c3 := by kernel_rfl
 c4 := by kernel_rfl
 c5 := by kernel_rfl
 c9 := by kernel_rfl
 c20 := by kernel_rfl
 c21 := by kernel_rfl
 c37 := by kernel_rfl
 c46 := by kernel_rfl
 c51 := by kernel_rfl
 c53 := by kernel_rfl
 c75 := by kernel_rfl
 c80 := by kernel_rfl
 c85 := by kernel_rfl
 c127 := by kernel_rfl
 c143 := by kernel_rfl
 c145 := by kernel_rfl
 c167 := by kernel_rfl
 c168 := by kernel_rfl
 c171 := by kernel_rfl
 c173 := by kernel_rfl
 c175 := by kernel_rfl
 c210 := by kernel_rfl
 c212 := by kernel_rfl
 c213 := by kernel_rfl
 c232 := by kernel_rfl
 c233 := by kernel_rfl }
open Go.RowKit in
theorem Tryz.strconv_ParseInt_10_at64_ok (s : ByteArray) (hmax : s.size ≤ 9223372036854775806) (v : Int) (h : Lib.parseIntB 64 s.data.toList = .ok v) (w : World) :
 Calls Tryz.prog 99 #[.string s, .int .i64 10, .int .i64 64] w fun e w' => e = .returned (.tuple #[.int .i64 v, .nilIface]) ∧ (w' = w ∨ ∃ t, w' = Lib.bytesWorld w 5 t) := Any.strconv_ParseInt_10_at64_ok Tryz.laysC174 s hmax v h w
open Go.RowKit in
theorem Tryz.strconv_ParseInt_10_at64_range (s : ByteArray) (hlim : s.size ≤ 281474976710656) (h : Lib.parseIntB 64 s.data.toList = .range) (ev : Value) (w : World) (hv : w.cell? ⟨2, 0, none⟩ = some ev) (hev : ev = .nilIface ∨ ∃ te pe, ev = .iface te pe) :
 Calls Tryz.prog 99 #[.string s, .int .i64 10, .int .i64 64] w fun e w' => ∃ N, e = .returned (.tuple #[.int .i64 (Lib.intSat 64 s.data.toList), .iface 172 (.pointer (some ⟨N, 0, none⟩))]) ∧ w.heap.size ≤ N ∧ w'.heap[N]? = some (.cells #[.string ⟨#[80, 97, 114, 115, 101, 73, 110, 116]⟩, .string s, ev] 187 (0, 0)) ∧ Below w.heap.size w w' := Any.strconv_ParseInt_10_at64_range Tryz.laysC174 s hlim h ev w hv hev
def Tryz.laysM173_ren : Go.Shelf.Ren := ⟨fun | 173 => 145 | 246 => 146 | 283 => 158 | 284 => 159 | 285 => 160 | 286 => 161 | 129 => 170 | 317 => 169 | 318 => 171 | 319 => 172 | 320 => 173 | 337 => 176 | 338 => 177 | n => n, fun | 2 => 2 | 3 => 3 | 9 => 9 | 4 => 4 | 171 => 190 | 0 => 0 | 53 => 157 | 37 => 79 | 5 => 5 | 173 => 193 | 212 => 202 | 51 => 154 | 20 => 20 | 213 => 203 | 46 => 139 | 232 => 206 | 233 => 207 | n => n, fun | 17 => 3 | 18 => 4 | 19 => 5 | n => n⟩
theorem Tryz.laysM173 : Go.Proofs.LaysM.n173 Tryz.prog Tryz.laysM173_ren := {
 mixed := by kernel_rfl
 f129 := Tryz.func170.trans (congrArg some (by kernel_rfl))
 f173 := Tryz.func145.trans (congrArg some (by kernel_rfl))
 f246 := Tryz.func146.trans (congrArg some (by kernel_rfl))
 f283 := Tryz.func158.trans (congrArg some (by kernel_rfl))
 f284 := Tryz.func159.trans (congrArg some (by kernel_rfl))
 f285 := Tryz.func160.trans (congrArg some (by kernel_rfl))
 f286 := Tryz.func161.trans (congrArg some (by kernel_rfl))
 f317 := Tryz.func169.trans (congrArg some (by kernel_rfl))
 f318 := Tryz.func171.trans (congrArg some (by kernel_rfl))
 f319 := Tryz.func172.trans (congrArg some (by kernel_rfl))
 f320 := Tryz.func173.trans (congrArg some (by kernel_rfl))
 f337 := Tryz.func176.trans (congrArg some (by kernel_rfl))
 f338 := Tryz.func177.trans (congrArg some (by kernel_rfl))
 t0 := Tryz.underlying0
 a0 := Tryz.isAgg0
 z0 := Tryz.sizeOf0
 v0 := Tryz.zeroValue0
 t2 := Tryz.underlying2
 a2 := Tryz.isAgg2
 z2 := Tryz.sizeOf2
 v2 := Tryz.zeroValue2
 t3 := Tryz.underlying3
 a3 := Tryz.isAgg3
 z3 := Tryz.sizeOf3
 v3 := Tryz.zeroValue3
 t4 := Tryz.underlying4
 a4 := Tryz.isAgg4
 z4 := Tryz.sizeOf4
 v4 := Tryz.zeroValue4
 t5 := Tryz.underlying5
 a5 := Tryz.isAgg5
 z5 := Tryz.sizeOf5
 v5 := Tryz.zeroValue5
 t9 := Tryz.underlying9
 a9 := Tryz.isAgg9
 z9 := Tryz.sizeOf9
 v9 := Tryz.zeroValue9
 t20 := Tryz.underlying20
 a20 := Tryz.isAgg20
 z20 := Tryz.sizeOf20
 v20 := Tryz.zeroValue20
 t37 := Tryz.underlying79
 a37 := Tryz.isAgg79
 z37 := Tryz.sizeOf79
 v37 := Tryz.zeroValue79
 t46 := Tryz.underlying139
 a46 := Tryz.isAgg139
 z46 := Tryz.sizeOf139
 v46 := Tryz.zeroValue139
 t51 := Tryz.underlying154
 a51 := Tryz.isAgg154
 z51 := Tryz.sizeOf154
 v51 := Tryz.zeroValue154
 t53 := Tryz.underlying157
 a53 := Tryz.isAgg157
 z53 := Tryz.sizeOf157
 v53 := Tryz.zeroValue157
 t171 := Tryz.underlying190
 a171 := Tryz.isAgg190
 z171 := Tryz.sizeOf190
 v171 := Tryz.zeroValue190
 t173 := Tryz.underlying193
 a173 := Tryz.isAgg193
 z173 := Tryz.sizeOf193
 v173 := Tryz.zeroValue193
 t212 := Tryz.underlying202
 a212 := Tryz.isAgg202
 z212 := Tryz.sizeOf202
 v212 := Tryz.zeroValue202
 t213 := Tryz.underlying203
 a213 := Tryz.isAgg203
 z213 := Tryz.sizeOf203
 t232 := Tryz.underlying206
 a232 := Tryz.isAgg206
 z232 := Tryz.sizeOf206
 v232 := Tryz.zeroValue206
 t233 := Tryz.underlying207
 a233 := Tryz.isAgg207
 z233 := Tryz.sizeOf207
 v233 := Tryz.zeroValue207
 g17 := by kernel_rfl
 g18 := by kernel_rfl
 g19 := by kernel_rfl
 i0 := by kernel_rfl
 i2 := by kernel_rfl
 i3 := by kernel_rfl
 i4 := by kernel_rfl
 i5 := by kernel_rfl
 i9 := by kernel_rfl
 i20 := by kernel_rfl
 i37 := by kernel_rfl
 i46 := by kernel_rfl
 i51 := by kernel_rfl
 i53 := by kernel_rfl
 i171 := by kernel_rfl
 i173 := by kernel_rfl
 i212 := by kernel_rfl
 i232 := by kernel_rfl
 i233 := by kernel_rfl
 m17 := by kernel_rfl
 m18 := by kernel_rfl
 m19 := by kernel_rfl }
open Go.RowKit Go.Sort Go.Lib in
theorem Tryz.strconv_FormatInt_10 (n : Int) (h0 : -9223372036854775808 ≤ n) (h1 : n ≤ 9223372036854775807) (w : World) (htab : Lib.TabIs Tryz.prog w "internal/strconv.uint64pow10" .u64 Lib.pow10Tab) :
 Calls Tryz.prog 145 #[.int .i64 n, .int .i64 10] w fun e w' => e = .returned (.string ⟨(Lib.itoa n).toArray⟩) ∧ ∃ k os, w' = grow (w.drewN k) os := Any.strconv_FormatInt_10 Tryz.laysM173 n h0 h1 w htab
def Tryz.lays169_ren : Go.Shelf.Ren := ⟨fun | 169 => 42 | n => n, fun | 70 => 78 | 9 => 9 | 0 => 0 | 72 => 81 | 37 => 79 | 127 => 122 | 3 => 3 | 5 => 5 | n => n, fun | n => n⟩
theorem Tryz.lays169 : Go.Proofs.Lays.n169 Tryz.prog Tryz.lays169_ren := {
 mixed := by kernel_rfl
 f169 := Tryz.func42.trans (congrArg some (by kernel_rfl))
 t0 := Tryz.underlying0
 a0 := Tryz.isAgg0
 z0 := Tryz.sizeOf0
 v0 := Tryz.zeroValue0
 t3 := Tryz.underlying3
 a3 := Tryz.isAgg3
 z3 := Tryz.sizeOf3
 v3 := Tryz.zeroValue3
 t9 := Tryz.underlying9
 a9 := Tryz.isAgg9
 z9 := Tryz.sizeOf9
 v9 := Tryz.zeroValue9
 t37 := Tryz.underlying79
 a37 := Tryz.isAgg79
 z37 := Tryz.sizeOf79
 v37 := Tryz.zeroValue79
 t70 := Tryz.underlying78
 a70 := Tryz.isAgg78
 z70 := Tryz.sizeOf78
 v70 := Tryz.zeroValue78
 t72 := Tryz.underlying81
 a72 := Tryz.isAgg81
 z72 := Tryz.sizeOf81
 v72 := Tryz.zeroValue81
 t127 := Tryz.underlying122
 a127 := Tryz.isAgg122
 z127 := Tryz.sizeOf122
 v127 := Tryz.zeroValue122 }
theorem Tryz.Builder_Extra_169 : Builder.Extra Tryz.prog Tryz.lays169_ren := {
 sizeBuilder := by kernel_rfl
 liesBuilder := by kernel_rfl
 t5 := Tryz.underlying5
 a5 := Tryz.isAgg5
 z5 := Tryz.sizeOf5
 v5 := Tryz.zeroValue5
 infoByte := by kernel_rfl
 cellsByte := by kernel_rfl
 sizeByte := by kernel_rfl
 neB5 := by decide }
open Go.RowKit in
theorem Tryz.Builder_String_k (B b : Nat) (l : List UInt8) (w : World) (h : Lib.IsBuilderF 81 5 B b (Lib.byteCells l) w) (h0 : l ≠ []) :
 Calls Tryz.prog 42 #[.pointer (some ⟨b, 0, none⟩)] w fun e w' => e = .returned (.string ⟨l.toArray⟩) ∧ (Lib.IsBuilderF 81 5 B b (Lib.byteCells l) w' ∧ Below B w w' ∧ Lib.OthersKept 5 (some b) w w') := Any.Builder_String_k Tryz.lays169 Tryz.Builder_Extra_169 B b l w h h0
def Tryz.lays105_ren : Go.Shelf.Ren := ⟨fun | 105 => 79 | 212 => 105 | 99 => 106 | 165 => 107 | 166 => 78 | 170 => 108 | 169 => 42 | 263 => 126 | 264 => 127 | 206 => 128 | 240 => 104 | 241 => 129 | 276 => 125 | 277 => 144 | n => n, fun | 9 => 9 | 3 => 3 | 4 => 4 | 20 => 20 | 0 => 0 | 46 => 139 | 109 => 140 | 5 => 5 | 72 => 81 | 76 => 118 | 51 => 154 | 146 => 155 | 53 => 157 | 148 => 158 | 70 => 78 | 37 => 79 | 75 => 117 | 127 => 122 | 164 => 152 | 80 => 83 | n => n, fun | n => n⟩
theorem Tryz.lays105 : Go.Proofs.Lays.n105 Tryz.prog Tryz.lays105_ren := {
 mixed := by kernel_rfl
 f99 := Tryz.func106.trans (congrArg some (by kernel_rfl))
 f105 := Tryz.func79.trans (congrArg some (by kernel_rfl))
 f165 := Tryz.func107.trans (congrArg some (by kernel_rfl))
 f166 := Tryz.func78.trans (congrArg some (by kernel_rfl))
 f169 := Tryz.func42.trans (congrArg some (by kernel_rfl))
 f170 := Tryz.func108.trans (congrArg some (by kernel_rfl))
 f206 := Tryz.func128.trans (congrArg some (by kernel_rfl))
 f212 := Tryz.func105.trans (congrArg some (by kernel_rfl))
 f240 := Tryz.func104.trans (congrArg some (by kernel_rfl))
 f241 := Tryz.func129.trans (congrArg some (by kernel_rfl))
 f263 := Tryz.func126.trans (congrArg some (by kernel_rfl))
 f264 := Tryz.func127.trans (congrArg some (by kernel_rfl))
 f276 := Tryz.func125.trans (congrArg some (by kernel_rfl))
 f277 := Tryz.func144.trans (congrArg some (by kernel_rfl))
 t0 := Tryz.underlying0
 a0 := Tryz.isAgg0
 z0 := Tryz.sizeOf0
 v0 := Tryz.zeroValue0
 t3 := Tryz.underlying3
 a3 := Tryz.isAgg3
 z3 := Tryz.sizeOf3
 v3 := Tryz.zeroValue3
 t4 := Tryz.underlying4
 a4 := Tryz.isAgg4
 z4 := Tryz.sizeOf4
 v4 := Tryz.zeroValue4
 t5 := Tryz.underlying5
 a5 := Tryz.isAgg5
 z5 := Tryz.sizeOf5
 v5 := Tryz.zeroValue5
 t9 := Tryz.underlying9
 a9 := Tryz.isAgg9
 z9 := Tryz.sizeOf9
 v9 := Tryz.zeroValue9
 t20 := Tryz.underlying20
 a20 := Tryz.isAgg20
 z20 := Tryz.sizeOf20
 v20 := Tryz.zeroValue20
 t37 := Tryz.underlying79
 a37 := Tryz.isAgg79
 z37 := Tryz.sizeOf79
 v37 := Tryz.zeroValue79
 t46 := Tryz.underlying139
 a46 := Tryz.isAgg139
 z46 := Tryz.sizeOf139
 v46 := Tryz.zeroValue139
 t51 := Tryz.underlying154
 a51 := Tryz.isAgg154
 z51 := Tryz.sizeOf154
 v51 := Tryz.zeroValue154
 t53 := Tryz.underlying157
 a53 := Tryz.isAgg157
 z53 := Tryz.sizeOf157
 v53 := Tryz.zeroValue157
 t70 := Tryz.underlying78
 a70 := Tryz.isAgg78
 z70 := Tryz.sizeOf78
 v70 := Tryz.zeroValue78
 t72 := Tryz.underlying81
 a72 := Tryz.isAgg81
 z72 := Tryz.sizeOf81
 v72 := Tryz.zeroValue81
 t75 := Tryz.underlying117
 a75 := Tryz.isAgg117
 z75 := Tryz.sizeOf117
 v75 := Tryz.zeroValue117
 t76 := Tryz.underlying118
 a76 := Tryz.isAgg118
 z76 := Tryz.sizeOf118
 v76 := Tryz.zeroValue118
 t109 := Tryz.underlying140
 a109 := Tryz.isAgg140
 z109 := Tryz.sizeOf140
 v109 := Tryz.zeroValue140
 t127 := Tryz.underlying122
 a127 := Tryz.isAgg122
 z127 := Tryz.sizeOf122
 v127 := Tryz.zeroValue122
 t146 := Tryz.underlying155
 a146 := Tryz.isAgg155
 z146 := Tryz.sizeOf155
 v146 := Tryz.zeroValue155
 t148 := Tryz.underlying158
 a148 := Tryz.isAgg158
 z148 := Tryz.sizeOf158
 v148 := Tryz.zeroValue158
 t164 := Tryz.underlying152
 a164 := Tryz.isAgg152
 z164 := Tryz.sizeOf152
 v164 := Tryz.zeroValue152 }
theorem Tryz.Builder_Extra_105 : Builder.Extra Tryz.prog Tryz.lays105_ren := {
 sizeBuilder := by kernel_rfl
 liesBuilder := by kernel_rfl
 t5 := Tryz.underlying5
 a5 := Tryz.isAgg5
 z5 := Tryz.sizeOf5
 v5 := Tryz.zeroValue5
 infoByte := by kernel_rfl
 cellsByte := by kernel_rfl
 sizeByte := by kernel_rfl
 neB5 := by decide }
open Go.RowKit Go.Lib in
theorem Tryz.strings_Repeat (s : ByteArray) (c : Nat) (w : World) (hc : c ≤ 9223372036854775807) (hlen : s.size * c ≤ 140737488355328) :
 Calls Tryz.prog 79 #[.string s, .int .i64 c] w fun e w' => e = .returned (.string ⟨(Lib.repeatL s.data.toList c).toArray⟩) ∧ Below w.heap.size w w' := Any.strings_Repeat Tryz.lays105 Tryz.Builder_Extra_105 s c w hc hlen
def Tryz.laysM171_ren : Go.Shelf.Ren := ⟨fun | 171 => 110 | 243 => 131 | 246 => 146 | 283 => 158 | 284 => 159 | 285 => 160 | 286 => 161 | 129 => 170 | 317 => 169 | 318 => 171 | 319 => 172 | 320 => 173 | 337 => 176 | 338 => 177 | n => n, fun | 3 => 3 | 9 => 9 | 2 => 2 | 4 => 4 | 171 => 190 | 0 => 0 | 53 => 157 | 37 => 79 | 5 => 5 | 173 => 193 | 212 => 202 | 51 => 154 | 20 => 20 | 213 => 203 | 46 => 139 | 232 => 206 | 233 => 207 | n => n, fun | 17 => 3 | 18 => 4 | 19 => 5 | n => n⟩
theorem Tryz.laysM171 : Go.Proofs.LaysM.n171 Tryz.prog Tryz.laysM171_ren := {
 mixed := by kernel_rfl
 f129 := Tryz.func170.trans (congrArg some (by kernel_rfl))
 f171 := Tryz.func110.trans (congrArg some (by kernel_rfl))
 f243 := Tryz.func131.trans (congrArg some (by kernel_rfl))
 f246 := Tryz.func146.trans (congrArg some (by kernel_rfl))
 f283 := Tryz.func158.trans (congrArg some (by kernel_rfl))
 f284 := Tryz.func159.trans (congrArg some (by kernel_rfl))
 f285 := Tryz.func160.trans (congrArg some (by kernel_rfl))
 f286 := Tryz.func161.trans (congrArg some (by kernel_rfl))
 f317 := Tryz.func169.trans (congrArg some (by kernel_rfl))
 f318 := Tryz.func171.trans (congrArg some (by kernel_rfl))
 f319 := Tryz.func172.trans (congrArg some (by kernel_rfl))
 f320 := Tryz.func173.trans (congrArg some (by kernel_rfl))
 f337 := Tryz.func176.trans (congrArg some (by kernel_rfl))
 f338 := Tryz.func177.trans (congrArg some (by kernel_rfl))
 t0 := Tryz.underlying0
 a0 := Tryz.isAgg0
 z0 := Tryz.sizeOf0
 v0 := Tryz.zeroValue0
 t2 := Tryz.underlying2
 a2 := Tryz.isAgg2
 z2 := Tryz.sizeOf2
 v2 := Tryz.zeroValue2
 t3 := Tryz.underlying3
 a3 := Tryz.isAgg3
 z3 := Tryz.sizeOf3
 v3 := Tryz.zeroValue3
 t4 := Tryz.underlying4
 a4 := Tryz.isAgg4
 z4 := Tryz.sizeOf4
 v4 := Tryz.zeroValue4
 t5 := Tryz.underlying5
 a5 := Tryz.isAgg5
 z5 := Tryz.sizeOf5
 v5 := Tryz.zeroValue5
 t9 := Tryz.underlying9
 a9 := Tryz.isAgg9
 z9 := Tryz.sizeOf9
 v9 := Tryz.zeroValue9
 t20 := Tryz.underlying20
 a20 := Tryz.isAgg20
 z20 := Tryz.sizeOf20
 v20 := Tryz.zeroValue20
 t37 := Tryz.underlying79
 a37 := Tryz.isAgg79
 z37 := Tryz.sizeOf79
 v37 := Tryz.zeroValue79
 t46 := Tryz.underlying139
 a46 := Tryz.isAgg139
 z46 := Tryz.sizeOf139
 v46 := Tryz.zeroValue139
 t51 := Tryz.underlying154
 a51 := Tryz.isAgg154
 z51 := Tryz.sizeOf154
 v51 := Tryz.zeroValue154
 t53 := Tryz.underlying157
 a53 := Tryz.isAgg157
 z53 := Tryz.sizeOf157
 v53 := Tryz.zeroValue157
 t171 := Tryz.underlying190
 a171 := Tryz.isAgg190
 z171 := Tryz.sizeOf190
 v171 := Tryz.zeroValue190
 t173 := Tryz.underlying193
 a173 := Tryz.isAgg193
 z173 := Tryz.sizeOf193
 v173 := Tryz.zeroValue193
 t212 := Tryz.underlying202
 a212 := Tryz.isAgg202
 z212 := Tryz.sizeOf202
 v212 := Tryz.zeroValue202
 t213 := Tryz.underlying203
 a213 := Tryz.isAgg203
 z213 := Tryz.sizeOf203
 t232 := Tryz.underlying206
 a232 := Tryz.isAgg206
 z232 := Tryz.sizeOf206
 v232 := Tryz.zeroValue206
 t233 := Tryz.underlying207
 a233 := Tryz.isAgg207
 z233 := Tryz.sizeOf207
 v233 := Tryz.zeroValue207
 g17 := by kernel_rfl
 g18 := by kernel_rfl
 g19 := by kernel_rfl
 i0 := by kernel_rfl
 i2 := by kernel_rfl
 i3 := by kernel_rfl
 i4 := by kernel_rfl
 i5 := by kernel_rfl
 i9 := by kernel_rfl
 i20 := by kernel_rfl
 i37 := by kernel_rfl
 i46 := by kernel_rfl
 i51 := by kernel_rfl
 i53 := by kernel_rfl
 i171 := by kernel_rfl
 i173 := by kernel_rfl
 i212 := by kernel_rfl
 i232 := by kernel_rfl
 i233 := by kernel_rfl
 m17 := by kernel_rfl
 m18 := by kernel_rfl
 m19 := by kernel_rfl }
open Go.RowKit Go.Sort Go.Lib in
theorem Tryz.strconv_Itoa (n : Int) (h0 : -9223372036854775808 ≤ n) (h1 : n ≤ 9223372036854775807) (w : World) (htab : Lib.TabIs Tryz.prog w "internal/strconv.uint64pow10" .u64 Lib.pow10Tab) :
 Calls Tryz.prog 110 #[.int .i64 n] w fun e w' => e = .returned (.string ⟨(Lib.itoa n).toArray⟩) ∧ ∃ k os, w' = grow (w.drewN k) os := Any.strconv_Itoa Tryz.laysM171 n h0 h1 w htab
end Go.Proofs
namespace Go.Proofs
open Go.Shelf
def Tryz.lays166_ren : Go.Shelf.Ren := ⟨fun | 166 => 78 | 240 => 104 | 276 => 125 | n => n, fun | 0 => 0 | 3 => 3 | 4 => 4 | 5 => 5 | 9 => 9 | 20 => 20 | 31 => 42 | 37 => 79 | 70 => 78 | 72 => 81 | 75 => 117 | 76 => 118 | 80 => 83 | 127 => 122 | 164 => 152 | n => n, fun | n => n⟩
theorem Tryz.lays166 : Go.Proofs.Lays.n166 Tryz.prog Tryz.lays166_ren := {
 mixed := by kernel_rfl
 f166 := Tryz.func78.trans (congrArg some (by kernel_rfl))
 f240 := Tryz.func104.trans (congrArg some (by kernel_rfl))
 f276 := Tryz.func125.trans (congrArg some (by kernel_rfl))
 t0 := Tryz.underlying0
 a0 := Tryz.isAgg0
 z0 := Tryz.sizeOf0
 v0 := Tryz.zeroValue0
 t3 := Tryz.underlying3
 a3 := Tryz.isAgg3
 z3 := Tryz.sizeOf3
 v3 := Tryz.zeroValue3
 t4 := Tryz.underlying4
 a4 := Tryz.isAgg4
 z4 := Tryz.sizeOf4
 v4 := Tryz.zeroValue4
 t9 := Tryz.underlying9
 a9 := Tryz.isAgg9
 z9 := Tryz.sizeOf9
 v9 := Tryz.zeroValue9
 t20 := Tryz.underlying20
 a20 := Tryz.isAgg20
 z20 := Tryz.sizeOf20
 v20 := Tryz.zeroValue20
 t37 := Tryz.underlying79
 a37 := Tryz.isAgg79
 z37 := Tryz.sizeOf79
 v37 := Tryz.zeroValue79
 t70 := Tryz.underlying78
 a70 := Tryz.isAgg78
 z70 := Tryz.sizeOf78
 v70 := Tryz.zeroValue78
 t72 := Tryz.underlying81
 a72 := Tryz.isAgg81
 z72 := Tryz.sizeOf81
 v72 := Tryz.zeroValue81
 t75 := Tryz.underlying117
 a75 := Tryz.isAgg117
 z75 := Tryz.sizeOf117
 v75 := Tryz.zeroValue117
 t164 := Tryz.underlying152
 a164 := Tryz.isAgg152
 z164 := Tryz.sizeOf152
 v164 := Tryz.zeroValue152 }
theorem Tryz.Builder_Extra_166 : Builder.Extra Tryz.prog Tryz.lays166_ren := {
 sizeBuilder := by kernel_rfl
 liesBuilder := by kernel_rfl
 t5 := Tryz.underlying5
 a5 := Tryz.isAgg5
 z5 := Tryz.sizeOf5
 v5 := Tryz.zeroValue5
 infoByte := by kernel_rfl
 cellsByte := by kernel_rfl
 sizeByte := by kernel_rfl
 neB5 := by decide }
def Tryz.lays167_ren : Go.Shelf.Ren := ⟨fun | 167 => 81 | 240 => 104 | 276 => 125 | n => n, fun | 0 => 0 | 3 => 3 | 4 => 4 | 5 => 5 | 9 => 9 | 20 => 20 | 31 => 42 | 37 => 79 | 70 => 78 | 72 => 81 | 75 => 117 | 76 => 118 | 80 => 83 | 127 => 122 | 164 => 152 | n => n, fun | n => n⟩
theorem Tryz.lays167 : Go.Proofs.Lays.n167 Tryz.prog Tryz.lays167_ren := {
 mixed := by kernel_rfl
 f167 := Tryz.func81.trans (congrArg some (by kernel_rfl))
 f240 := Tryz.func104.trans (congrArg some (by kernel_rfl))
 f276 := Tryz.func125.trans (congrArg some (by kernel_rfl))
 t0 := Tryz.underlying0
 a0 := Tryz.isAgg0
 z0 := Tryz.sizeOf0
 v0 := Tryz.zeroValue0
 t4 := Tryz.underlying4
 a4 := Tryz.isAgg4
 z4 := Tryz.sizeOf4
 v4 := Tryz.zeroValue4
 t5 := Tryz.underlying5
 a5 := Tryz.isAgg5
 z5 := Tryz.sizeOf5
 v5 := Tryz.zeroValue5
 t9 := Tryz.underlying9
 a9 := Tryz.isAgg9
 z9 := Tryz.sizeOf9
 v9 := Tryz.zeroValue9
 t20 := Tryz.underlying20
 a20 := Tryz.isAgg20
 z20 := Tryz.sizeOf20
 v20 := Tryz.zeroValue20
 t37 := Tryz.underlying79
 a37 := Tryz.isAgg79
 z37 := Tryz.sizeOf79
 v37 := Tryz.zeroValue79
 t70 := Tryz.underlying78
 a70 := Tryz.isAgg78
 z70 := Tryz.sizeOf78
 v70 := Tryz.zeroValue78
 t72 := Tryz.underlying81
 a72 := Tryz.isAgg81
 z72 := Tryz.sizeOf81
 v72 := Tryz.zeroValue81
 t75 := Tryz.underlying117
 a75 := Tryz.isAgg117
 z75 := Tryz.sizeOf117
 v75 := Tryz.zeroValue117
 t164 := Tryz.underlying152
 a164 := Tryz.isAgg152
 z164 := Tryz.sizeOf152
 v164 := Tryz.zeroValue152 }
theorem Tryz.Builder_Extra_167 : Builder.Extra Tryz.prog Tryz.lays167_ren := {
 sizeBuilder := by kernel_rfl
 liesBuilder := by kernel_rfl
 t5 := Tryz.underlying5
 a5 := Tryz.isAgg5
 z5 := Tryz.sizeOf5
 v5 := Tryz.zeroValue5
 infoByte := by kernel_rfl
 cellsByte := by kernel_rfl
 sizeByte := by kernel_rfl
 neB5 := by decide }
end Go.Proofs
set_option maxRecDepth 100000
namespace Go.Sy.Ex
open Go.Sy Go.Proofs
structure api_Expr where
 Kind : Int
 N : Int
 Name : List UInt8
 Kids : List api_Expr
 At : Int
def api_Expr.z : api_Expr := ⟨0, 0, [], [], 0⟩
structure api_Act where
 Kind : Int
 Name : List UInt8
 Event : List UInt8
 X : List api_Expr
 N : Int
 Then : List api_Act
 Else : List api_Act
 At : Int
def api_Act.z : api_Act := ⟨0, [], [], [], 0, [], [], 0⟩
structure api_Token where
 Kind : Int
 At : Int
 End : Int
 Text : List UInt8
 N : Int
 deriving DecidableEq
def api_Token.z : api_Token := ⟨0, 0, 0, [], 0⟩
structure api_Fault where
 Code : Int
 At : Int
 deriving DecidableEq
def api_Fault.z : api_Fault := ⟨0, 0⟩
structure read_Row where
 L : List api_Token
 At : Int
 Fault : api_Fault
 deriving DecidableEq
def read_Row.z : read_Row := ⟨[], 0, api_Fault.z⟩
structure act_reader where
 Row : read_Row
 v_open : Int
 deriving DecidableEq
def act_reader.z : act_reader := ⟨read_Row.z, 0⟩
structure expr_reader where
 Row : read_Row
 v_open : Int
 deriving DecidableEq
def expr_reader.z : expr_reader := ⟨read_Row.z, 0⟩
structure ref37_Row where
 L : List Int
 At : Int
 deriving DecidableEq
def ref37_Row.z : ref37_Row := ⟨[], 0⟩
structure ref37_Scope where
 Vars : List (List UInt8)
 Ports : List (List UInt8)
 Timers : List (List UInt8)
 States : List (List UInt8)
 deriving DecidableEq
def ref37_Scope.z : ref37_Scope := ⟨[], [], [], []⟩
def C : Nat → Type
 | 0 => api_Act
 | 1 => api_Expr
 | 2 => api_Token
 | 3 => api_Fault
 | 4 => read_Row
 | 5 => act_reader
 | 6 => expr_reader
 | 7 => Unit
 | 8 => List UInt8 × List UInt8 × List UInt8 × List UInt8 × List UInt8 × List UInt8 × List UInt8 × List UInt8 × List UInt8 × List UInt8 × List UInt8 × List UInt8 × List UInt8
 | 9 => ref37_Row
 | 10 => ref37_Scope
 | 11 => Int × Int × Int × Int × Int × Int
 | 12 => List UInt8 × List UInt8 × List UInt8 × List UInt8 × List UInt8 × List UInt8 × List UInt8 × List UInt8
 | 13 => List UInt8 × List UInt8 × List UInt8 × List UInt8 × List UInt8 × List UInt8 × List UInt8 × List UInt8 × List UInt8 × List UInt8 × List UInt8 × List UInt8 × List UInt8 × List UInt8 × List UInt8 × List UInt8 × List UInt8 × List UInt8 × List UInt8 × List UInt8
 | _ + 14 => Unit
def F : Nat → List Ty
 | 0 => [.int .i64, .str, .str, .sl (.st 1), .int .i64, .sl (.st 0), .sl (.st 0), .int .i64]
 | 1 => [.int .i64, .int .i64, .str, .sl (.st 1), .int .i64]
 | 2 => [.int .i64, .int .i64, .int .i64, .str, .int .i64]
 | 3 => [.int .i64, .int .i64]
 | 4 => [.sl (.st 2), .int .i64, .int .i64, .int .i64]
 | 5 => [.sl (.st 2), .int .i64, .int .i64, .int .i64, .int .i64]
 | 6 => [.sl (.st 2), .int .i64, .int .i64, .int .i64, .int .i64]
 | 7 => []
 | 8 => [.str, .str, .str, .str, .str, .str, .str, .str, .str, .str, .str, .str, .str]
 | 9 => [.sl (.int .i64), .int .i64]
 | 10 => [.sl .str, .sl .str, .sl .str, .sl .str]
 | 11 => [.int .i64, .int .i64, .int .i64, .int .i64, .int .i64, .int .i64]
 | 12 => [.str, .str, .str, .str, .str, .str, .str, .str]
 | 13 => [.str, .str, .str, .str, .str, .str, .str, .str, .str, .str, .str, .str, .str, .str, .str, .str, .str, .str, .str, .str]
 | _ + 14 => []
def ex : (t : Nat) → C t → Tup C (F t)
 | 0, (x : api_Act) => (x.Kind, x.Name, x.Event, x.X, x.N, x.Then, x.Else, x.At)
 | 1, (x : api_Expr) => (x.Kind, x.N, x.Name, x.Kids, x.At)
 | 2, (x : api_Token) => (x.Kind, x.At, x.End, x.Text, x.N)
 | 3, (x : api_Fault) => (x.Code, x.At)
 | 4, (x : read_Row) => (x.L, x.At, x.Fault.Code, x.Fault.At)
 | 5, (x : act_reader) => (x.Row.L, x.Row.At, x.Row.Fault.Code, x.Row.Fault.At, x.v_open)
 | 6, (x : expr_reader) => (x.Row.L, x.Row.At, x.Row.Fault.Code, x.Row.Fault.At, x.v_open)
 | 7, _ => ()
 | 8, (x : List UInt8 × List UInt8 × List UInt8 × List UInt8 × List UInt8 × List UInt8 × List UInt8 × List UInt8 × List UInt8 × List UInt8 × List UInt8 × List UInt8 × List UInt8) => (x.1, x.2.1, x.2.2.1, x.2.2.2.1, x.2.2.2.2.1, x.2.2.2.2.2.1, x.2.2.2.2.2.2.1, x.2.2.2.2.2.2.2.1, x.2.2.2.2.2.2.2.2.1, x.2.2.2.2.2.2.2.2.2.1, x.2.2.2.2.2.2.2.2.2.2.1, x.2.2.2.2.2.2.2.2.2.2.2.1, x.2.2.2.2.2.2.2.2.2.2.2.2)
 | 9, (x : ref37_Row) => (x.L, x.At)
 | 10, (x : ref37_Scope) => (x.Vars, x.Ports, x.Timers, x.States)
 | 11, (x : Int × Int × Int × Int × Int × Int) => (x.1, x.2.1, x.2.2.1, x.2.2.2.1, x.2.2.2.2.1, x.2.2.2.2.2)
 | 12, (x : List UInt8 × List UInt8 × List UInt8 × List UInt8 × List UInt8 × List UInt8 × List UInt8 × List UInt8) => (x.1, x.2.1, x.2.2.1, x.2.2.2.1, x.2.2.2.2.1, x.2.2.2.2.2.1, x.2.2.2.2.2.2.1, x.2.2.2.2.2.2.2)
 | 13, (x : List UInt8 × List UInt8 × List UInt8 × List UInt8 × List UInt8 × List UInt8 × List UInt8 × List UInt8 × List UInt8 × List UInt8 × List UInt8 × List UInt8 × List UInt8 × List UInt8 × List UInt8 × List UInt8 × List UInt8 × List UInt8 × List UInt8 × List UInt8) => (x.1, x.2.1, x.2.2.1, x.2.2.2.1, x.2.2.2.2.1, x.2.2.2.2.2.1, x.2.2.2.2.2.2.1, x.2.2.2.2.2.2.2.1, x.2.2.2.2.2.2.2.2.1, x.2.2.2.2.2.2.2.2.2.1, x.2.2.2.2.2.2.2.2.2.2.1, x.2.2.2.2.2.2.2.2.2.2.2.1, x.2.2.2.2.2.2.2.2.2.2.2.2.1, x.2.2.2.2.2.2.2.2.2.2.2.2.2.1, x.2.2.2.2.2.2.2.2.2.2.2.2.2.2.1, x.2.2.2.2.2.2.2.2.2.2.2.2.2.2.2.1, x.2.2.2.2.2.2.2.2.2.2.2.2.2.2.2.2.1, x.2.2.2.2.2.2.2.2.2.2.2.2.2.2.2.2.2.1, x.2.2.2.2.2.2.2.2.2.2.2.2.2.2.2.2.2.2.1, x.2.2.2.2.2.2.2.2.2.2.2.2.2.2.2.2.2.2.2)
 | _ + 14, _ => ()
def im : (t : Nat) → Tup C (F t) → C t
 | 0, (a0, a1, a2, a3, a4, a5, a6, a7) => api_Act.mk a0 a1 a2 a3 a4 a5 a6 a7
 | 1, (a0, a1, a2, a3, a4) => api_Expr.mk a0 a1 a2 a3 a4
 | 2, (a0, a1, a2, a3, a4) => api_Token.mk a0 a1 a2 a3 a4
 | 3, (a0, a1) => api_Fault.mk a0 a1
 | 4, (a0, a1, a2, a3) => read_Row.mk a0 a1 (api_Fault.mk a2 a3)
 | 5, (a0, a1, a2, a3, a4) => act_reader.mk (read_Row.mk a0 a1 (api_Fault.mk a2 a3)) a4
 | 6, (a0, a1, a2, a3, a4) => expr_reader.mk (read_Row.mk a0 a1 (api_Fault.mk a2 a3)) a4
 | 7, _ => ()
 | 8, (a0, a1, a2, a3, a4, a5, a6, a7, a8, a9, a10, a11, a12) => (a0, a1, a2, a3, a4, a5, a6, a7, a8, a9, a10, a11, a12)
 | 9, (a0, a1) => ref37_Row.mk a0 a1
 | 10, (a0, a1, a2, a3) => ref37_Scope.mk a0 a1 a2 a3
 | 11, (a0, a1, a2, a3, a4, a5) => (a0, a1, a2, a3, a4, a5)
 | 12, (a0, a1, a2, a3, a4, a5, a6, a7) => (a0, a1, a2, a3, a4, a5, a6, a7)
 | 13, (a0, a1, a2, a3, a4, a5, a6, a7, a8, a9, a10, a11, a12, a13, a14, a15, a16, a17, a18, a19) => (a0, a1, a2, a3, a4, a5, a6, a7, a8, a9, a10, a11, a12, a13, a14, a15, a16, a17, a18, a19)
 | _ + 14, _ => ()
def fldT : Nat → List (Nat × Ty)
 | 0 => [(0, .int .i64), (1, .str), (2, .str), (3, .sl (.st 1)), (4, .int .i64), (5, .sl (.st 0)), (6, .sl (.st 0)), (7, .int .i64)]
 | 1 => [(0, .int .i64), (1, .int .i64), (2, .str), (3, .sl (.st 1)), (4, .int .i64)]
 | 2 => [(0, .int .i64), (1, .int .i64), (2, .int .i64), (3, .str), (4, .int .i64)]
 | 3 => [(0, .int .i64), (1, .int .i64)]
 | 4 => [(0, .sl (.st 2)), (1, .int .i64), (2, .st 3)]
 | 5 => [(0, .st 4), (4, .int .i64)]
 | 6 => [(0, .st 4), (4, .int .i64)]
 | 7 => []
 | 8 => rowFlds (.str) 13 0
 | 9 => [(0, .sl (.int .i64)), (1, .int .i64)]
 | 10 => [(0, .sl .str), (1, .sl .str), (2, .sl .str), (3, .sl .str)]
 | 11 => rowFlds (.int .i64) 6 0
 | 12 => rowFlds (.str) 8 0
 | 13 => rowFlds (.str) 20 0
 | _ + 14 => []
def z : (t : Nat) → C t
 | 0 => api_Act.z
 | 1 => api_Expr.z
 | 2 => api_Token.z
 | 3 => api_Fault.z
 | 4 => read_Row.z
 | 5 => act_reader.z
 | 6 => expr_reader.z
 | 7 => ()
 | 8 => ([], [], [], [], [], [], [], [], [], [], [], [], [])
 | 9 => ref37_Row.z
 | 10 => ref37_Scope.z
 | 11 => (0, 0, 0, 0, 0, 0)
 | 12 => ([], [], [], [], [], [], [], [])
 | 13 => ([], [], [], [], [], [], [], [], [], [], [], [], [], [], [], [], [], [], [], [])
 | _ + 14 => ()
def tyT : List (Nat × Ty) := [(2, .int .i64), (3, .int .i64), (4, .bool), (5, .int .u8), (9, .str), (22, .sl (.st 2)), (23, .int .i64), (25, .st 3), (30, .sl (.st 0)), (35, .sl (.int .i64)), (41, .st 9), (42, .sl .str), (44, .st 10), (50, .int .i8), (57, .st 2), (60, .sl (.st 1)), (62, .st 0), (65, .st 4), (67, .st 5), (72, .st 1), (106, .st 11), (107, .st 12), (148, .st 13), (164, .st 6), (189, .st 8)]
def arT : List (Nat × (Nat × Ty)) := [(106, 6, .int .i64), (107, 8, .str), (148, 20, .str), (189, 13, .str)]
def eqT : List (Nat × Unit) := []
def ifcT : List (Nat × Unit) := [(117, ())]
def ptT : List (Nat × Unit) := []
def spT : List (Nat × Unit) := []
abbrev S : Sen := ⟨C, F, ex, im, fun u f => (fldT u)[f]?, z, look tyT, fun t => (look ptT t).isSome, look arT, fun t => (look eqT t).isSome, fun t => (look ifcT t).isSome, [((0, 0), fun v => ∃ m, v = .int .i64 m), ((2, 0), fun v => v = .nilIface ∨ ∃ t p, v = .iface t p), ((1, 0), fun v => v = .nilIface ∨ ∃ t p, v = .iface t p)], [(3, fun ob => ∃ t f, ob = .cells (Go.Lib.pow10Tab.map fun z => Value.int .u64 z).toArray t f)], some (81, 5), fun t => (look spT t).isSome⟩
def bytT : List (Nat × Nat) := [(22, 48), (30, 128), (35, 8), (42, 16), (60, 64)]
def byt (t : Nat) : Nat := (look bytT t).getD 1
theorem senOk : SenOk S := ⟨fun | 0 => rfl | 1 => rfl | 2 => rfl | 3 => rfl | 4 => rfl | 5 => rfl | 6 => rfl | 7 => rfl | 8 => rfl | 9 => rfl | 10 => rfl | 11 => rfl | 12 => rfl | 13 => rfl | _ + 14 => rfl, fun | 0, _ => rfl | 1, _ => rfl | 2, _ => rfl | 3, _ => rfl | 4, _ => rfl | 5, _ => rfl | 6, _ => rfl | 7, _ => rfl | 8, _ => rfl | 9, _ => rfl | 10, _ => rfl | 11, _ => rfl | 12, _ => rfl | 13, _ => rfl | _ + 14, _ => rfl⟩
theorem ty2 : TyAt Tryz.prog S byt 2 (.int .i64) := tyAt_int rfl (by kernel_rfl) (by kernel_rfl) (by kernel_rfl)
theorem ty3 : TyAt Tryz.prog S byt 3 (.int .i64) := tyAt_int rfl (by kernel_rfl) (by kernel_rfl) (by kernel_rfl)
theorem ty4 : TyAt Tryz.prog S byt 4 (.bool) := tyAt_bool rfl (by kernel_rfl) (by kernel_rfl) (by kernel_rfl)
theorem ty5 : TyAt Tryz.prog S byt 5 (.int .u8) := tyAt_int rfl (by kernel_rfl) (by kernel_rfl) (by kernel_rfl)
theorem ty9 : TyAt Tryz.prog S byt 9 (.str) := tyAt_str rfl (by kernel_rfl) (by kernel_rfl) (by kernel_rfl)
theorem ty22 : TyAt Tryz.prog S byt 22 (.sl (.st 2)) := tyAt_sl rfl (by kernel_rfl) (by kernel_rfl) Tryz.underlying22 rfl rfl (by kernel_rfl) (by kernel_rfl)
theorem ty23 : TyAt Tryz.prog S byt 23 (.int .i64) := tyAt_int rfl (by kernel_rfl) (by kernel_rfl) (by kernel_rfl)
theorem ty25 : TyAt Tryz.prog S byt 25 (.st 3) := tyAt_st (l := fldT 3) rfl (by kernel_rfl) rfl (by kernel_rfl) (by kernel_rfl) rfl (by kernel_rfl) Tryz.underlying25 (by kernel_rfl) (fun _ => rfl) rfl
theorem ty30 : TyAt Tryz.prog S byt 30 (.sl (.st 0)) := tyAt_sl rfl (by kernel_rfl) (by kernel_rfl) Tryz.underlying30 rfl rfl (by kernel_rfl) (by kernel_rfl)
theorem ty35 : TyAt Tryz.prog S byt 35 (.sl (.int .i64)) := tyAt_sl rfl (by kernel_rfl) (by kernel_rfl) Tryz.underlying35 rfl rfl (by kernel_rfl) (by kernel_rfl)
theorem ty41 : TyAt Tryz.prog S byt 41 (.st 9) := tyAt_st (l := fldT 9) rfl (by kernel_rfl) rfl (by kernel_rfl) (by kernel_rfl) rfl (by kernel_rfl) Tryz.underlying41 (by kernel_rfl) (fun _ => rfl) rfl
theorem ty42 : TyAt Tryz.prog S byt 42 (.sl .str) := tyAt_sl rfl (by kernel_rfl) (by kernel_rfl) Tryz.underlying42 rfl rfl (by kernel_rfl) (by kernel_rfl)
theorem ty44 : TyAt Tryz.prog S byt 44 (.st 10) := tyAt_st (l := fldT 10) rfl (by kernel_rfl) rfl (by kernel_rfl) (by kernel_rfl) rfl (by kernel_rfl) Tryz.underlying44 (by kernel_rfl) (fun _ => rfl) rfl
theorem ty50 : TyAt Tryz.prog S byt 50 (.int .i8) := tyAt_int rfl (by kernel_rfl) (by kernel_rfl) (by kernel_rfl)
theorem ty57 : TyAt Tryz.prog S byt 57 (.st 2) := tyAt_st (l := fldT 2) rfl (by kernel_rfl) rfl (by kernel_rfl) (by kernel_rfl) rfl (by kernel_rfl) Tryz.underlying57 (by kernel_rfl) (fun _ => rfl) rfl
theorem ty60 : TyAt Tryz.prog S byt 60 (.sl (.st 1)) := tyAt_sl rfl (by kernel_rfl) (by kernel_rfl) Tryz.underlying60 rfl rfl (by kernel_rfl) (by kernel_rfl)
theorem ty62 : TyAt Tryz.prog S byt 62 (.st 0) := tyAt_st (l := fldT 0) rfl (by kernel_rfl) rfl (by kernel_rfl) (by kernel_rfl) rfl (by kernel_rfl) Tryz.underlying62 (by kernel_rfl) (fun _ => rfl) rfl
theorem ty65 : TyAt Tryz.prog S byt 65 (.st 4) := tyAt_st (l := fldT 4) rfl (by kernel_rfl) rfl (by kernel_rfl) (by kernel_rfl) rfl (by kernel_rfl) Tryz.underlying65 (by kernel_rfl) (fun _ => rfl) rfl
theorem ty67 : TyAt Tryz.prog S byt 67 (.st 5) := tyAt_st (l := fldT 5) rfl (by kernel_rfl) rfl (by kernel_rfl) (by kernel_rfl) rfl (by kernel_rfl) Tryz.underlying67 (by kernel_rfl) (fun _ => rfl) rfl
theorem ty72 : TyAt Tryz.prog S byt 72 (.st 1) := tyAt_st (l := fldT 1) rfl (by kernel_rfl) rfl (by kernel_rfl) (by kernel_rfl) rfl (by kernel_rfl) Tryz.underlying72 (by kernel_rfl) (fun _ => rfl) rfl
theorem ty106 : TyAt Tryz.prog S byt 106 (.st 11) := tyAt_ar rfl (by kernel_rfl) rfl (by kernel_rfl) (by kernel_rfl) rfl (by kernel_rfl) Tryz.underlying106 rfl rfl rfl (by kernel_rfl) (fun _ => rfl) rfl
theorem ty107 : TyAt Tryz.prog S byt 107 (.st 12) := tyAt_ar rfl (by kernel_rfl) rfl (by kernel_rfl) (by kernel_rfl) rfl (by kernel_rfl) Tryz.underlying107 rfl rfl rfl (by kernel_rfl) (fun _ => rfl) rfl
theorem ty148 : TyAt Tryz.prog S byt 148 (.st 13) := tyAt_ar rfl (by kernel_rfl) rfl (by kernel_rfl) (by kernel_rfl) rfl (by kernel_rfl) Tryz.underlying148 rfl rfl rfl (by kernel_rfl) (fun _ => rfl) rfl
theorem ty164 : TyAt Tryz.prog S byt 164 (.st 6) := tyAt_st (l := fldT 6) rfl (by kernel_rfl) rfl (by kernel_rfl) (by kernel_rfl) rfl (by kernel_rfl) Tryz.underlying164 (by kernel_rfl) (fun _ => rfl) rfl
theorem ty189 : TyAt Tryz.prog S byt 189 (.st 8) := tyAt_ar rfl (by kernel_rfl) rfl (by kernel_rfl) (by kernel_rfl) rfl (by kernel_rfl) Tryz.underlying189 rfl rfl rfl (by kernel_rfl) (fun _ => rfl) rfl
theorem progOk : ProgOk Tryz.prog S byt := ⟨senOk, fun t T h0 => by
 have h := look_mem (show look tyT t = some T from h0)
 simp only [tyT, List.mem_cons, Prod.mk.injEq, List.not_mem_nil, or_false] at h
 rcases h with ⟨rfl, rfl⟩ | ⟨rfl, rfl⟩ | ⟨rfl, rfl⟩ | ⟨rfl, rfl⟩ | ⟨rfl, rfl⟩ | ⟨rfl, rfl⟩ | ⟨rfl, rfl⟩ | ⟨rfl, rfl⟩ | ⟨rfl, rfl⟩ | ⟨rfl, rfl⟩ | ⟨rfl, rfl⟩ | ⟨rfl, rfl⟩ | ⟨rfl, rfl⟩ | ⟨rfl, rfl⟩ | ⟨rfl, rfl⟩ | ⟨rfl, rfl⟩ | ⟨rfl, rfl⟩ | ⟨rfl, rfl⟩ | ⟨rfl, rfl⟩ | ⟨rfl, rfl⟩ | ⟨rfl, rfl⟩ | ⟨rfl, rfl⟩ | ⟨rfl, rfl⟩ | ⟨rfl, rfl⟩ | ⟨rfl, rfl⟩
 · exact ty2
 · exact ty3
 · exact ty4
 · exact ty5
 · exact ty9
 · exact ty22
 · exact ty23
 · exact ty25
 · exact ty30
 · exact ty35
 · exact ty41
 · exact ty42
 · exact ty44
 · exact ty50
 · exact ty57
 · exact ty60
 · exact ty62
 · exact ty65
 · exact ty67
 · exact ty72
 · exact ty106
 · exact ty107
 · exact ty148
 · exact ty164
 · exact ty189, fun t h => by
 have h2 : ∃ u, look ptT t = some u := Option.isSome_iff_exists.1 h
 obtain ⟨u, h2⟩ := h2
 have h := look_mem h2
 simp [ptT] at h, fun t h => by
 have h2 : ∃ u, look eqT t = some u := Option.isSome_iff_exists.1 h
 obtain ⟨u, h2⟩ := h2
 have h := look_mem h2
 simp [eqT] at h, fun t h => by
 have h2 : ∃ u, look ifcT t = some u := Option.isSome_iff_exists.1 h
 obtain ⟨u, h2⟩ := h2
 have h := look_mem h2
 simp only [ifcT, List.mem_cons, Prod.mk.injEq, List.not_mem_nil, or_false] at h
 rcases h with ⟨rfl, _⟩
 · exact ⟨_, Tryz.underlying117⟩, bt_of (by kernel_rfl) (by decide)⟩
theorem mixed : Tryz.prog.follows .mixedOrders = true := by kernel_rfl
def bz (e : Ty) : Nat := if e = .int .i64 then 8 else 1
def tyA : List (Nat × Ty) := [(3, .int .i64), (35, .sl (.int .i64)), (50, .int .i8)]
def arA : List (Nat × (Nat × Ty)) := []
abbrev SA : Sen := S.withT (look tyA) (fun _ => false) (look arA) (fun _ => false)
theorem tyA3 : TyAt Tryz.prog SA byt 3 (.int .i64) := tyAt_int rfl (by kernel_rfl) (by kernel_rfl) (by kernel_rfl)
theorem tyA35 : TyAt Tryz.prog SA byt 35 (.sl (.int .i64)) := tyAt_sl rfl (by kernel_rfl) (by kernel_rfl) Tryz.underlying35 rfl rfl (by kernel_rfl) (by kernel_rfl)
theorem tyA50 : TyAt Tryz.prog SA byt 50 (.int .i8) := tyAt_int rfl (by kernel_rfl) (by kernel_rfl) (by kernel_rfl)
theorem senOkA : SenOk SA := ⟨senOk.flat, senOk.exim⟩
theorem progOkA : ProgOk Tryz.prog SA byt := ⟨senOkA, fun t e h0 => by
 have h := look_mem (show look tyA t = some (e) from h0)
 simp only [tyA, List.mem_cons, Prod.mk.injEq, List.not_mem_nil, or_false] at h
 rcases h with ⟨rfl, h⟩ | ⟨rfl, h⟩ | ⟨rfl, h⟩
 · subst h; exact tyA3
 · subst h; exact tyA35
 · subst h; exact tyA50, fun t h => (nomatch h), fun t h => (nomatch h), progOk.ifc, progOk.bt⟩
theorem hbz : ∀ t e, SA.ty t = some (.sl e) → byt t = bz e := fun t e h0 => by
 have h := look_mem (show look tyA t = some (.sl e) from h0)
 simp only [tyA, List.mem_cons, Prod.mk.injEq, List.not_mem_nil, or_false] at h
 rcases h with ⟨rfl, h⟩ | ⟨rfl, h⟩ | ⟨rfl, h⟩
 · exact (nomatch h)
 · cases h; decide
 · exact (nomatch h)
theorem slOk : SlOk SA := ⟨fun t e h0 => by
 have h := look_mem (show look tyA t = some (.sl e) from h0)
 simp only [tyA, List.mem_cons, Prod.mk.injEq, List.not_mem_nil, or_false] at h
 rcases h with ⟨rfl, h⟩ | ⟨rfl, h⟩ | ⟨rfl, h⟩
 · exact (nomatch h)
 · cases h; decide
 · exact (nomatch h), fun t h0 => by
 have h := look_mem (show look tyA t = some (.pt) from h0)
 simp only [tyA, List.mem_cons, Prod.mk.injEq, List.not_mem_nil, or_false] at h
 rcases h with ⟨rfl, h⟩ | ⟨rfl, h⟩ | ⟨rfl, h⟩
 · exact (nomatch h)
 · exact (nomatch h)
 · exact (nomatch h)⟩
theorem stOk : StOk Tryz.prog SA := fun t e h0 => by
 have h := look_mem (show look tyA t = some (.st e) from h0)
 simp only [tyA, List.mem_cons, Prod.mk.injEq, List.not_mem_nil, or_false] at h
 rcases h with ⟨rfl, h⟩ | ⟨rfl, h⟩ | ⟨rfl, h⟩
 · exact (nomatch h)
 · exact (nomatch h)
 · exact (nomatch h)
abbrev s_raise_e_1_loop_2_x9e436 : List UInt8 := [123, 114, 97, 105, 115, 101, 32, 101, 32, 40, 32, 49, 32, 41, 59, 108, 111, 111, 112, 32, 50, 123, 125, 125]
abbrev s_sp_tab_nl_cr : List UInt8 := [32, 9, 10, 13]
abbrev s_xe6575 : List UInt8 := [45, 62, 32, 61, 61, 32, 33, 61, 32, 60, 61, 32, 62, 61, 32, 38, 38, 32, 124, 124]
abbrev s_x5d46a : List UInt8 := [123, 125, 40, 41, 91, 93, 59, 44, 46, 58, 61, 60, 62, 43, 45, 42, 47, 37, 33, 36]
abbrev s_lb : List UInt8 := [123]
abbrev s_rb : List UInt8 := [125]
abbrev s_system : List UInt8 := [115, 121, 115, 116, 101, 109]
abbrev s_age : List UInt8 := [97, 103, 101]
abbrev s_chart : List UInt8 := [99, 104, 97, 114, 116]
abbrev s_steps : List UInt8 := [115, 116, 101, 112, 115]
abbrev s_fuel : List UInt8 := [102, 117, 101, 108]
abbrev s_var : List UInt8 := [118, 97, 114]
abbrev s_port : List UInt8 := [112, 111, 114, 116]
abbrev s_timer : List UInt8 := [116, 105, 109, 101, 114]
abbrev s_state : List UInt8 := [115, 116, 97, 116, 101]
abbrev s_parallel : List UInt8 := [112, 97, 114, 97, 108, 108, 101, 108]
abbrev s_history : List UInt8 := [104, 105, 115, 116, 111, 114, 121]
abbrev s_deep : List UInt8 := [100, 101, 101, 112]
abbrev s_entry : List UInt8 := [101, 110, 116, 114, 121]
abbrev s_exit : List UInt8 := [101, 120, 105, 116]
abbrev s_on : List UInt8 := [111, 110]
abbrev s_auto : List UInt8 := [97, 117, 116, 111]
abbrev s_raise : List UInt8 := [114, 97, 105, 115, 101]
abbrev s_send : List UInt8 := [115, 101, 110, 100]
abbrev s_arm : List UInt8 := [97, 114, 109]
abbrev s_cancel : List UInt8 := [99, 97, 110, 99, 101, 108]
abbrev s_if : List UInt8 := [105, 102]
abbrev s_else : List UInt8 := [101, 108, 115, 101]
abbrev s_loop : List UInt8 := [108, 111, 111, 112]
abbrev s_in : List UInt8 := [105, 110]
abbrev s_inst : List UInt8 := [105, 110, 115, 116]
abbrev s_quantum : List UInt8 := [113, 117, 97, 110, 116, 117, 109]
abbrev s_ext : List UInt8 := [101, 120, 116]
abbrev s_prio : List UInt8 := [112, 114, 105, 111]
abbrev s_chan : List UInt8 := [99, 104, 97, 110]
abbrev s_cap : List UInt8 := [99, 97, 112]
abbrev s_cert : List UInt8 := [99, 101, 114, 116]
abbrev s_insts : List UInt8 := [105, 110, 115, 116, 115]
abbrev s_chans : List UInt8 := [99, 104, 97, 110, 115]
abbrev s_cell : List UInt8 := [99, 101, 108, 108]
abbrev s_off : List UInt8 := [111, 102, 102]
abbrev s_eq : List UInt8 := [61]
abbrev s_minus : List UInt8 := [45]
abbrev s_bang : List UInt8 := [33]
abbrev s_dollar : List UInt8 := [36]
abbrev s_lp : List UInt8 := [40]
abbrev s_rp : List UInt8 := [41]
abbrev s_bar_bar : List UInt8 := [124, 124]
abbrev s_amp_amp : List UInt8 := [38, 38]
abbrev s_lt : List UInt8 := [60]
abbrev s_lt_eq : List UInt8 := [60, 61]
abbrev s_gt : List UInt8 := [62]
abbrev s_gt_eq : List UInt8 := [62, 61]
abbrev s_eq_eq : List UInt8 := [61, 61]
abbrev s_bang_eq : List UInt8 := [33, 61]
abbrev s_plus : List UInt8 := [43]
abbrev s_star : List UInt8 := [42]
abbrev s_slash : List UInt8 := [47]
abbrev s_pct : List UInt8 := [37]
abbrev s_semi : List UInt8 := [59]
abbrev s_x_1_x697a8 : List UInt8 := [123, 120, 32, 61, 32, 49, 125]
abbrev s_lb_rb : List UInt8 := [123, 125]
abbrev s_lb_nl : List UInt8 := [123, 10]
abbrev s_sp_sp : List UInt8 := [32, 32]
abbrev s_in_xcc76e : List UInt8 := [105, 110, 40]
abbrev s_sp : List UInt8 := [32]
abbrev s_sp_eq_sp : List UInt8 := [32, 61, 32]
abbrev s_raise_x7823e : List UInt8 := [114, 97, 105, 115, 101, 32]
abbrev s_send_xe0272 : List UInt8 := [115, 101, 110, 100, 32]
abbrev s_arm_x6c666 : List UInt8 := [97, 114, 109, 32]
abbrev s_cancel_x1c990 : List UInt8 := [99, 97, 110, 99, 101, 108, 32]
abbrev s_if_xec554 : List UInt8 := [105, 102, 32]
abbrev s_else_xf7d30 : List UInt8 := [32, 101, 108, 115, 101, 32]
abbrev s_loop_xf5f27 : List UInt8 := [108, 111, 111, 112, 32]
abbrev s_raise_e_1_loop_2_x18436 : List UInt8 := [123, 10, 32, 32, 114, 97, 105, 115, 101, 32, 101, 40, 49, 41, 59, 10, 32, 32, 108, 111, 111, 112, 32, 50, 32, 123, 125, 10, 125]
abbrev s_x : List UInt8 := [120]
abbrev s_y : List UInt8 := [121]
abbrev s_p : List UInt8 := [112]
abbrev s_t : List UInt8 := [116]
abbrev s_idle : List UInt8 := [105, 100, 108, 101]
abbrev s_go : List UInt8 := [103, 111]
abbrev s_ping : List UInt8 := [112, 105, 110, 103]
abbrev s_pong : List UInt8 := [112, 111, 110, 103]
abbrev s_error : List UInt8 := [101, 114, 114, 111, 114]
abbrev s_t0 : List UInt8 := [116, 48]
abbrev s_ball : List UInt8 := [98, 97, 108, 108]
abbrev s_0123456789 : List UInt8 := [48, 49, 50, 51, 52, 53, 54, 55, 56, 57]
abbrev s_nl : List UInt8 := [10]
abbrev arr_x03b7b : List UInt8 × List UInt8 × List UInt8 × List UInt8 × List UInt8 × List UInt8 × List UInt8 × List UInt8 × List UInt8 × List UInt8 × List UInt8 × List UInt8 × List UInt8 := (s_bar_bar, s_amp_amp, s_lt, s_lt_eq, s_gt, s_gt_eq, s_eq_eq, s_bang_eq, s_plus, s_minus, s_star, s_slash, s_pct)
abbrev row_xe3552 : List Int := [0, 1, 2, 7, 1099511627776, 9223372036854775807]
abbrev row_x81587 : List (List UInt8) := [s_go, s_ping, s_pong, s_error, s_t0, s_ball, s_go, s_ping]
abbrev row_x5f300 : List (List UInt8) := [[], [], [], [], [], s_minus, s_bang, s_star, s_slash, s_pct, s_plus, s_minus, s_lt, s_lt_eq, s_gt, s_gt_eq, s_eq_eq, s_bang_eq, s_amp_amp, s_bar_bar]
end Go.Sy.Ex
namespace Go.Sy.Ex
open Go.Sy Go.Proofs
theorem glob_I {w : World} {M : St} (h : Glob S w M) : (∃ m, w.cell? ⟨0, 0, none⟩ = some (.int .i64 m)) := by
 obtain ⟨_, _, v0, c0, m, rfl⟩ := h.1 (((0, 0), fun v => ∃ m, v = .int .i64 m)) (by simp)
 exact ⟨m, c0⟩
theorem glob_R {w : World} {M : St} (h : Glob S w M) : (∃ e, w.cell? ⟨2, 0, none⟩ = some e ∧ (e = .nilIface ∨ ∃ t p, e = .iface t p)) := by
 obtain ⟨_, _, v1, c1, p1⟩ := h.1 (((2, 0), fun v => v = .nilIface ∨ ∃ t p, v = .iface t p)) (by simp)
 exact ⟨v1, c1, p1⟩
theorem glob_S {w : World} {M : St} (h : Glob S w M) : (∃ e, w.cell? ⟨1, 0, none⟩ = some e ∧ (e = .nilIface ∨ ∃ t p, e = .iface t p)) := by
 obtain ⟨_, _, v1, c1, p1⟩ := h.1 (((1, 0), fun v => v = .nilIface ∨ ∃ t p, v = .iface t p)) (by simp)
 exact ⟨v1, c1, p1⟩
theorem glob_P {w : World} {M : St} (h : Glob S w M) : Lib.TabIs Tryz.prog w "internal/strconv.uint64pow10" .u64 Lib.pow10Tab := by
 obtain ⟨_, _, ob, c3, t, f, rfl⟩ := h.2 ((3, fun ob => ∃ t f, ob = .cells (Go.Lib.pow10Tab.map fun z => Value.int .u64 z).toArray t f)) (by simp)
 unfold Lib.TabIs World.var?
 rw [show Tryz.prog.globalNamed "internal/strconv.uint64pow10" = some 3 from by kernel_rfl]
 show (match w.heap[3]? with | some (.cells cs _ _) => some cs | _ => none) = _
 rw [c3]
theorem chg_of {w w' : World} {M : St} (h : RowKit.Below w.heap.size w w') : Chg w w' M := by
 obtain ⟨a, b, c, d, e⟩ := h
 exact ⟨a, b, c, d, fun k hk _ => e k hk, fun k o hk _ => cell_of_heap (e k hk), fun k o hk hs => by rw [cell_of_heap (e k hk)]; exact hs, fun k o hk _ => frz_of_heap (e k hk)⟩
theorem str_len (l : List UInt8) : (⟨l.toArray⟩ : ByteArray).size = l.length := by show l.toArray.size = _; simp
theorem below_grow (w : World) (k : Nat) (os : Array Obj) : RowKit.Below w.heap.size w (Go.Sort.grow (w.drewN k) os) :=
 ⟨rfl, rfl, rfl, by simp [Go.Sort.grow, World.drewN], fun j hj => by simp [Go.Sort.grow, World.drewN, Array.getElem?_append, hj]⟩
theorem str_res {w : World} {s M : St} (hM : NoSt M) (r : List UInt8) : KsRel Tryz.prog S w s M [.val (.data .str)] r [.string ⟨r.toArray⟩] :=
 ⟨_, _, _, _, splitL M, rfl, ⟨⟨hM, 1, rfl⟩, rfl⟩, fun _ _ h => h, rfl⟩
noncomputable def p_IndexByte (s : List UInt8) (c : Int) : Option Int := some (Lib.indexByte s c.toNat.toUInt8)
theorem p_IndexByte_snd69 : Snd Tryz.prog S ⟨69, [.val (.data .str), .val (.data (.int .u8))], [.val (.data (.int .i64))], fun x => p_IndexByte x.1 x.2⟩ := by
 refine ⟨⟨Tryz.f69, Tryz.func69, by kernel_rfl, by kernel_rfl⟩, fun w s M (x : List UInt8 × Int) args r hx hs hG hr => ?_⟩
 obtain ⟨x, y⟩ := x
 obtain ⟨M1, M2, v, rr, _, rfl, ⟨⟨_, n, h1⟩, h2⟩, M3, M4, v', rr', _, rfl, ⟨⟨_, n', h3⟩, h4⟩, _, rfl⟩ := hx
 have hv := RepV_str (w := w) (s := s) ⟨h2, n, h1⟩
 have hv' := RepV_int (w := w) (s := s) ⟨h4, n', h3⟩
 subst hv hv'
 cases hr
 refine (Tryz.strings_IndexByte _ _ w).mono ?_
 rintro e w' ⟨rfl, rfl⟩
 exact ⟨[.int .i64 _], fun _ _ => False, fun _ _ => False, rfl, Chg.refl _ _, ⟨_, _, _, _, noSplit', rfl, ⟨⟨fun _ _ h => h, 1, rfl⟩, rfl⟩, fun _ _ h => h, rfl⟩, fun _ _ h => h.elim, fun _ _ h => h.elim⟩
noncomputable def p_Contains (s sub : List UInt8) : Option Bool := if s.length < 4294967281 then some (Lib.contains s sub) else none
theorem p_Contains_snd100 : Snd Tryz.prog S ⟨100, [.val (.data .str), .val (.data .str)], [.val (.data .bool)], fun x => p_Contains x.1 x.2⟩ := by
 refine ⟨⟨Tryz.f100, Tryz.func100, by kernel_rfl, by kernel_rfl⟩, fun w s M (x : List UInt8 × List UInt8) args r hx hs hG hr => ?_⟩
 obtain ⟨x, y⟩ := x
 obtain ⟨M1, M2, v, rr, _, rfl, ⟨⟨_, n, h1⟩, h2⟩, M3, M4, v', rr', _, rfl, ⟨⟨_, n', h3⟩, h4⟩, _, rfl⟩ := hx
 have hv := RepV_str (w := w) (s := s) ⟨h2, n, h1⟩
 have hv' := RepV_str (w := w) (s := s) ⟨h4, n', h3⟩
 subst hv hv'
 obtain ⟨m, hm⟩ := glob_I hG
 replace hr : p_Contains x y = some r := hr
 unfold p_Contains at hr
 split at hr
 · rename_i hl
   cases hr
   refine (Tryz.strings_Contains ⟨x.toArray⟩ ⟨y.toArray⟩ m w (Nat.lt_of_le_of_lt (Nat.le_of_eq (str_len _)) hl) hm).mono ?_
   rintro e w' ⟨rfl, rfl⟩
   exact ⟨[.bool _], fun _ _ => False, fun _ _ => False, rfl, Chg.refl _ _, ⟨_, _, _, _, noSplit', rfl, ⟨⟨fun _ _ h => h, 1, rfl⟩, rfl⟩, fun _ _ h => h, rfl⟩, fun _ _ h => h.elim, fun _ _ h => h.elim⟩
 · cases hr
noncomputable def p_ParseInt (s : List UInt8) (b z : Int) : Option (Int × Bool) := if s.length ≤ 281474976710656 ∧ b = 10 ∧ z = 64 then some (match Lib.parseIntB 64 s with
 | .ok v => (v, true)
 | .range => (Lib.intSat 64 s, false)
 | _ => (0, false)) else none
theorem int_err {w : World} {s M : St} (hM : NoSt M) (v : Int) (b : Bool) (e : Value) (he : ErrRel b e) : KsRel Tryz.prog S w s M [.val (.data (.int .i64)), .err] (v, b) [.int .i64 v, e] :=
 ⟨_, _, _, _, splitL M, rfl, ⟨⟨hM, 1, rfl⟩, rfl⟩, _, _, _, _, noSplit', rfl, ⟨fun _ _ h => h, he⟩, fun _ _ h => h, rfl⟩
theorem p_ParseInt_snd99 : Snd Tryz.prog S ⟨99, [.val (.data .str), .val (.data (.int .i64)), .val (.data (.int .i64))], [.val (.data (.int .i64)), .err], fun x => p_ParseInt x.1 x.2.1 x.2.2⟩ := by
 refine ⟨⟨Tryz.f99, Tryz.func99, by kernel_rfl, by kernel_rfl⟩, fun w s M (x : List UInt8 × Int × Int) args r hx hs hG hr => ?_⟩
 obtain ⟨x, y, z⟩ := x
 obtain ⟨M1, M2, v, rr, _, rfl, ⟨⟨_, n, h1⟩, h2⟩, M3, M4, v', rr', _, rfl, ⟨⟨_, n', h3⟩, h4⟩, M5, M6, v'', rr'', _, rfl, ⟨⟨_, n'', h5⟩, h6⟩, _, rfl⟩ := hx
 have hv := RepV_str (w := w) (s := s) ⟨h2, n, h1⟩
 have hv' := RepV_int (w := w) (s := s) ⟨h4, n', h3⟩
 have hv'' := RepV_int (w := w) (s := s) ⟨h6, n'', h5⟩
 subst hv hv' hv''
 obtain ⟨e1, c1, k1⟩ := glob_R hG
 obtain ⟨e0, c0, k0⟩ := glob_S hG
 replace hr : p_ParseInt x y z = some r := hr
 unfold p_ParseInt at hr
 split at hr
 · rename_i hl
   obtain ⟨hl, rfl, rfl⟩ := hl
   have hsz : (⟨x.toArray⟩ : ByteArray).size ≤ 281474976710656 := Nat.le_trans (Nat.le_of_eq (str_len x)) hl
   have hfin : ∀ (r0 : Int × Bool) (e : Value) (w' : World), ErrRel r0.2 e → RowKit.Below w.heap.size w w' → ∃ us s' M', Ending.returned (Value.tuple #[.int .i64 r0.1, e]) = .returned (retV us) ∧ Chg w w' M ∧ KsRel Tryz.prog S w' s' M' [.val (.data (.int .i64)), .err] r0 (us ++ []) ∧
    (∀ b o, s' b o → b < w'.heap.size ∧ ¬ M' b o ∧ (s b o ∨ M b o ∨ w.heap.size ≤ b)) ∧ ∀ b o, M' b o → M b o ∨ w.heap.size ≤ b := fun r0 e w' he hb =>
    ⟨[.int .i64 r0.1, e], fun _ _ => False, fun _ _ => False, rfl, chg_of hb, int_err (fun _ _ h => h) _ _ _ he, fun _ _ h => h.elim, fun _ _ h => h.elim⟩
   cases hp : Lib.parseIntB 64 x with
   | ok v =>
    rw [hp] at hr
    cases hr
    refine (Tryz.strconv_ParseInt_10_at64_ok ⟨x.toArray⟩ (by omega) v hp w).mono ?_
    rintro e w' ⟨rfl, hw⟩
    refine hfin (v, true) .nilIface w' rfl ?_
    rcases hw with rfl | ⟨t, rfl⟩
    · exact RowKit.Below.refl _ _
    · exact ⟨rfl, rfl, rfl, by rw [Lib.bytesWorld_size]; omega, fun j hj => Lib.bytesWorld_at_old w 5 t j hj⟩
   | range =>
    rw [hp] at hr
    cases hr
    refine (Tryz.strconv_ParseInt_10_at64_range ⟨x.toArray⟩ hsz hp e1 w c1 k1).mono ?_
    rintro e w' ⟨N, rfl, _, _, hb⟩
    exact hfin (_, false) _ w' ⟨_, _, rfl⟩ hb
   | _ =>
    rw [hp] at hr
    cases hr
    refine (Any.strconv_ParseInt_10_at64_syntax Tryz.laysC174 ⟨x.toArray⟩ hsz hp e0 w c0 k0).mono ?_
    rintro e w' ⟨N, rfl, _, _, hb⟩
    exact hfin (0, false) _ w' ⟨_, _, rfl⟩ hb
 · cases hr
noncomputable def p_FormatInt (n b : Int) : Option (List UInt8) := if b = 10 ∧ -9223372036854775808 ≤ n ∧ n ≤ 9223372036854775807 then some (Lib.itoa n) else none
theorem p_FormatInt_snd145 : Snd Tryz.prog S ⟨145, [.val (.data (.int .i64)), .val (.data (.int .i64))], [.val (.data .str)], fun x => p_FormatInt x.1 x.2⟩ := by
 refine ⟨⟨Tryz.f145, Tryz.func145, by kernel_rfl, by kernel_rfl⟩, fun w s M (x : Int × Int) args r hx hs hG hr => ?_⟩
 obtain ⟨x, y⟩ := x
 obtain ⟨M1, M2, v, rr, _, rfl, ⟨⟨_, n, h1⟩, h2⟩, M3, M4, v', rr', _, rfl, ⟨⟨_, n', h3⟩, h4⟩, _, rfl⟩ := hx
 have hv := RepV_int (w := w) (s := s) ⟨h2, n, h1⟩
 have hv' := RepV_int (w := w) (s := s) ⟨h4, n', h3⟩
 subst hv hv'
 have ht := glob_P hG
 replace hr : p_FormatInt x y = some r := hr
 unfold p_FormatInt at hr
 split at hr
 · rename_i hl
   obtain ⟨rfl, hl⟩ := hl
   cases hr
   refine (Tryz.strconv_FormatInt_10 x hl.1 hl.2 w ht).mono ?_
   rintro e w' ⟨rfl, k, os, rfl⟩
   exact ⟨[.string _], fun _ _ => False, fun _ _ => False, rfl, chg_of (below_grow w k os), str_res (fun _ _ h => h) _, fun _ _ h => h.elim, fun _ _ h => h.elim⟩
 · cases hr
noncomputable def p_Itoa (n : Int) : Option (List UInt8) := if -9223372036854775808 ≤ n ∧ n ≤ 9223372036854775807 then some (Lib.itoa n) else none
theorem p_Itoa_snd110 : Snd Tryz.prog S ⟨110, [.val (.data (.int .i64))], [.val (.data .str)], fun x => p_Itoa x⟩ := by
 refine ⟨⟨Tryz.f110, Tryz.func110, by kernel_rfl, by kernel_rfl⟩, fun w s M (x : Int) args r hx hs hG hr => ?_⟩
 obtain ⟨M1, M2, v, rr, _, rfl, ⟨⟨_, n, h1⟩, h2⟩, _, rfl⟩ := hx
 have hv := RepV_int (w := w) (s := s) ⟨h2, n, h1⟩
 subst hv
 have ht := glob_P hG
 replace hr : p_Itoa x = some r := hr
 unfold p_Itoa at hr
 split at hr
 · rename_i hl
   cases hr
   refine (Tryz.strconv_Itoa x hl.1 hl.2 w ht).mono ?_
   rintro e w' ⟨rfl, k, os, rfl⟩
   exact ⟨[.string _], fun _ _ => False, fun _ _ => False, rfl, chg_of (below_grow w k os), str_res (fun _ _ h => h) _, fun _ _ h => h.elim, fun _ _ h => h.elim⟩
 · cases hr
noncomputable def p_Repeat (s : List UInt8) (c : Int) : Option (List UInt8) := if 0 ≤ c ∧ c ≤ 9223372036854775807 ∧ s.length * c.toNat ≤ 140737488355328 then some (Lib.repeatL s c.toNat) else none
theorem p_Repeat_snd79 : Snd Tryz.prog S ⟨79, [.val (.data .str), .val (.data (.int .i64))], [.val (.data .str)], fun x => p_Repeat x.1 x.2⟩ := by
 refine ⟨⟨Tryz.f79, Tryz.func79, by kernel_rfl, by kernel_rfl⟩, fun w s M (x : List UInt8 × Int) args r hx hs hG hr => ?_⟩
 obtain ⟨x, y⟩ := x
 obtain ⟨M1, M2, v, rr, _, rfl, ⟨⟨_, n, h1⟩, h2⟩, M3, M4, v', rr', _, rfl, ⟨⟨_, n', h3⟩, h4⟩, _, rfl⟩ := hx
 have hv := RepV_str (w := w) (s := s) ⟨h2, n, h1⟩
 have hv' := RepV_int (w := w) (s := s) ⟨h4, n', h3⟩
 subst hv hv'
 replace hr : p_Repeat x y = some r := hr
 unfold p_Repeat at hr
 split at hr
 · rename_i hl
   obtain ⟨h0, h1', h2'⟩ := hl
   cases hr
   have hc := Tryz.strings_Repeat ⟨x.toArray⟩ y.toNat w (by omega) h2'
   rw [Int.toNat_of_nonneg h0] at hc
   refine hc.mono ?_
   rintro e w' ⟨rfl, hb⟩
   exact ⟨[.string _], fun _ _ => False, fun _ _ => False, rfl, chg_of hb, str_res (fun _ _ h => h) _, fun _ _ h => h.elim, fun _ _ h => h.elim⟩
 · cases hr
theorem p_bldStr_snd78 : Snd Tryz.prog S ⟨78, [.bld, .val (.data .str)], [.val (.data (.int .i64)), .err], fun x => bldStr x.1 x.2⟩ :=
 bldStr_snd (ρ := Tryz.lays166_ren) Tryz.lays166 Tryz.Builder_Extra_166 rfl ⟨Tryz.f78, Tryz.func78, by kernel_rfl, by kernel_rfl⟩
theorem p_bldByte_snd81 : Snd Tryz.prog S ⟨81, [.bld, .val (.data (.int .u8))], [.err], fun x => bldByte x.1 x.2⟩ :=
 bldByte_snd (ρ := Tryz.lays167_ren) Tryz.lays167 Tryz.Builder_Extra_167 rfl ⟨Tryz.f81, Tryz.func81, by kernel_rfl, by kernel_rfl⟩
theorem p_bldByte_sndD81 : SndD Tryz.prog S ⟨81, [.bld, .val (.data (.int .u8))], [.err], fun x => bldByte x.1 x.2⟩ :=
 bldByte_sndD (ρ := Tryz.lays167_ren) Tryz.lays167 Tryz.Builder_Extra_167 rfl ⟨Tryz.f81, Tryz.func81, by kernel_rfl, by kernel_rfl⟩
noncomputable def bldRead (x : List UInt8) : Option (List UInt8 × List UInt8) := some (x, x)
theorem p_bldRead_snd42 : Snd Tryz.prog S ⟨42, [.bld], [.val (.data .str)], fun x => bldRead x⟩ :=
 bldRead_snd (ρ := Tryz.lays169_ren) Tryz.lays169 Tryz.Builder_Extra_169 rfl ⟨Tryz.f42, Tryz.func42, by kernel_rfl, by kernel_rfl⟩
end Go.Sy.Ex
set_option maxRecDepth 100000
namespace Go.Sy.Ex
open Go.Sy Go.Proofs
mutual
noncomputable def lex_skip_l0 : Nat → (List UInt8) → Int → Option Int
 | 0, _, _ => none
 | k + 1, text, v_at => if v_at < (text.length : Int) then
  if 0 ≤ v_at then
  if v_at < (text.length : Int) then
  (p_IndexByte s_sp_tab_nl_cr ((text.getD v_at.toNat 0).toNat : Int)).bind fun r1 =>
  if 0 ≤ r1 then
  lex_skip_l0 k text (w64 (v_at + 1)) else
  if 0 ≤ v_at then
  if v_at < (text.length : Int) then
  if ((text.getD v_at.toNat 0).toNat : Int) = 35 then
  lex_skip_l1 k text v_at else
  some v_at else none else none else none else none else
  some v_at
noncomputable def lex_skip_l1 : Nat → (List UInt8) → Int → Option Int
 | 0, _, _ => none
 | k + 1, text, v_at => if v_at < (text.length : Int) then
  if 0 ≤ v_at then
  if v_at < (text.length : Int) then
  if ((text.getD v_at.toNat 0).toNat : Int) ≠ 10 then
  lex_skip_l1 k text (w64 (v_at + 1)) else
  lex_skip_l0 k text v_at else none else none else
  lex_skip_l0 k text v_at
end
noncomputable def lex_skip_f (k : Nat) (text : List UInt8) (v_at : Int) : Option Int := lex_skip_l0 k text v_at
noncomputable def lex_skip  (text : List UInt8) (v_at : Int) : Option Int := lim (fun k (x : List UInt8 × Int) => lex_skip_f k x.1 x.2) (text, v_at)
noncomputable abbrev lex_skip_T : Tab S := ⟨[⟨69, [.val (.data .str), .val (.data (.int .u8))], [.val (.data (.int .i64))], fun x => p_IndexByte x.1 x.2⟩], [], false, false, none, []⟩
noncomputable def lex_skip_L (k : Nat) : Nat → List (Lab S Int)
 | 0 => [⟨[0, 1], [.val (.data .str), .val (.data (.int .i64))], fun x => lex_skip_l0 k x.1 x.2, false⟩]
 | 1 => []
 | 2 => [⟨[0, 1], [.val (.data .str), .val (.data (.int .i64))], fun x => lex_skip_l1 k x.1 x.2, false⟩]
 | _ + 3 => []
theorem lex_skip_eq (k : Nat) (text : List UInt8) (v_at : Int) : lex_skip_f k text v_at = exec S (lex_skip_T) byt (labs S (lex_skip_T) (lex_skip_L k)) (ac [] Tryz.f38) (frame0 S [.val (.data .str), .val (.data (.int .i64))] (text, v_at)) (retK S (lex_skip_T) Tryz.f38 [.val (.data .str), .val (.data (.int .i64))] [.val (.data (.int .i64))]) := by kernel_rfl
theorem lex_skip_vc (k : Nat) : VC S (lex_skip_T) byt (lex_skip_L k) (lex_skip_L (k + 1)) (ac [] Tryz.f38) (retK S (lex_skip_T) Tryz.f38 [.val (.data .str), .val (.data (.int .i64))] [.val (.data (.int .i64))]) = [∀ x : List UInt8 × Int, lex_skip_l1 (k + 1) x.1 x.2 = lex_skip_l1 (k + 1) x.1 x.2, ∀ x : List UInt8 × Int, lex_skip_l0 (k + 1) x.1 x.2 = lex_skip_l0 (k + 1) x.1 x.2] := by kernel_rfl
theorem lex_skip_sndk (k : Nat) : Snd Tryz.prog S ⟨38, [.val (.data .str), .val (.data (.int .i64))], [.val (.data (.int .i64))], fun x => lex_skip_f k x.1 x.2⟩ :=
 fn_ok progOk (T := (lex_skip_T)) (all_cons p_IndexByte_snd69 (all_nil)) (all_nil) (all_nil) mixed Tryz.func38 rfl (by kernel_rfl) (ac_code [] Tryz.f38 rfl) (L := lex_skip_L)
  (fun n l h x => by match n, h with
   | 0, h =>
    rcases List.mem_cons.1 h with rfl | h
    · rfl
    cases h
   | 1, h => cases h
   | 2, h =>
    rcases List.mem_cons.1 h with rfl | h
    · rfl
    cases h
   | _ + 3, h => cases h) (fun k n l h => by match n, h with
   | 0, h =>
    rcases List.mem_cons.1 h with rfl | h
    · rfl
    cases h
   | 1, h => cases h
   | 2, h =>
    rcases List.mem_cons.1 h with rfl | h
    · rfl
    cases h
   | _ + 3, h => cases h)
  (fun k => All.mem (lex_skip_vc k) ⟨fun _ => rfl, ⟨fun _ => rfl, trivial⟩⟩) (fun x r h => ⟨k, (lex_skip_eq k x.1 x.2).symm.trans h⟩) (by kernel_rfl) (by kernel_rfl) (Nat.le_of_ble_eq_true (by kernel_rfl)) (by kernel_rfl)
theorem lex_skip_snd : Snd Tryz.prog S ⟨38, [.val (.data .str), .val (.data (.int .i64))], [.val (.data (.int .i64))], fun x => lex_skip x.1 x.2⟩ := Snd.lim (lex_skip_sndk)
noncomputable def lex_kind  (c : Int) : Option (Bool × Bool) := if 48 ≤ c then
 if c ≤ 57 then
 some (true, true) else
 if 97 ≤ c then
 if c ≤ 122 then
 if c ≤ 122 then
 some (true, false) else
 some (false, false) else
 if 65 ≤ c then
 if c ≤ 90 then
 if c ≤ 90 then
 some (true, false) else
 some (false, false) else
 if c = 95 then
 some (true, false) else
 some (false, false) else
 if c = 95 then
 some (true, false) else
 some (false, false) else
 if 65 ≤ c then
 if c ≤ 90 then
 if c ≤ 90 then
 some (true, false) else
 some (false, false) else
 if c = 95 then
 some (true, false) else
 some (false, false) else
 if c = 95 then
 some (true, false) else
 some (false, false) else
 if 97 ≤ c then
 if c ≤ 122 then
 if c ≤ 122 then
 some (true, false) else
 some (false, false) else
 if 65 ≤ c then
 if c ≤ 90 then
 if c ≤ 90 then
 some (true, false) else
 some (false, false) else
 if c = 95 then
 some (true, false) else
 some (false, false) else
 if c = 95 then
 some (true, false) else
 some (false, false) else
 if 65 ≤ c then
 if c ≤ 90 then
 if c ≤ 90 then
 some (true, false) else
 some (false, false) else
 if c = 95 then
 some (true, false) else
 some (false, false) else
 if c = 95 then
 some (true, false) else
 some (false, false)
noncomputable abbrev lex_kind_T : Tab S := ⟨[], [], false, false, none, []⟩
noncomputable def lex_kind_L (k : Nat) : Nat → List (Lab S (Bool × Bool))
 | _ => []
theorem lex_kind_eq (k : Nat) (c : Int) : lex_kind c = exec S (lex_kind_T) byt (labs S (lex_kind_T) (lex_kind_L k)) (ac [] Tryz.f70) (frame0 S [.val (.data (.int .u8))] c) (retK S (lex_kind_T) Tryz.f70 [.val (.data (.int .u8))] [.val (.data .bool), .val (.data .bool)]) := by kernel_rfl
theorem lex_kind_vc (k : Nat) : VC S (lex_kind_T) byt (lex_kind_L k) (lex_kind_L (k + 1)) (ac [] Tryz.f70) (retK S (lex_kind_T) Tryz.f70 [.val (.data (.int .u8))] [.val (.data .bool), .val (.data .bool)]) = [] := by kernel_rfl
theorem lex_kind_snd : Snd Tryz.prog S ⟨70, [.val (.data (.int .u8))], [.val (.data .bool), .val (.data .bool)], fun x => lex_kind x⟩ :=
 fn_ok progOk (T := (lex_kind_T)) (all_nil) (all_nil) (all_nil) mixed Tryz.func70 rfl (by kernel_rfl) (ac_code [] Tryz.f70 rfl) (L := lex_kind_L)
  (fun n l h x => by cases h) (fun k n l h => by cases h)
  (fun k => All.mem (lex_kind_vc k) trivial) (fun x r h => ⟨0, (lex_kind_eq 0 x).symm.trans h⟩) (by kernel_rfl) (by kernel_rfl) (Nat.le_of_ble_eq_true (by kernel_rfl)) (by kernel_rfl)
noncomputable def lex_end_l0 : Nat → (List UInt8) → Int → Bool → Option Int
 | 0, _, _, _ => none
 | k + 1, text, v_at, number => if v_at < (text.length : Int) then
  if 0 ≤ v_at then
  if v_at < (text.length : Int) then
  (lex_kind ((text.getD v_at.toNat 0).toNat : Int)).bind fun r2 =>
  bif !r2.1 then
  some v_at else
  bif number then
  bif !r2.2 then
  some v_at else
  lex_end_l0 k text (w64 (v_at + 1)) number else
  lex_end_l0 k text (w64 (v_at + 1)) number else none else none else
  some v_at
noncomputable def lex_end_f (k : Nat) (text : List UInt8) (v_at : Int) : Option Int := if 0 ≤ v_at then
 if v_at < (text.length : Int) then
 (lex_kind ((text.getD v_at.toNat 0).toNat : Int)).bind fun r1 =>
 lex_end_l0 k text v_at r1.2 else none else none
noncomputable def lex_end  (text : List UInt8) (v_at : Int) : Option Int := lim (fun k (x : List UInt8 × Int) => lex_end_f k x.1 x.2) (text, v_at)
noncomputable abbrev lex_end_T : Tab S := ⟨[⟨70, [.val (.data (.int .u8))], [.val (.data .bool), .val (.data .bool)], fun x => lex_kind x⟩], [], false, false, none, []⟩
noncomputable def lex_end_L (k : Nat) : Nat → List (Lab S Int)
 | 0 => [⟨[0, 1, 6], [.val (.data .str), .val (.data (.int .i64)), .val (.data .bool)], fun x => lex_end_l0 k x.1 x.2.1 x.2.2, false⟩]
 | _ + 1 => []
theorem lex_end_eq (k : Nat) (text : List UInt8) (v_at : Int) : lex_end_f k text v_at = exec S (lex_end_T) byt (labs S (lex_end_T) (lex_end_L k)) (ac [] Tryz.f71) (frame0 S [.val (.data .str), .val (.data (.int .i64))] (text, v_at)) (retK S (lex_end_T) Tryz.f71 [.val (.data .str), .val (.data (.int .i64))] [.val (.data (.int .i64))]) := by kernel_rfl
theorem lex_end_vc (k : Nat) : VC S (lex_end_T) byt (lex_end_L k) (lex_end_L (k + 1)) (ac [] Tryz.f71) (retK S (lex_end_T) Tryz.f71 [.val (.data .str), .val (.data (.int .i64))] [.val (.data (.int .i64))]) = [∀ x : List UInt8 × Int × Bool, lex_end_l0 (k + 1) x.1 x.2.1 x.2.2 = lex_end_l0 (k + 1) x.1 x.2.1 x.2.2] := by kernel_rfl
theorem lex_end_sndk (k : Nat) : Snd Tryz.prog S ⟨71, [.val (.data .str), .val (.data (.int .i64))], [.val (.data (.int .i64))], fun x => lex_end_f k x.1 x.2⟩ :=
 fn_ok progOk (T := (lex_end_T)) (all_cons lex_kind_snd (all_nil)) (all_nil) (all_nil) mixed Tryz.func71 rfl (by kernel_rfl) (ac_code [] Tryz.f71 rfl) (L := lex_end_L)
  (fun n l h x => by match n, h with
   | 0, h =>
    rcases List.mem_cons.1 h with rfl | h
    · rfl
    cases h
   | _ + 1, h => cases h) (fun k n l h => by match n, h with
   | 0, h =>
    rcases List.mem_cons.1 h with rfl | h
    · rfl
    cases h
   | _ + 1, h => cases h)
  (fun k => All.mem (lex_end_vc k) ⟨fun _ => rfl, trivial⟩) (fun x r h => ⟨k, (lex_end_eq k x.1 x.2).symm.trans h⟩) (by kernel_rfl) (by kernel_rfl) (Nat.le_of_ble_eq_true (by kernel_rfl)) (by kernel_rfl)
theorem lex_end_snd : Snd Tryz.prog S ⟨71, [.val (.data .str), .val (.data (.int .i64))], [.val (.data (.int .i64))], fun x => lex_end x.1 x.2⟩ := Snd.lim (lex_end_sndk)
noncomputable def lex_number  (s : List UInt8) : Option (Int × Int) := if 1 < (s.length : Int) then
 if (0 : Int) ≤ 0 then
 if 0 < (s.length : Int) then
 if ((s.getD (0 : Int).toNat 0).toNat : Int) = 48 then
 some (0, 11) else
 (p_ParseInt s 10 64).bind fun r1 =>
 bif !r1.2 then
 some (0, 16) else
 some (r1.1, 0) else none else none else
 (p_ParseInt s 10 64).bind fun r2 =>
 bif !r2.2 then
 some (0, 16) else
 some (r2.1, 0)
noncomputable abbrev lex_number_T : Tab S := ⟨[⟨99, [.val (.data .str), .val (.data (.int .i64)), .val (.data (.int .i64))], [.val (.data (.int .i64)), .err], fun x => p_ParseInt x.1 x.2.1 x.2.2⟩], [], false, false, none, []⟩
noncomputable def lex_number_L (k : Nat) : Nat → List (Lab S (Int × Int))
 | _ => []
theorem lex_number_eq (k : Nat) (s : List UInt8) : lex_number s = exec S (lex_number_T) byt (labs S (lex_number_T) (lex_number_L k)) (ac [] Tryz.f72) (frame0 S [.val (.data .str)] s) (retK S (lex_number_T) Tryz.f72 [.val (.data .str)] [.val (.data (.int .i64)), .val (.data (.int .i64))]) := by kernel_rfl
theorem lex_number_vc (k : Nat) : VC S (lex_number_T) byt (lex_number_L k) (lex_number_L (k + 1)) (ac [] Tryz.f72) (retK S (lex_number_T) Tryz.f72 [.val (.data .str)] [.val (.data (.int .i64)), .val (.data (.int .i64))]) = [] := by kernel_rfl
theorem lex_number_snd : Snd Tryz.prog S ⟨72, [.val (.data .str)], [.val (.data (.int .i64)), .val (.data (.int .i64))], fun x => lex_number x⟩ :=
 fn_ok progOk (T := (lex_number_T)) (all_cons p_ParseInt_snd99 (all_nil)) (all_nil) (all_nil) mixed Tryz.func72 rfl (by kernel_rfl) (ac_code [] Tryz.f72 rfl) (L := lex_number_L)
  (fun n l h x => by cases h) (fun k n l h => by cases h)
  (fun k => All.mem (lex_number_vc k) trivial) (fun x r h => ⟨0, (lex_number_eq 0 x).symm.trans h⟩) (by kernel_rfl) (by kernel_rfl) (Nat.le_of_ble_eq_true (by kernel_rfl)) (by kernel_rfl)
noncomputable def lex_sign  (text : List UInt8) (v_at : Int) : Option Int := if (w64 (v_at + 1)) < (text.length : Int) then
 if 0 ≤ (w64 (v_at + 1)) then
 if (w64 (v_at + 1)) < (text.length : Int) then
 if ((text.getD (w64 (v_at + 1)).toNat 0).toNat : Int) ≠ 32 then
 if 0 ≤ (w64 (v_at + 2)) then
 if (w64 (v_at + 2)) ≤ (text.length : Int) then
 if 0 ≤ v_at then
 if v_at ≤ (w64 (v_at + 2)) then
 (p_Contains s_xe6575 (cut text v_at (w64 (v_at + 2)))).bind fun r1 =>
 bif r1 then
 some (w64 (v_at + 2)) else
 if 0 ≤ v_at then
 if v_at < (text.length : Int) then
 (p_IndexByte s_x5d46a ((text.getD v_at.toNat 0).toNat : Int)).bind fun r2 =>
 if 0 ≤ r2 then
 some (w64 (v_at + 1)) else
 some v_at else none else none else none else none else none else none else
 if 0 ≤ v_at then
 if v_at < (text.length : Int) then
 (p_IndexByte s_x5d46a ((text.getD v_at.toNat 0).toNat : Int)).bind fun r3 =>
 if 0 ≤ r3 then
 some (w64 (v_at + 1)) else
 some v_at else none else none else none else none else
 if 0 ≤ v_at then
 if v_at < (text.length : Int) then
 (p_IndexByte s_x5d46a ((text.getD v_at.toNat 0).toNat : Int)).bind fun r4 =>
 if 0 ≤ r4 then
 some (w64 (v_at + 1)) else
 some v_at else none else none
noncomputable abbrev lex_sign_T : Tab S := ⟨[⟨100, [.val (.data .str), .val (.data .str)], [.val (.data .bool)], fun x => p_Contains x.1 x.2⟩, ⟨69, [.val (.data .str), .val (.data (.int .u8))], [.val (.data (.int .i64))], fun x => p_IndexByte x.1 x.2⟩], [], false, false, none, []⟩
noncomputable def lex_sign_L (k : Nat) : Nat → List (Lab S Int)
 | _ => []
theorem lex_sign_eq (k : Nat) (text : List UInt8) (v_at : Int) : lex_sign text v_at = exec S (lex_sign_T) byt (labs S (lex_sign_T) (lex_sign_L k)) (ac [] Tryz.f73) (frame0 S [.val (.data .str), .val (.data (.int .i64))] (text, v_at)) (retK S (lex_sign_T) Tryz.f73 [.val (.data .str), .val (.data (.int .i64))] [.val (.data (.int .i64))]) := by kernel_rfl
theorem lex_sign_vc (k : Nat) : VC S (lex_sign_T) byt (lex_sign_L k) (lex_sign_L (k + 1)) (ac [] Tryz.f73) (retK S (lex_sign_T) Tryz.f73 [.val (.data .str), .val (.data (.int .i64))] [.val (.data (.int .i64))]) = [] := by kernel_rfl
theorem lex_sign_snd : Snd Tryz.prog S ⟨73, [.val (.data .str), .val (.data (.int .i64))], [.val (.data (.int .i64))], fun x => lex_sign x.1 x.2⟩ :=
 fn_ok progOk (T := (lex_sign_T)) (all_cons p_Contains_snd100 (all_cons p_IndexByte_snd69 (all_nil))) (all_nil) (all_nil) mixed Tryz.func73 rfl (by kernel_rfl) (ac_code [] Tryz.f73 rfl) (L := lex_sign_L)
  (fun n l h x => by cases h) (fun k n l h => by cases h)
  (fun k => All.mem (lex_sign_vc k) trivial) (fun x r h => ⟨0, (lex_sign_eq 0 x.1 x.2).symm.trans h⟩) (by kernel_rfl) (by kernel_rfl) (Nat.le_of_ble_eq_true (by kernel_rfl)) (by kernel_rfl)
noncomputable def lex_token  (text : List UInt8) (v_at : Int) : Option (api_Token × Int) := if 0 ≤ v_at then
 if v_at < (text.length : Int) then
 (lex_kind ((text.getD v_at.toNat 0).toNat : Int)).bind fun r1 =>
 bif r1.2 then
 (lex_end text v_at).bind fun r2 =>
 if 0 ≤ r2 then
 if r2 ≤ (text.length : Int) then
 if 0 ≤ v_at then
 if v_at ≤ r2 then
 (lex_number (cut text v_at r2)).bind fun r3 =>
 if r3.2 ≠ 0 then
 some (api_Token.mk 0 0 0 [] 0, r3.2) else
 if 0 ≤ r2 then
 if r2 ≤ (text.length : Int) then
 if 0 ≤ v_at then
 if v_at ≤ r2 then
 some (api_Token.mk 2 v_at r2 (cut text v_at r2) r3.1, 0) else none else none else none else none else none else none else none else none else
 bif r1.1 then
 (lex_end text v_at).bind fun r4 =>
 if 24 < (w64 (r4 - v_at)) then
 some (api_Token.mk 0 0 0 [] 0, 13) else
 if 0 ≤ r4 then
 if r4 ≤ (text.length : Int) then
 if 0 ≤ v_at then
 if v_at ≤ r4 then
 some (api_Token.mk 1 v_at r4 (cut text v_at r4) 0, 0) else none else none else none else none else
 (lex_sign text v_at).bind fun r5 =>
 if r5 = v_at then
 some (api_Token.mk 0 0 0 [] 0, 10) else
 if 0 ≤ r5 then
 if r5 ≤ (text.length : Int) then
 if 0 ≤ v_at then
 if v_at ≤ r5 then
 some (api_Token.mk 3 v_at r5 (cut text v_at r5) 0, 0) else none else none else none else none else none else none
noncomputable abbrev lex_token_T : Tab S := ⟨[⟨70, [.val (.data (.int .u8))], [.val (.data .bool), .val (.data .bool)], fun x => lex_kind x⟩, ⟨71, [.val (.data .str), .val (.data (.int .i64))], [.val (.data (.int .i64))], fun x => lex_end x.1 x.2⟩, ⟨72, [.val (.data .str)], [.val (.data (.int .i64)), .val (.data (.int .i64))], fun x => lex_number x⟩, ⟨73, [.val (.data .str), .val (.data (.int .i64))], [.val (.data (.int .i64))], fun x => lex_sign x.1 x.2⟩], [], false, false, none, []⟩
noncomputable def lex_token_L (k : Nat) : Nat → List (Lab S (api_Token × Int))
 | _ => []
theorem lex_token_eq (k : Nat) (text : List UInt8) (v_at : Int) : lex_token text v_at = exec S (lex_token_T) byt (labs S (lex_token_T) (lex_token_L k)) (ac [] Tryz.f39) (frame0 S [.val (.data .str), .val (.data (.int .i64))] (text, v_at)) (retK S (lex_token_T) Tryz.f39 [.val (.data .str), .val (.data (.int .i64))] [.val (.data (.st 2)), .val (.data (.int .i64))]) := by kernel_rfl
theorem lex_token_vc (k : Nat) : VC S (lex_token_T) byt (lex_token_L k) (lex_token_L (k + 1)) (ac [] Tryz.f39) (retK S (lex_token_T) Tryz.f39 [.val (.data .str), .val (.data (.int .i64))] [.val (.data (.st 2)), .val (.data (.int .i64))]) = [] := by kernel_rfl
theorem lex_token_snd : Snd Tryz.prog S ⟨39, [.val (.data .str), .val (.data (.int .i64))], [.val (.data (.st 2)), .val (.data (.int .i64))], fun x => lex_token x.1 x.2⟩ :=
 fn_ok progOk (T := (lex_token_T)) (all_cons lex_kind_snd (all_cons lex_end_snd (all_cons lex_number_snd (all_cons lex_sign_snd (all_nil))))) (all_nil) (all_nil) mixed Tryz.func39 rfl (by kernel_rfl) (ac_code [] Tryz.f39 rfl) (L := lex_token_L)
  (fun n l h x => by cases h) (fun k n l h => by cases h)
  (fun k => All.mem (lex_token_vc k) trivial) (fun x r h => ⟨0, (lex_token_eq 0 x.1 x.2).symm.trans h⟩) (by kernel_rfl) (by kernel_rfl) (Nat.le_of_ble_eq_true (by kernel_rfl)) (by kernel_rfl)
noncomputable def lex_All_l0 : Nat → (List UInt8) → Int → Int → (List api_Token) → Int → Option (List api_Token × api_Fault)
 | 0, _, _, _, _, _ => none
 | k + 1, text, x3_Code, x3_At, l, v_at => if v_at < (text.length : Int) then
  (lex_token text v_at).bind fun r2 =>
  if r2.2 ≠ 0 then
  some ([], api_Fault.mk r2.2 v_at) else
  if (l.length + [r2.1].length) * 48 ≤ 140737488355328 then
  (lex_skip text r2.1.End).bind fun r3 =>
  lex_All_l0 k text x3_Code x3_At (l ++ [r2.1]) r3 else none else
  if (l.length + [api_Token.mk 4 v_at v_at [] 0].length) * 48 ≤ 140737488355328 then
  some (l ++ [api_Token.mk 4 v_at v_at [] 0], api_Fault.mk 0 0) else none
noncomputable def lex_All_f (k : Nat) (text : List UInt8) : Option (List api_Token × api_Fault) := if 16384 < (text.length : Int) then
 some ([], api_Fault.mk 13 16384) else
 (lex_skip text 0).bind fun r1 =>
 lex_All_l0 k text 0 0 [] r1
noncomputable def lex_All  (text : List UInt8) : Option (List api_Token × api_Fault) := lim (fun k (x : List UInt8) => lex_All_f k x) text
noncomputable abbrev lex_All_T : Tab S := ⟨[⟨38, [.val (.data .str), .val (.data (.int .i64))], [.val (.data (.int .i64))], fun x => lex_skip x.1 x.2⟩, ⟨39, [.val (.data .str), .val (.data (.int .i64))], [.val (.data (.st 2)), .val (.data (.int .i64))], fun x => lex_token x.1 x.2⟩], [], false, false, none, []⟩
noncomputable def lex_All_L (k : Nat) : Nat → List (Lab S (List api_Token × api_Fault))
 | 0 => [⟨[0, 3, 4, 5], [.val (.data .str), .obj [.data (.int .i64), .data (.int .i64)], .val (.town (.st 2)), .val (.data (.int .i64))], fun x => lex_All_l0 k x.1 x.2.1.1 x.2.1.2 x.2.2.1 x.2.2.2, false⟩]
 | _ + 1 => []
theorem lex_All_eq (k : Nat) (text : List UInt8) : lex_All_f k text = exec S (lex_All_T) byt (labs S (lex_All_T) (lex_All_L k)) (ac [] Tryz.f18) (frame0 S [.val (.data .str)] text) (retK S (lex_All_T) Tryz.f18 [.val (.data .str)] [.val (.town (.st 2)), .val (.data (.st 3))]) := by kernel_rfl
theorem lex_All_vc (k : Nat) : VC S (lex_All_T) byt (lex_All_L k) (lex_All_L (k + 1)) (ac [] Tryz.f18) (retK S (lex_All_T) Tryz.f18 [.val (.data .str)] [.val (.town (.st 2)), .val (.data (.st 3))]) = [∀ x : List UInt8 × (Int × Int) × List api_Token × Int, lex_All_l0 (k + 1) x.1 x.2.1.1 x.2.1.2 x.2.2.1 x.2.2.2 = lex_All_l0 (k + 1) x.1 x.2.1.1 x.2.1.2 x.2.2.1 x.2.2.2] := by kernel_rfl
theorem lex_All_sndk (k : Nat) : Snd Tryz.prog S ⟨18, [.val (.data .str)], [.val (.town (.st 2)), .val (.data (.st 3))], fun x => lex_All_f k x⟩ :=
 fn_ok progOk (T := (lex_All_T)) (all_cons lex_skip_snd (all_cons lex_token_snd (all_nil))) (all_nil) (all_nil) mixed Tryz.func18 rfl (by kernel_rfl) (ac_code [] Tryz.f18 rfl) (L := lex_All_L)
  (fun n l h x => by match n, h with
   | 0, h =>
    rcases List.mem_cons.1 h with rfl | h
    · rfl
    cases h
   | _ + 1, h => cases h) (fun k n l h => by match n, h with
   | 0, h =>
    rcases List.mem_cons.1 h with rfl | h
    · rfl
    cases h
   | _ + 1, h => cases h)
  (fun k => All.mem (lex_All_vc k) ⟨fun _ => rfl, trivial⟩) (fun x r h => ⟨k, (lex_All_eq k x).symm.trans h⟩) (by kernel_rfl) (by kernel_rfl) (Nat.le_of_ble_eq_true (by kernel_rfl)) (by kernel_rfl)
theorem lex_All_snd : Snd Tryz.prog S ⟨18, [.val (.data .str)], [.val (.town (.st 2)), .val (.data (.st 3))], fun x => lex_All x⟩ := Snd.lim (lex_All_sndk)
noncomputable def read_Row_OK  (r_ : act_reader) : Option (Bool × act_reader) := some (decide (r_.Row.Fault.Code = 0), r_)
noncomputable abbrev read_Row_OK_T : Tab S := ⟨[], [], false, false, none, []⟩
noncomputable def read_Row_OK_L (k : Nat) : Nat → List (Lab S (Bool × act_reader))
 | _ => []
theorem read_Row_OK_eq (k : Nat) (r_ : act_reader) : read_Row_OK r_ = exec S (read_Row_OK_T) byt (labs S (read_Row_OK_T) (read_Row_OK_L k)) (ac [] Tryz.f28) (frame0 S [.obj [.data (.st 5)]] r_) (retK S (read_Row_OK_T) Tryz.f28 [.obj [.data (.st 5)]] [.val (.data .bool)]) := by kernel_rfl
theorem read_Row_OK_vc (k : Nat) : VC S (read_Row_OK_T) byt (read_Row_OK_L k) (read_Row_OK_L (k + 1)) (ac [] Tryz.f28) (retK S (read_Row_OK_T) Tryz.f28 [.obj [.data (.st 5)]] [.val (.data .bool)]) = [] := by kernel_rfl
theorem read_Row_OK_snd : Snd Tryz.prog S ⟨28, [.obj [.data (.st 5)]], [.val (.data .bool)], fun x => read_Row_OK x⟩ :=
 fn_ok progOk (T := (read_Row_OK_T)) (all_nil) (all_nil) (all_nil) mixed Tryz.func28 rfl (by kernel_rfl) (ac_code [] Tryz.f28 rfl) (L := read_Row_OK_L)
  (fun n l h x => by cases h) (fun k n l h => by cases h)
  (fun k => All.mem (read_Row_OK_vc k) trivial) (fun x r h => ⟨0, (read_Row_OK_eq 0 x).symm.trans h⟩) (by kernel_rfl) (by kernel_rfl) (Nat.le_of_ble_eq_true (by kernel_rfl)) (by kernel_rfl)
noncomputable def read_Row_Look  (r_ : act_reader) : Option (api_Token × act_reader) := (read_Row_OK r_).bind fun r1 =>
 bif !r1.1 then
 some (api_Token.mk 4 0 0 [] 0, r1.2) else
 if r1.2.Row.At < 0 then
 some (api_Token.mk 4 0 0 [] 0, r1.2) else
 if (r1.2.Row.L.length : Int) ≤ r1.2.Row.At then
 some (api_Token.mk 4 0 0 [] 0, r1.2) else
 if 0 ≤ r1.2.Row.At then
 if r1.2.Row.At < (r1.2.Row.L.length : Int) then
 some (r1.2.Row.L.getD r1.2.Row.At.toNat api_Token.z, r1.2) else none else none
noncomputable abbrev read_Row_Look_T : Tab S := ⟨[⟨28, [.obj [.data (.st 5)]], [.val (.data .bool)], fun x => read_Row_OK x⟩], [], false, false, none, []⟩
noncomputable def read_Row_Look_L (k : Nat) : Nat → List (Lab S (api_Token × act_reader))
 | _ => []
theorem read_Row_Look_eq (k : Nat) (r_ : act_reader) : read_Row_Look r_ = exec S (read_Row_Look_T) byt (labs S (read_Row_Look_T) (read_Row_Look_L k)) (ac [] Tryz.f55) (frame0 S [.obj [.data (.st 5)]] r_) (retK S (read_Row_Look_T) Tryz.f55 [.obj [.data (.st 5)]] [.val (.data (.st 2))]) := by kernel_rfl
theorem read_Row_Look_vc (k : Nat) : VC S (read_Row_Look_T) byt (read_Row_Look_L k) (read_Row_Look_L (k + 1)) (ac [] Tryz.f55) (retK S (read_Row_Look_T) Tryz.f55 [.obj [.data (.st 5)]] [.val (.data (.st 2))]) = [] := by kernel_rfl
theorem read_Row_Look_snd : Snd Tryz.prog S ⟨55, [.obj [.data (.st 5)]], [.val (.data (.st 2))], fun x => read_Row_Look x⟩ :=
 fn_ok progOk (T := (read_Row_Look_T)) (all_cons read_Row_OK_snd (all_nil)) (all_nil) (all_nil) mixed Tryz.func55 rfl (by kernel_rfl) (ac_code [] Tryz.f55 rfl) (L := read_Row_Look_L)
  (fun n l h x => by cases h) (fun k n l h => by cases h)
  (fun k => All.mem (read_Row_Look_vc k) trivial) (fun x r h => ⟨0, (read_Row_Look_eq 0 x).symm.trans h⟩) (by kernel_rfl) (by kernel_rfl) (Nat.le_of_ble_eq_true (by kernel_rfl)) (by kernel_rfl)
noncomputable def read_Row_Is  (r_ : act_reader) (s : List UInt8) : Option (Bool × act_reader) := (read_Row_Look r_).bind fun r1 =>
 if r1.1.Kind = 3 then
 some (decide (r1.1.Text = s), r1.2) else
 if r1.1.Kind = 1 then
 some (decide (r1.1.Text = s), r1.2) else
 some (false, r1.2)
noncomputable abbrev read_Row_Is_T : Tab S := ⟨[⟨55, [.obj [.data (.st 5)]], [.val (.data (.st 2))], fun x => read_Row_Look x⟩], [], false, false, none, []⟩
noncomputable def read_Row_Is_L (k : Nat) : Nat → List (Lab S (Bool × act_reader))
 | _ => []
theorem read_Row_Is_eq (k : Nat) (r_ : act_reader) (s : List UInt8) : read_Row_Is r_ s = exec S (read_Row_Is_T) byt (labs S (read_Row_Is_T) (read_Row_Is_L k)) (ac [] Tryz.f53) (frame0 S [.obj [.data (.st 5)], .val (.data .str)] (r_, s)) (retK S (read_Row_Is_T) Tryz.f53 [.obj [.data (.st 5)], .val (.data .str)] [.val (.data .bool)]) := by kernel_rfl
theorem read_Row_Is_vc (k : Nat) : VC S (read_Row_Is_T) byt (read_Row_Is_L k) (read_Row_Is_L (k + 1)) (ac [] Tryz.f53) (retK S (read_Row_Is_T) Tryz.f53 [.obj [.data (.st 5)], .val (.data .str)] [.val (.data .bool)]) = [] := by kernel_rfl
theorem read_Row_Is_snd : Snd Tryz.prog S ⟨53, [.obj [.data (.st 5)], .val (.data .str)], [.val (.data .bool)], fun x => read_Row_Is x.1 x.2⟩ :=
 fn_ok progOk (T := (read_Row_Is_T)) (all_cons read_Row_Look_snd (all_nil)) (all_nil) (all_nil) mixed Tryz.func53 rfl (by kernel_rfl) (ac_code [] Tryz.f53 rfl) (L := read_Row_Is_L)
  (fun n l h x => by cases h) (fun k n l h => by cases h)
  (fun k => All.mem (read_Row_Is_vc k) trivial) (fun x r h => ⟨0, (read_Row_Is_eq 0 x.1 x.2).symm.trans h⟩) (by kernel_rfl) (by kernel_rfl) (Nat.le_of_ble_eq_true (by kernel_rfl)) (by kernel_rfl)
noncomputable def read_Row_Fail  (r_ : act_reader) (code : Int) (v_at : Int) : Option act_reader := (read_Row_OK r_).bind fun r1 =>
 bif r1.1 then
 some (act_reader.mk (read_Row.mk r1.2.Row.L r1.2.Row.At (api_Fault.mk code v_at)) r1.2.v_open) else
 some r1.2
noncomputable abbrev read_Row_Fail_T : Tab S := ⟨[⟨28, [.obj [.data (.st 5)]], [.val (.data .bool)], fun x => read_Row_OK x⟩], [], false, false, none, []⟩
noncomputable def read_Row_Fail_L (k : Nat) : Nat → List (Lab S act_reader)
 | _ => []
theorem read_Row_Fail_eq (k : Nat) (r_ : act_reader) (code : Int) (v_at : Int) : read_Row_Fail r_ code v_at = exec S (read_Row_Fail_T) byt (labs S (read_Row_Fail_T) (read_Row_Fail_L k)) (ac [] Tryz.f54) (frame0 S [.obj [.data (.st 5)], .val (.data (.int .i64)), .val (.data (.int .i64))] (r_, code, v_at)) (retK S (read_Row_Fail_T) Tryz.f54 [.obj [.data (.st 5)], .val (.data (.int .i64)), .val (.data (.int .i64))] []) := by kernel_rfl
theorem read_Row_Fail_vc (k : Nat) : VC S (read_Row_Fail_T) byt (read_Row_Fail_L k) (read_Row_Fail_L (k + 1)) (ac [] Tryz.f54) (retK S (read_Row_Fail_T) Tryz.f54 [.obj [.data (.st 5)], .val (.data (.int .i64)), .val (.data (.int .i64))] []) = [] := by kernel_rfl
theorem read_Row_Fail_snd : Snd Tryz.prog S ⟨54, [.obj [.data (.st 5)], .val (.data (.int .i64)), .val (.data (.int .i64))], [], fun x => read_Row_Fail x.1 x.2.1 x.2.2⟩ :=
 fn_ok progOk (T := (read_Row_Fail_T)) (all_cons read_Row_OK_snd (all_nil)) (all_nil) (all_nil) mixed Tryz.func54 rfl (by kernel_rfl) (ac_code [] Tryz.f54 rfl) (L := read_Row_Fail_L)
  (fun n l h x => by cases h) (fun k n l h => by cases h)
  (fun k => All.mem (read_Row_Fail_vc k) trivial) (fun x r h => ⟨0, (read_Row_Fail_eq 0 x.1 x.2.1 x.2.2).symm.trans h⟩) (by kernel_rfl) (by kernel_rfl) (Nat.le_of_ble_eq_true (by kernel_rfl)) (by kernel_rfl)
noncomputable def read_Row_Take  (r_ : act_reader) (s : List UInt8) : Option (Bool × act_reader) := (read_Row_Is r_ s).bind fun r1 =>
 bif r1.1 then
 some (r1.1, act_reader.mk (read_Row.mk r1.2.Row.L (w64 (r1.2.Row.At + 1)) r1.2.Row.Fault) r1.2.v_open) else
 some (r1.1, r1.2)
noncomputable abbrev read_Row_Take_T : Tab S := ⟨[⟨53, [.obj [.data (.st 5)], .val (.data .str)], [.val (.data .bool)], fun x => read_Row_Is x.1 x.2⟩], [], false, false, none, []⟩
noncomputable def read_Row_Take_L (k : Nat) : Nat → List (Lab S (Bool × act_reader))
 | _ => []
theorem read_Row_Take_eq (k : Nat) (r_ : act_reader) (s : List UInt8) : read_Row_Take r_ s = exec S (read_Row_Take_T) byt (labs S (read_Row_Take_T) (read_Row_Take_L k)) (ac [] Tryz.f57) (frame0 S [.obj [.data (.st 5)], .val (.data .str)] (r_, s)) (retK S (read_Row_Take_T) Tryz.f57 [.obj [.data (.st 5)], .val (.data .str)] [.val (.data .bool)]) := by kernel_rfl
theorem read_Row_Take_vc (k : Nat) : VC S (read_Row_Take_T) byt (read_Row_Take_L k) (read_Row_Take_L (k + 1)) (ac [] Tryz.f57) (retK S (read_Row_Take_T) Tryz.f57 [.obj [.data (.st 5)], .val (.data .str)] [.val (.data .bool)]) = [] := by kernel_rfl
theorem read_Row_Take_snd : Snd Tryz.prog S ⟨57, [.obj [.data (.st 5)], .val (.data .str)], [.val (.data .bool)], fun x => read_Row_Take x.1 x.2⟩ :=
 fn_ok progOk (T := (read_Row_Take_T)) (all_cons read_Row_Is_snd (all_nil)) (all_nil) (all_nil) mixed Tryz.func57 rfl (by kernel_rfl) (ac_code [] Tryz.f57 rfl) (L := read_Row_Take_L)
  (fun n l h x => by cases h) (fun k n l h => by cases h)
  (fun k => All.mem (read_Row_Take_vc k) trivial) (fun x r h => ⟨0, (read_Row_Take_eq 0 x.1 x.2).symm.trans h⟩) (by kernel_rfl) (by kernel_rfl) (Nat.le_of_ble_eq_true (by kernel_rfl)) (by kernel_rfl)
noncomputable def read_Row_Wrong  (r_ : act_reader) : Option act_reader := (read_Row_Look r_).bind fun r1 =>
 if r1.1.Kind = 4 then
 (read_Row_Fail r1.2 12 r1.1.At).bind fun r2 =>
 some r2 else
 (read_Row_Fail r1.2 11 r1.1.At).bind fun r3 =>
 some r3
noncomputable abbrev read_Row_Wrong_T : Tab S := ⟨[⟨55, [.obj [.data (.st 5)]], [.val (.data (.st 2))], fun x => read_Row_Look x⟩, ⟨54, [.obj [.data (.st 5)], .val (.data (.int .i64)), .val (.data (.int .i64))], [], fun x => read_Row_Fail x.1 x.2.1 x.2.2⟩], [], false, false, none, []⟩
noncomputable def read_Row_Wrong_L (k : Nat) : Nat → List (Lab S act_reader)
 | _ => []
theorem read_Row_Wrong_eq (k : Nat) (r_ : act_reader) : read_Row_Wrong r_ = exec S (read_Row_Wrong_T) byt (labs S (read_Row_Wrong_T) (read_Row_Wrong_L k)) (ac [] Tryz.f83) (frame0 S [.obj [.data (.st 5)]] r_) (retK S (read_Row_Wrong_T) Tryz.f83 [.obj [.data (.st 5)]] []) := by kernel_rfl
theorem read_Row_Wrong_vc (k : Nat) : VC S (read_Row_Wrong_T) byt (read_Row_Wrong_L k) (read_Row_Wrong_L (k + 1)) (ac [] Tryz.f83) (retK S (read_Row_Wrong_T) Tryz.f83 [.obj [.data (.st 5)]] []) = [] := by kernel_rfl
theorem read_Row_Wrong_snd : Snd Tryz.prog S ⟨83, [.obj [.data (.st 5)]], [], fun x => read_Row_Wrong x⟩ :=
 fn_ok progOk (T := (read_Row_Wrong_T)) (all_cons read_Row_Look_snd (all_cons read_Row_Fail_snd (all_nil))) (all_nil) (all_nil) mixed Tryz.func83 rfl (by kernel_rfl) (ac_code [] Tryz.f83 rfl) (L := read_Row_Wrong_L)
  (fun n l h x => by cases h) (fun k n l h => by cases h)
  (fun k => All.mem (read_Row_Wrong_vc k) trivial) (fun x r h => ⟨0, (read_Row_Wrong_eq 0 x).symm.trans h⟩) (by kernel_rfl) (by kernel_rfl) (Nat.le_of_ble_eq_true (by kernel_rfl)) (by kernel_rfl)
noncomputable def read_Row_Want  (r_ : act_reader) (s : List UInt8) : Option act_reader := (read_Row_Take r_ s).bind fun r1 =>
 bif !r1.1 then
 (read_Row_Wrong r1.2).bind fun r2 =>
 some r2 else
 some r1.2
noncomputable abbrev read_Row_Want_T : Tab S := ⟨[⟨57, [.obj [.data (.st 5)], .val (.data .str)], [.val (.data .bool)], fun x => read_Row_Take x.1 x.2⟩, ⟨83, [.obj [.data (.st 5)]], [], fun x => read_Row_Wrong x⟩], [], false, false, none, []⟩
noncomputable def read_Row_Want_L (k : Nat) : Nat → List (Lab S act_reader)
 | _ => []
theorem read_Row_Want_eq (k : Nat) (r_ : act_reader) (s : List UInt8) : read_Row_Want r_ s = exec S (read_Row_Want_T) byt (labs S (read_Row_Want_T) (read_Row_Want_L k)) (ac [] Tryz.f56) (frame0 S [.obj [.data (.st 5)], .val (.data .str)] (r_, s)) (retK S (read_Row_Want_T) Tryz.f56 [.obj [.data (.st 5)], .val (.data .str)] []) := by kernel_rfl
theorem read_Row_Want_vc (k : Nat) : VC S (read_Row_Want_T) byt (read_Row_Want_L k) (read_Row_Want_L (k + 1)) (ac [] Tryz.f56) (retK S (read_Row_Want_T) Tryz.f56 [.obj [.data (.st 5)], .val (.data .str)] []) = [] := by kernel_rfl
theorem read_Row_Want_snd : Snd Tryz.prog S ⟨56, [.obj [.data (.st 5)], .val (.data .str)], [], fun x => read_Row_Want x.1 x.2⟩ :=
 fn_ok progOk (T := (read_Row_Want_T)) (all_cons read_Row_Take_snd (all_cons read_Row_Wrong_snd (all_nil))) (all_nil) (all_nil) mixed Tryz.func56 rfl (by kernel_rfl) (ac_code [] Tryz.f56 rfl) (L := read_Row_Want_L)
  (fun n l h x => by cases h) (fun k n l h => by cases h)
  (fun k => All.mem (read_Row_Want_vc k) trivial) (fun x r h => ⟨0, (read_Row_Want_eq 0 x.1 x.2).symm.trans h⟩) (by kernel_rfl) (by kernel_rfl) (Nat.le_of_ble_eq_true (by kernel_rfl)) (by kernel_rfl)
noncomputable def lex_Reserved  (s : List UInt8) : Option Bool := if s = s_system then
 if s = s_system then
 some true else
 some false else
 if s = s_age then
 if s = s_age then
 some true else
 some false else
 if s = s_chart then
 if s = s_chart then
 some true else
 some false else
 if s = s_steps then
 if s = s_steps then
 some true else
 some false else
 if s = s_fuel then
 if s = s_fuel then
 some true else
 some false else
 if s = s_var then
 if s = s_var then
 some true else
 some false else
 if s = s_port then
 if s = s_port then
 some true else
 some false else
 if s = s_timer then
 if s = s_timer then
 some true else
 some false else
 if s = s_state then
 if s = s_state then
 some true else
 some false else
 if s = s_parallel then
 if s = s_parallel then
 some true else
 some false else
 if s = s_history then
 if s = s_history then
 some true else
 some false else
 if s = s_deep then
 if s = s_deep then
 some true else
 some false else
 if s = s_entry then
 if s = s_entry then
 some true else
 some false else
 if s = s_exit then
 if s = s_exit then
 some true else
 some false else
 if s = s_on then
 if s = s_on then
 some true else
 some false else
 if s = s_auto then
 if s = s_auto then
 some true else
 some false else
 if s = s_raise then
 if s = s_raise then
 some true else
 some false else
 if s = s_send then
 if s = s_send then
 some true else
 some false else
 if s = s_arm then
 if s = s_arm then
 some true else
 some false else
 if s = s_cancel then
 if s = s_cancel then
 some true else
 some false else
 if s = s_if then
 if s = s_if then
 some true else
 some false else
 if s = s_else then
 if s = s_else then
 some true else
 some false else
 if s = s_loop then
 if s = s_loop then
 some true else
 some false else
 if s = s_in then
 if s = s_in then
 some true else
 some false else
 if s = s_inst then
 if s = s_inst then
 some true else
 some false else
 if s = s_quantum then
 if s = s_quantum then
 some true else
 some false else
 if s = s_ext then
 if s = s_ext then
 some true else
 some false else
 if s = s_prio then
 if s = s_prio then
 some true else
 some false else
 if s = s_chan then
 if s = s_chan then
 some true else
 some false else
 if s = s_cap then
 if s = s_cap then
 some true else
 some false else
 if s = s_cert then
 if s = s_cert then
 some true else
 some false else
 if s = s_insts then
 if s = s_insts then
 some true else
 some false else
 if s = s_chans then
 if s = s_chans then
 some true else
 some false else
 if s = s_cell then
 if s = s_cell then
 some true else
 some false else
 if s = s_off then
 some true else
 some false
noncomputable abbrev lex_Reserved_T : Tab S := ⟨[], [], false, false, none, []⟩
noncomputable def lex_Reserved_L (k : Nat) : Nat → List (Lab S Bool)
 | _ => []
theorem lex_Reserved_eq (k : Nat) (s : List UInt8) : lex_Reserved s = exec S (lex_Reserved_T) byt (labs S (lex_Reserved_T) (lex_Reserved_L k)) (ac [] Tryz.f113) (frame0 S [.val (.data .str)] s) (retK S (lex_Reserved_T) Tryz.f113 [.val (.data .str)] [.val (.data .bool)]) := by kernel_rfl
theorem lex_Reserved_vc (k : Nat) : VC S (lex_Reserved_T) byt (lex_Reserved_L k) (lex_Reserved_L (k + 1)) (ac [] Tryz.f113) (retK S (lex_Reserved_T) Tryz.f113 [.val (.data .str)] [.val (.data .bool)]) = [] := by kernel_rfl
theorem lex_Reserved_snd : Snd Tryz.prog S ⟨113, [.val (.data .str)], [.val (.data .bool)], fun x => lex_Reserved x⟩ :=
 fn_ok progOk (T := (lex_Reserved_T)) (all_nil) (all_nil) (all_nil) mixed Tryz.func113 rfl (by kernel_rfl) (ac_code [] Tryz.f113 rfl) (L := lex_Reserved_L)
  (fun n l h x => by cases h) (fun k n l h => by cases h)
  (fun k => All.mem (lex_Reserved_vc k) trivial) (fun x r h => ⟨0, (lex_Reserved_eq 0 x).symm.trans h⟩) (by kernel_rfl) (by kernel_rfl) (Nat.le_of_ble_eq_true (by kernel_rfl)) (by kernel_rfl)
noncomputable def read_Row_IsName  (r_ : act_reader) : Option (Bool × act_reader) := (read_Row_Look r_).bind fun r1 =>
 if r1.1.Kind = 1 then
 (lex_Reserved r1.1.Text).bind fun r2 =>
 some (!r2, r1.2) else
 some (false, r1.2)
noncomputable abbrev read_Row_IsName_T : Tab S := ⟨[⟨55, [.obj [.data (.st 5)]], [.val (.data (.st 2))], fun x => read_Row_Look x⟩, ⟨113, [.val (.data .str)], [.val (.data .bool)], fun x => lex_Reserved x⟩], [], false, false, none, []⟩
noncomputable def read_Row_IsName_L (k : Nat) : Nat → List (Lab S (Bool × act_reader))
 | _ => []
theorem read_Row_IsName_eq (k : Nat) (r_ : act_reader) : read_Row_IsName r_ = exec S (read_Row_IsName_T) byt (labs S (read_Row_IsName_T) (read_Row_IsName_L k)) (ac [] Tryz.f84) (frame0 S [.obj [.data (.st 5)]] r_) (retK S (read_Row_IsName_T) Tryz.f84 [.obj [.data (.st 5)]] [.val (.data .bool)]) := by kernel_rfl
theorem read_Row_IsName_vc (k : Nat) : VC S (read_Row_IsName_T) byt (read_Row_IsName_L k) (read_Row_IsName_L (k + 1)) (ac [] Tryz.f84) (retK S (read_Row_IsName_T) Tryz.f84 [.obj [.data (.st 5)]] [.val (.data .bool)]) = [] := by kernel_rfl
theorem read_Row_IsName_snd : Snd Tryz.prog S ⟨84, [.obj [.data (.st 5)]], [.val (.data .bool)], fun x => read_Row_IsName x⟩ :=
 fn_ok progOk (T := (read_Row_IsName_T)) (all_cons read_Row_Look_snd (all_cons lex_Reserved_snd (all_nil))) (all_nil) (all_nil) mixed Tryz.func84 rfl (by kernel_rfl) (ac_code [] Tryz.f84 rfl) (L := read_Row_IsName_L)
  (fun n l h x => by cases h) (fun k n l h => by cases h)
  (fun k => All.mem (read_Row_IsName_vc k) trivial) (fun x r h => ⟨0, (read_Row_IsName_eq 0 x).symm.trans h⟩) (by kernel_rfl) (by kernel_rfl) (Nat.le_of_ble_eq_true (by kernel_rfl)) (by kernel_rfl)
noncomputable def read_Row_Name  (r_ : act_reader) : Option (List UInt8 × act_reader) := (read_Row_IsName r_).bind fun r1 =>
 bif !r1.1 then
 (read_Row_Wrong r1.2).bind fun r2 =>
 some ([], r2) else
 if 0 ≤ (w64 ((w64 (r1.2.Row.At + 1)) - 1)) then
 if (w64 ((w64 (r1.2.Row.At + 1)) - 1)) < (r1.2.Row.L.length : Int) then
 some ((r1.2.Row.L.getD (w64 ((w64 (r1.2.Row.At + 1)) - 1)).toNat api_Token.z).Text, act_reader.mk (read_Row.mk r1.2.Row.L (w64 (r1.2.Row.At + 1)) r1.2.Row.Fault) r1.2.v_open) else none else none
noncomputable abbrev read_Row_Name_T : Tab S := ⟨[⟨84, [.obj [.data (.st 5)]], [.val (.data .bool)], fun x => read_Row_IsName x⟩, ⟨83, [.obj [.data (.st 5)]], [], fun x => read_Row_Wrong x⟩], [], false, false, none, []⟩
noncomputable def read_Row_Name_L (k : Nat) : Nat → List (Lab S (List UInt8 × act_reader))
 | _ => []
theorem read_Row_Name_eq (k : Nat) (r_ : act_reader) : read_Row_Name r_ = exec S (read_Row_Name_T) byt (labs S (read_Row_Name_T) (read_Row_Name_L k)) (ac [] Tryz.f85) (frame0 S [.obj [.data (.st 5)]] r_) (retK S (read_Row_Name_T) Tryz.f85 [.obj [.data (.st 5)]] [.val (.data .str)]) := by kernel_rfl
theorem read_Row_Name_vc (k : Nat) : VC S (read_Row_Name_T) byt (read_Row_Name_L k) (read_Row_Name_L (k + 1)) (ac [] Tryz.f85) (retK S (read_Row_Name_T) Tryz.f85 [.obj [.data (.st 5)]] [.val (.data .str)]) = [] := by kernel_rfl
theorem read_Row_Name_snd : Snd Tryz.prog S ⟨85, [.obj [.data (.st 5)]], [.val (.data .str)], fun x => read_Row_Name x⟩ :=
 fn_ok progOk (T := (read_Row_Name_T)) (all_cons read_Row_IsName_snd (all_cons read_Row_Wrong_snd (all_nil))) (all_nil) (all_nil) mixed Tryz.func85 rfl (by kernel_rfl) (ac_code [] Tryz.f85 rfl) (L := read_Row_Name_L)
  (fun n l h x => by cases h) (fun k n l h => by cases h)
  (fun k => All.mem (read_Row_Name_vc k) trivial) (fun x r h => ⟨0, (read_Row_Name_eq 0 x).symm.trans h⟩) (by kernel_rfl) (by kernel_rfl) (Nat.le_of_ble_eq_true (by kernel_rfl)) (by kernel_rfl)
noncomputable def read_Row_OK_1  (r_ : expr_reader) : Option (Bool × expr_reader) := some (decide (r_.Row.Fault.Code = 0), r_)
noncomputable abbrev read_Row_OK_1_T : Tab S := ⟨[], [], false, false, none, []⟩
noncomputable def read_Row_OK_1_L (k : Nat) : Nat → List (Lab S (Bool × expr_reader))
 | _ => []
theorem read_Row_OK_1_eq (k : Nat) (r_ : expr_reader) : read_Row_OK_1 r_ = exec S (read_Row_OK_1_T) byt (labs S (read_Row_OK_1_T) (read_Row_OK_1_L k)) (ac [] Tryz.f28) (frame0 S [.obj [.data (.st 6)]] r_) (retK S (read_Row_OK_1_T) Tryz.f28 [.obj [.data (.st 6)]] [.val (.data .bool)]) := by kernel_rfl
theorem read_Row_OK_1_vc (k : Nat) : VC S (read_Row_OK_1_T) byt (read_Row_OK_1_L k) (read_Row_OK_1_L (k + 1)) (ac [] Tryz.f28) (retK S (read_Row_OK_1_T) Tryz.f28 [.obj [.data (.st 6)]] [.val (.data .bool)]) = [] := by kernel_rfl
theorem read_Row_OK_1_snd : Snd Tryz.prog S ⟨28, [.obj [.data (.st 6)]], [.val (.data .bool)], fun x => read_Row_OK_1 x⟩ :=
 fn_ok progOk (T := (read_Row_OK_1_T)) (all_nil) (all_nil) (all_nil) mixed Tryz.func28 rfl (by kernel_rfl) (ac_code [] Tryz.f28 rfl) (L := read_Row_OK_1_L)
  (fun n l h x => by cases h) (fun k n l h => by cases h)
  (fun k => All.mem (read_Row_OK_1_vc k) trivial) (fun x r h => ⟨0, (read_Row_OK_1_eq 0 x).symm.trans h⟩) (by kernel_rfl) (by kernel_rfl) (Nat.le_of_ble_eq_true (by kernel_rfl)) (by kernel_rfl)
noncomputable def read_Row_Look_1  (r_ : expr_reader) : Option (api_Token × expr_reader) := (read_Row_OK_1 r_).bind fun r1 =>
 bif !r1.1 then
 some (api_Token.mk 4 0 0 [] 0, r1.2) else
 if r1.2.Row.At < 0 then
 some (api_Token.mk 4 0 0 [] 0, r1.2) else
 if (r1.2.Row.L.length : Int) ≤ r1.2.Row.At then
 some (api_Token.mk 4 0 0 [] 0, r1.2) else
 if 0 ≤ r1.2.Row.At then
 if r1.2.Row.At < (r1.2.Row.L.length : Int) then
 some (r1.2.Row.L.getD r1.2.Row.At.toNat api_Token.z, r1.2) else none else none
noncomputable abbrev read_Row_Look_1_T : Tab S := ⟨[⟨28, [.obj [.data (.st 6)]], [.val (.data .bool)], fun x => read_Row_OK_1 x⟩], [], false, false, none, []⟩
noncomputable def read_Row_Look_1_L (k : Nat) : Nat → List (Lab S (api_Token × expr_reader))
 | _ => []
theorem read_Row_Look_1_eq (k : Nat) (r_ : expr_reader) : read_Row_Look_1 r_ = exec S (read_Row_Look_1_T) byt (labs S (read_Row_Look_1_T) (read_Row_Look_1_L k)) (ac [] Tryz.f55) (frame0 S [.obj [.data (.st 6)]] r_) (retK S (read_Row_Look_1_T) Tryz.f55 [.obj [.data (.st 6)]] [.val (.data (.st 2))]) := by kernel_rfl
theorem read_Row_Look_1_vc (k : Nat) : VC S (read_Row_Look_1_T) byt (read_Row_Look_1_L k) (read_Row_Look_1_L (k + 1)) (ac [] Tryz.f55) (retK S (read_Row_Look_1_T) Tryz.f55 [.obj [.data (.st 6)]] [.val (.data (.st 2))]) = [] := by kernel_rfl
theorem read_Row_Look_1_snd : Snd Tryz.prog S ⟨55, [.obj [.data (.st 6)]], [.val (.data (.st 2))], fun x => read_Row_Look_1 x⟩ :=
 fn_ok progOk (T := (read_Row_Look_1_T)) (all_cons read_Row_OK_1_snd (all_nil)) (all_nil) (all_nil) mixed Tryz.func55 rfl (by kernel_rfl) (ac_code [] Tryz.f55 rfl) (L := read_Row_Look_1_L)
  (fun n l h x => by cases h) (fun k n l h => by cases h)
  (fun k => All.mem (read_Row_Look_1_vc k) trivial) (fun x r h => ⟨0, (read_Row_Look_1_eq 0 x).symm.trans h⟩) (by kernel_rfl) (by kernel_rfl) (Nat.le_of_ble_eq_true (by kernel_rfl)) (by kernel_rfl)
noncomputable def read_Row_Is_1  (r_ : expr_reader) (s : List UInt8) : Option (Bool × expr_reader) := (read_Row_Look_1 r_).bind fun r1 =>
 if r1.1.Kind = 3 then
 some (decide (r1.1.Text = s), r1.2) else
 if r1.1.Kind = 1 then
 some (decide (r1.1.Text = s), r1.2) else
 some (false, r1.2)
noncomputable abbrev read_Row_Is_1_T : Tab S := ⟨[⟨55, [.obj [.data (.st 6)]], [.val (.data (.st 2))], fun x => read_Row_Look_1 x⟩], [], false, false, none, []⟩
noncomputable def read_Row_Is_1_L (k : Nat) : Nat → List (Lab S (Bool × expr_reader))
 | _ => []
theorem read_Row_Is_1_eq (k : Nat) (r_ : expr_reader) (s : List UInt8) : read_Row_Is_1 r_ s = exec S (read_Row_Is_1_T) byt (labs S (read_Row_Is_1_T) (read_Row_Is_1_L k)) (ac [] Tryz.f53) (frame0 S [.obj [.data (.st 6)], .val (.data .str)] (r_, s)) (retK S (read_Row_Is_1_T) Tryz.f53 [.obj [.data (.st 6)], .val (.data .str)] [.val (.data .bool)]) := by kernel_rfl
theorem read_Row_Is_1_vc (k : Nat) : VC S (read_Row_Is_1_T) byt (read_Row_Is_1_L k) (read_Row_Is_1_L (k + 1)) (ac [] Tryz.f53) (retK S (read_Row_Is_1_T) Tryz.f53 [.obj [.data (.st 6)], .val (.data .str)] [.val (.data .bool)]) = [] := by kernel_rfl
theorem read_Row_Is_1_snd : Snd Tryz.prog S ⟨53, [.obj [.data (.st 6)], .val (.data .str)], [.val (.data .bool)], fun x => read_Row_Is_1 x.1 x.2⟩ :=
 fn_ok progOk (T := (read_Row_Is_1_T)) (all_cons read_Row_Look_1_snd (all_nil)) (all_nil) (all_nil) mixed Tryz.func53 rfl (by kernel_rfl) (ac_code [] Tryz.f53 rfl) (L := read_Row_Is_1_L)
  (fun n l h x => by cases h) (fun k n l h => by cases h)
  (fun k => All.mem (read_Row_Is_1_vc k) trivial) (fun x r h => ⟨0, (read_Row_Is_1_eq 0 x.1 x.2).symm.trans h⟩) (by kernel_rfl) (by kernel_rfl) (Nat.le_of_ble_eq_true (by kernel_rfl)) (by kernel_rfl)
noncomputable def read_Row_Fail_1  (r_ : expr_reader) (code : Int) (v_at : Int) : Option expr_reader := (read_Row_OK_1 r_).bind fun r1 =>
 bif r1.1 then
 some (expr_reader.mk (read_Row.mk r1.2.Row.L r1.2.Row.At (api_Fault.mk code v_at)) r1.2.v_open) else
 some r1.2
noncomputable abbrev read_Row_Fail_1_T : Tab S := ⟨[⟨28, [.obj [.data (.st 6)]], [.val (.data .bool)], fun x => read_Row_OK_1 x⟩], [], false, false, none, []⟩
noncomputable def read_Row_Fail_1_L (k : Nat) : Nat → List (Lab S expr_reader)
 | _ => []
theorem read_Row_Fail_1_eq (k : Nat) (r_ : expr_reader) (code : Int) (v_at : Int) : read_Row_Fail_1 r_ code v_at = exec S (read_Row_Fail_1_T) byt (labs S (read_Row_Fail_1_T) (read_Row_Fail_1_L k)) (ac [] Tryz.f54) (frame0 S [.obj [.data (.st 6)], .val (.data (.int .i64)), .val (.data (.int .i64))] (r_, code, v_at)) (retK S (read_Row_Fail_1_T) Tryz.f54 [.obj [.data (.st 6)], .val (.data (.int .i64)), .val (.data (.int .i64))] []) := by kernel_rfl
theorem read_Row_Fail_1_vc (k : Nat) : VC S (read_Row_Fail_1_T) byt (read_Row_Fail_1_L k) (read_Row_Fail_1_L (k + 1)) (ac [] Tryz.f54) (retK S (read_Row_Fail_1_T) Tryz.f54 [.obj [.data (.st 6)], .val (.data (.int .i64)), .val (.data (.int .i64))] []) = [] := by kernel_rfl
theorem read_Row_Fail_1_snd : Snd Tryz.prog S ⟨54, [.obj [.data (.st 6)], .val (.data (.int .i64)), .val (.data (.int .i64))], [], fun x => read_Row_Fail_1 x.1 x.2.1 x.2.2⟩ :=
 fn_ok progOk (T := (read_Row_Fail_1_T)) (all_cons read_Row_OK_1_snd (all_nil)) (all_nil) (all_nil) mixed Tryz.func54 rfl (by kernel_rfl) (ac_code [] Tryz.f54 rfl) (L := read_Row_Fail_1_L)
  (fun n l h x => by cases h) (fun k n l h => by cases h)
  (fun k => All.mem (read_Row_Fail_1_vc k) trivial) (fun x r h => ⟨0, (read_Row_Fail_1_eq 0 x.1 x.2.1 x.2.2).symm.trans h⟩) (by kernel_rfl) (by kernel_rfl) (Nat.le_of_ble_eq_true (by kernel_rfl)) (by kernel_rfl)
noncomputable def expr_reader_deep  (r_ : expr_reader) (v_at : Int) : Option (Bool × expr_reader) := if r_.v_open = 12 then
 (read_Row_Fail_1 r_ 14 v_at).bind fun r1 =>
 some (false, r1) else
 some (true, expr_reader.mk (read_Row.mk r_.Row.L (w64 (r_.Row.At + 1)) r_.Row.Fault) (w64 (r_.v_open + 1)))
noncomputable abbrev expr_reader_deep_T : Tab S := ⟨[⟨54, [.obj [.data (.st 6)], .val (.data (.int .i64)), .val (.data (.int .i64))], [], fun x => read_Row_Fail_1 x.1 x.2.1 x.2.2⟩], [], false, false, none, []⟩
noncomputable def expr_reader_deep_L (k : Nat) : Nat → List (Lab S (Bool × expr_reader))
 | _ => []
theorem expr_reader_deep_eq (k : Nat) (r_ : expr_reader) (v_at : Int) : expr_reader_deep r_ v_at = exec S (expr_reader_deep_T) byt (labs S (expr_reader_deep_T) (expr_reader_deep_L k)) (ac [] Tryz.f163) (frame0 S [.obj [.data (.st 6)], .val (.data (.int .i64))] (r_, v_at)) (retK S (expr_reader_deep_T) Tryz.f163 [.obj [.data (.st 6)], .val (.data (.int .i64))] [.val (.data .bool)]) := by kernel_rfl
theorem expr_reader_deep_vc (k : Nat) : VC S (expr_reader_deep_T) byt (expr_reader_deep_L k) (expr_reader_deep_L (k + 1)) (ac [] Tryz.f163) (retK S (expr_reader_deep_T) Tryz.f163 [.obj [.data (.st 6)], .val (.data (.int .i64))] [.val (.data .bool)]) = [] := by kernel_rfl
theorem expr_reader_deep_snd : Snd Tryz.prog S ⟨163, [.obj [.data (.st 6)], .val (.data (.int .i64))], [.val (.data .bool)], fun x => expr_reader_deep x.1 x.2⟩ :=
 fn_ok progOk (T := (expr_reader_deep_T)) (all_cons read_Row_Fail_1_snd (all_nil)) (all_nil) (all_nil) mixed Tryz.func163 rfl (by kernel_rfl) (ac_code [] Tryz.f163 rfl) (L := expr_reader_deep_L)
  (fun n l h x => by cases h) (fun k n l h => by cases h)
  (fun k => All.mem (expr_reader_deep_vc k) trivial) (fun x r h => ⟨0, (expr_reader_deep_eq 0 x.1 x.2).symm.trans h⟩) (by kernel_rfl) (by kernel_rfl) (Nat.le_of_ble_eq_true (by kernel_rfl)) (by kernel_rfl)
noncomputable def read_Row_Take_1  (r_ : expr_reader) (s : List UInt8) : Option (Bool × expr_reader) := (read_Row_Is_1 r_ s).bind fun r1 =>
 bif r1.1 then
 some (r1.1, expr_reader.mk (read_Row.mk r1.2.Row.L (w64 (r1.2.Row.At + 1)) r1.2.Row.Fault) r1.2.v_open) else
 some (r1.1, r1.2)
noncomputable abbrev read_Row_Take_1_T : Tab S := ⟨[⟨53, [.obj [.data (.st 6)], .val (.data .str)], [.val (.data .bool)], fun x => read_Row_Is_1 x.1 x.2⟩], [], false, false, none, []⟩
noncomputable def read_Row_Take_1_L (k : Nat) : Nat → List (Lab S (Bool × expr_reader))
 | _ => []
theorem read_Row_Take_1_eq (k : Nat) (r_ : expr_reader) (s : List UInt8) : read_Row_Take_1 r_ s = exec S (read_Row_Take_1_T) byt (labs S (read_Row_Take_1_T) (read_Row_Take_1_L k)) (ac [] Tryz.f57) (frame0 S [.obj [.data (.st 6)], .val (.data .str)] (r_, s)) (retK S (read_Row_Take_1_T) Tryz.f57 [.obj [.data (.st 6)], .val (.data .str)] [.val (.data .bool)]) := by kernel_rfl
theorem read_Row_Take_1_vc (k : Nat) : VC S (read_Row_Take_1_T) byt (read_Row_Take_1_L k) (read_Row_Take_1_L (k + 1)) (ac [] Tryz.f57) (retK S (read_Row_Take_1_T) Tryz.f57 [.obj [.data (.st 6)], .val (.data .str)] [.val (.data .bool)]) = [] := by kernel_rfl
theorem read_Row_Take_1_snd : Snd Tryz.prog S ⟨57, [.obj [.data (.st 6)], .val (.data .str)], [.val (.data .bool)], fun x => read_Row_Take_1 x.1 x.2⟩ :=
 fn_ok progOk (T := (read_Row_Take_1_T)) (all_cons read_Row_Is_1_snd (all_nil)) (all_nil) (all_nil) mixed Tryz.func57 rfl (by kernel_rfl) (ac_code [] Tryz.f57 rfl) (L := read_Row_Take_1_L)
  (fun n l h x => by cases h) (fun k n l h => by cases h)
  (fun k => All.mem (read_Row_Take_1_vc k) trivial) (fun x r h => ⟨0, (read_Row_Take_1_eq 0 x.1 x.2).symm.trans h⟩) (by kernel_rfl) (by kernel_rfl) (Nat.le_of_ble_eq_true (by kernel_rfl)) (by kernel_rfl)
noncomputable def read_Row_IsName_1  (r_ : expr_reader) : Option (Bool × expr_reader) := (read_Row_Look_1 r_).bind fun r1 =>
 if r1.1.Kind = 1 then
 (lex_Reserved r1.1.Text).bind fun r2 =>
 some (!r2, r1.2) else
 some (false, r1.2)
noncomputable abbrev read_Row_IsName_1_T : Tab S := ⟨[⟨55, [.obj [.data (.st 6)]], [.val (.data (.st 2))], fun x => read_Row_Look_1 x⟩, ⟨113, [.val (.data .str)], [.val (.data .bool)], fun x => lex_Reserved x⟩], [], false, false, none, []⟩
noncomputable def read_Row_IsName_1_L (k : Nat) : Nat → List (Lab S (Bool × expr_reader))
 | _ => []
theorem read_Row_IsName_1_eq (k : Nat) (r_ : expr_reader) : read_Row_IsName_1 r_ = exec S (read_Row_IsName_1_T) byt (labs S (read_Row_IsName_1_T) (read_Row_IsName_1_L k)) (ac [] Tryz.f84) (frame0 S [.obj [.data (.st 6)]] r_) (retK S (read_Row_IsName_1_T) Tryz.f84 [.obj [.data (.st 6)]] [.val (.data .bool)]) := by kernel_rfl
theorem read_Row_IsName_1_vc (k : Nat) : VC S (read_Row_IsName_1_T) byt (read_Row_IsName_1_L k) (read_Row_IsName_1_L (k + 1)) (ac [] Tryz.f84) (retK S (read_Row_IsName_1_T) Tryz.f84 [.obj [.data (.st 6)]] [.val (.data .bool)]) = [] := by kernel_rfl
theorem read_Row_IsName_1_snd : Snd Tryz.prog S ⟨84, [.obj [.data (.st 6)]], [.val (.data .bool)], fun x => read_Row_IsName_1 x⟩ :=
 fn_ok progOk (T := (read_Row_IsName_1_T)) (all_cons read_Row_Look_1_snd (all_cons lex_Reserved_snd (all_nil))) (all_nil) (all_nil) mixed Tryz.func84 rfl (by kernel_rfl) (ac_code [] Tryz.f84 rfl) (L := read_Row_IsName_1_L)
  (fun n l h x => by cases h) (fun k n l h => by cases h)
  (fun k => All.mem (read_Row_IsName_1_vc k) trivial) (fun x r h => ⟨0, (read_Row_IsName_1_eq 0 x).symm.trans h⟩) (by kernel_rfl) (by kernel_rfl) (Nat.le_of_ble_eq_true (by kernel_rfl)) (by kernel_rfl)
noncomputable def read_Row_Wrong_1  (r_ : expr_reader) : Option expr_reader := (read_Row_Look_1 r_).bind fun r1 =>
 if r1.1.Kind = 4 then
 (read_Row_Fail_1 r1.2 12 r1.1.At).bind fun r2 =>
 some r2 else
 (read_Row_Fail_1 r1.2 11 r1.1.At).bind fun r3 =>
 some r3
noncomputable abbrev read_Row_Wrong_1_T : Tab S := ⟨[⟨55, [.obj [.data (.st 6)]], [.val (.data (.st 2))], fun x => read_Row_Look_1 x⟩, ⟨54, [.obj [.data (.st 6)], .val (.data (.int .i64)), .val (.data (.int .i64))], [], fun x => read_Row_Fail_1 x.1 x.2.1 x.2.2⟩], [], false, false, none, []⟩
noncomputable def read_Row_Wrong_1_L (k : Nat) : Nat → List (Lab S expr_reader)
 | _ => []
theorem read_Row_Wrong_1_eq (k : Nat) (r_ : expr_reader) : read_Row_Wrong_1 r_ = exec S (read_Row_Wrong_1_T) byt (labs S (read_Row_Wrong_1_T) (read_Row_Wrong_1_L k)) (ac [] Tryz.f83) (frame0 S [.obj [.data (.st 6)]] r_) (retK S (read_Row_Wrong_1_T) Tryz.f83 [.obj [.data (.st 6)]] []) := by kernel_rfl
theorem read_Row_Wrong_1_vc (k : Nat) : VC S (read_Row_Wrong_1_T) byt (read_Row_Wrong_1_L k) (read_Row_Wrong_1_L (k + 1)) (ac [] Tryz.f83) (retK S (read_Row_Wrong_1_T) Tryz.f83 [.obj [.data (.st 6)]] []) = [] := by kernel_rfl
theorem read_Row_Wrong_1_snd : Snd Tryz.prog S ⟨83, [.obj [.data (.st 6)]], [], fun x => read_Row_Wrong_1 x⟩ :=
 fn_ok progOk (T := (read_Row_Wrong_1_T)) (all_cons read_Row_Look_1_snd (all_cons read_Row_Fail_1_snd (all_nil))) (all_nil) (all_nil) mixed Tryz.func83 rfl (by kernel_rfl) (ac_code [] Tryz.f83 rfl) (L := read_Row_Wrong_1_L)
  (fun n l h x => by cases h) (fun k n l h => by cases h)
  (fun k => All.mem (read_Row_Wrong_1_vc k) trivial) (fun x r h => ⟨0, (read_Row_Wrong_1_eq 0 x).symm.trans h⟩) (by kernel_rfl) (by kernel_rfl) (Nat.le_of_ble_eq_true (by kernel_rfl)) (by kernel_rfl)
noncomputable def read_Row_Name_1  (r_ : expr_reader) : Option (List UInt8 × expr_reader) := (read_Row_IsName_1 r_).bind fun r1 =>
 bif !r1.1 then
 (read_Row_Wrong_1 r1.2).bind fun r2 =>
 some ([], r2) else
 if 0 ≤ (w64 ((w64 (r1.2.Row.At + 1)) - 1)) then
 if (w64 ((w64 (r1.2.Row.At + 1)) - 1)) < (r1.2.Row.L.length : Int) then
 some ((r1.2.Row.L.getD (w64 ((w64 (r1.2.Row.At + 1)) - 1)).toNat api_Token.z).Text, expr_reader.mk (read_Row.mk r1.2.Row.L (w64 (r1.2.Row.At + 1)) r1.2.Row.Fault) r1.2.v_open) else none else none
noncomputable abbrev read_Row_Name_1_T : Tab S := ⟨[⟨84, [.obj [.data (.st 6)]], [.val (.data .bool)], fun x => read_Row_IsName_1 x⟩, ⟨83, [.obj [.data (.st 6)]], [], fun x => read_Row_Wrong_1 x⟩], [], false, false, none, []⟩
noncomputable def read_Row_Name_1_L (k : Nat) : Nat → List (Lab S (List UInt8 × expr_reader))
 | _ => []
theorem read_Row_Name_1_eq (k : Nat) (r_ : expr_reader) : read_Row_Name_1 r_ = exec S (read_Row_Name_1_T) byt (labs S (read_Row_Name_1_T) (read_Row_Name_1_L k)) (ac [] Tryz.f85) (frame0 S [.obj [.data (.st 6)]] r_) (retK S (read_Row_Name_1_T) Tryz.f85 [.obj [.data (.st 6)]] [.val (.data .str)]) := by kernel_rfl
theorem read_Row_Name_1_vc (k : Nat) : VC S (read_Row_Name_1_T) byt (read_Row_Name_1_L k) (read_Row_Name_1_L (k + 1)) (ac [] Tryz.f85) (retK S (read_Row_Name_1_T) Tryz.f85 [.obj [.data (.st 6)]] [.val (.data .str)]) = [] := by kernel_rfl
theorem read_Row_Name_1_snd : Snd Tryz.prog S ⟨85, [.obj [.data (.st 6)]], [.val (.data .str)], fun x => read_Row_Name_1 x⟩ :=
 fn_ok progOk (T := (read_Row_Name_1_T)) (all_cons read_Row_IsName_1_snd (all_cons read_Row_Wrong_1_snd (all_nil))) (all_nil) (all_nil) mixed Tryz.func85 rfl (by kernel_rfl) (ac_code [] Tryz.f85 rfl) (L := read_Row_Name_1_L)
  (fun n l h x => by cases h) (fun k n l h => by cases h)
  (fun k => All.mem (read_Row_Name_1_vc k) trivial) (fun x r h => ⟨0, (read_Row_Name_1_eq 0 x).symm.trans h⟩) (by kernel_rfl) (by kernel_rfl) (Nat.le_of_ble_eq_true (by kernel_rfl)) (by kernel_rfl)
noncomputable def read_Row_Want_1  (r_ : expr_reader) (s : List UInt8) : Option expr_reader := (read_Row_Take_1 r_ s).bind fun r1 =>
 bif !r1.1 then
 (read_Row_Wrong_1 r1.2).bind fun r2 =>
 some r2 else
 some r1.2
noncomputable abbrev read_Row_Want_1_T : Tab S := ⟨[⟨57, [.obj [.data (.st 6)], .val (.data .str)], [.val (.data .bool)], fun x => read_Row_Take_1 x.1 x.2⟩, ⟨83, [.obj [.data (.st 6)]], [], fun x => read_Row_Wrong_1 x⟩], [], false, false, none, []⟩
noncomputable def read_Row_Want_1_L (k : Nat) : Nat → List (Lab S expr_reader)
 | _ => []
theorem read_Row_Want_1_eq (k : Nat) (r_ : expr_reader) (s : List UInt8) : read_Row_Want_1 r_ s = exec S (read_Row_Want_1_T) byt (labs S (read_Row_Want_1_T) (read_Row_Want_1_L k)) (ac [] Tryz.f56) (frame0 S [.obj [.data (.st 6)], .val (.data .str)] (r_, s)) (retK S (read_Row_Want_1_T) Tryz.f56 [.obj [.data (.st 6)], .val (.data .str)] []) := by kernel_rfl
theorem read_Row_Want_1_vc (k : Nat) : VC S (read_Row_Want_1_T) byt (read_Row_Want_1_L k) (read_Row_Want_1_L (k + 1)) (ac [] Tryz.f56) (retK S (read_Row_Want_1_T) Tryz.f56 [.obj [.data (.st 6)], .val (.data .str)] []) = [] := by kernel_rfl
theorem read_Row_Want_1_snd : Snd Tryz.prog S ⟨56, [.obj [.data (.st 6)], .val (.data .str)], [], fun x => read_Row_Want_1 x.1 x.2⟩ :=
 fn_ok progOk (T := (read_Row_Want_1_T)) (all_cons read_Row_Take_1_snd (all_cons read_Row_Wrong_1_snd (all_nil))) (all_nil) (all_nil) mixed Tryz.func56 rfl (by kernel_rfl) (ac_code [] Tryz.f56 rfl) (L := read_Row_Want_1_L)
  (fun n l h x => by cases h) (fun k n l h => by cases h)
  (fun k => All.mem (read_Row_Want_1_vc k) trivial) (fun x r h => ⟨0, (read_Row_Want_1_eq 0 x.1 x.2).symm.trans h⟩) (by kernel_rfl) (by kernel_rfl) (Nat.le_of_ble_eq_true (by kernel_rfl)) (by kernel_rfl)
noncomputable def expr_reader_prim (self_expr_reader_part : expr_reader → Int → Option (api_Expr × expr_reader))  (r_ : expr_reader) : Option (api_Expr × expr_reader) := (read_Row_Look_1 r_).bind fun r1 =>
 if r1.1.Kind = 2 then
 some (api_Expr.mk 1 r1.1.N [] [] r1.1.At, expr_reader.mk (read_Row.mk r1.2.Row.L (w64 (r1.2.Row.At + 1)) r1.2.Row.Fault) r1.2.v_open) else
 (read_Row_Take_1 r1.2 s_dollar).bind fun r2 =>
 bif r2.1 then
 some (api_Expr.mk 3 0 [] [] r1.1.At, r2.2) else
 (read_Row_IsName_1 r2.2).bind fun r3 =>
 bif r3.1 then
 (read_Row_Name_1 r3.2).bind fun r4 =>
 some (api_Expr.mk 2 0 r4.1 [] r1.1.At, r4.2) else
 (read_Row_Take_1 r3.2 s_in).bind fun r5 =>
 bif r5.1 then
 (read_Row_Want_1 r5.2 s_lp).bind fun r6 =>
 (read_Row_Name_1 r6).bind fun r7 =>
 (read_Row_Want_1 r7.2 s_rp).bind fun r8 =>
 some (api_Expr.mk 4 0 r7.1 [] r1.1.At, r8) else
 (read_Row_Is_1 r5.2 s_lp).bind fun r9 =>
 bif !r9.1 then
 (read_Row_Wrong_1 r9.2).bind fun r10 =>
 some (api_Expr.mk 0 0 [] [] 0, r10) else
 (expr_reader_deep r9.2 r1.1.At).bind fun r11 =>
 bif !r11.1 then
 some (api_Expr.mk 0 0 [] [] 0, r11.2) else
 (self_expr_reader_part r11.2 1).bind fun r12 =>
 (read_Row_Want_1 r12.2 s_rp).bind fun r13 =>
 some (api_Expr.mk r12.1.Kind r12.1.N r12.1.Name r12.1.Kids r12.1.At, expr_reader.mk r13.Row (w64 (r13.v_open - 1)))
noncomputable abbrev expr_reader_prim_T (self_expr_reader_part : expr_reader → Int → Option (api_Expr × expr_reader)) : Tab S := ⟨[⟨55, [.obj [.data (.st 6)]], [.val (.data (.st 2))], fun x => read_Row_Look_1 x⟩, ⟨57, [.obj [.data (.st 6)], .val (.data .str)], [.val (.data .bool)], fun x => read_Row_Take_1 x.1 x.2⟩, ⟨84, [.obj [.data (.st 6)]], [.val (.data .bool)], fun x => read_Row_IsName_1 x⟩, ⟨85, [.obj [.data (.st 6)]], [.val (.data .str)], fun x => read_Row_Name_1 x⟩, ⟨56, [.obj [.data (.st 6)], .val (.data .str)], [], fun x => read_Row_Want_1 x.1 x.2⟩, ⟨53, [.obj [.data (.st 6)], .val (.data .str)], [.val (.data .bool)], fun x => read_Row_Is_1 x.1 x.2⟩, ⟨83, [.obj [.data (.st 6)]], [], fun x => read_Row_Wrong_1 x⟩, ⟨163, [.obj [.data (.st 6)], .val (.data (.int .i64))], [.val (.data .bool)], fun x => expr_reader_deep x.1 x.2⟩, ⟨135, [.obj [.data (.st 6)], .val (.data (.int .i64))], [.val (.data (.st 1))], fun x => self_expr_reader_part x.1 x.2⟩], [], false, false, none, []⟩
noncomputable def expr_reader_prim_L (self_expr_reader_part : expr_reader → Int → Option (api_Expr × expr_reader)) (k : Nat) : Nat → List (Lab S (api_Expr × expr_reader))
 | _ => []
theorem expr_reader_prim_eq (self_expr_reader_part : expr_reader → Int → Option (api_Expr × expr_reader)) (k : Nat) (r_ : expr_reader) : expr_reader_prim self_expr_reader_part r_ = exec S (expr_reader_prim_T self_expr_reader_part) byt (labs S (expr_reader_prim_T self_expr_reader_part) (expr_reader_prim_L self_expr_reader_part k)) (ac [] Tryz.f162) (frame0 S [.obj [.data (.st 6)]] r_) (retK S (expr_reader_prim_T self_expr_reader_part) Tryz.f162 [.obj [.data (.st 6)]] [.val (.data (.st 1))]) := by kernel_rfl
theorem expr_reader_prim_vc (self_expr_reader_part : expr_reader → Int → Option (api_Expr × expr_reader)) (k : Nat) : VC S (expr_reader_prim_T self_expr_reader_part) byt (expr_reader_prim_L self_expr_reader_part k) (expr_reader_prim_L self_expr_reader_part (k + 1)) (ac [] Tryz.f162) (retK S (expr_reader_prim_T self_expr_reader_part) Tryz.f162 [.obj [.data (.st 6)]] [.val (.data (.st 1))]) = [] := by kernel_rfl
theorem expr_reader_prim_snd (self_expr_reader_part : expr_reader → Int → Option (api_Expr × expr_reader)) (hself_expr_reader_part : Snd Tryz.prog S ⟨135, [.obj [.data (.st 6)], .val (.data (.int .i64))], [.val (.data (.st 1))], fun x => self_expr_reader_part x.1 x.2⟩) : Snd Tryz.prog S ⟨162, [.obj [.data (.st 6)]], [.val (.data (.st 1))], fun x => expr_reader_prim self_expr_reader_part x⟩ :=
 fn_ok progOk (T := (expr_reader_prim_T self_expr_reader_part)) (all_cons read_Row_Look_1_snd (all_cons read_Row_Take_1_snd (all_cons read_Row_IsName_1_snd (all_cons read_Row_Name_1_snd (all_cons read_Row_Want_1_snd (all_cons read_Row_Is_1_snd (all_cons read_Row_Wrong_1_snd (all_cons expr_reader_deep_snd (all_cons hself_expr_reader_part (all_nil)))))))))) (all_nil) (all_nil) mixed Tryz.func162 rfl (by kernel_rfl) (ac_code [] Tryz.f162 rfl) (L := expr_reader_prim_L self_expr_reader_part)
  (fun n l h x => by cases h) (fun k n l h => by cases h)
  (fun k => All.mem (expr_reader_prim_vc self_expr_reader_part k) trivial) (fun x r h => ⟨0, (expr_reader_prim_eq self_expr_reader_part 0 x).symm.trans h⟩) (by kernel_rfl) (by kernel_rfl) (Nat.le_of_ble_eq_true (by kernel_rfl)) (by kernel_rfl)
noncomputable def expr_reader_signed_b (self_expr_reader_signed : expr_reader → Option (api_Expr × expr_reader)) (self_expr_reader_part : expr_reader → Int → Option (api_Expr × expr_reader)) (k : Nat) (r_ : expr_reader) : Option (api_Expr × expr_reader) := (read_Row_Look_1 r_).bind fun r1 =>
 (read_Row_Is_1 r1.2 s_minus).bind fun r2 =>
 bif r2.1 then
 (expr_reader_deep r2.2 r1.1.At).bind fun r3 =>
 bif !r3.1 then
 some (api_Expr.mk 0 0 [] [] 0, r3.2) else
 (self_expr_reader_signed r3.2).bind fun r4 =>
 some (api_Expr.mk 5 0 [] [api_Expr.mk r4.1.Kind r4.1.N r4.1.Name r4.1.Kids r4.1.At] r1.1.At, expr_reader.mk r4.2.Row (w64 (r4.2.v_open - 1))) else
 (read_Row_Is_1 r2.2 s_bang).bind fun r5 =>
 bif r5.1 then
 (expr_reader_deep r5.2 r1.1.At).bind fun r6 =>
 bif !r6.1 then
 some (api_Expr.mk 0 0 [] [] 0, r6.2) else
 (self_expr_reader_signed r6.2).bind fun r7 =>
 some (api_Expr.mk 6 0 [] [api_Expr.mk r7.1.Kind r7.1.N r7.1.Name r7.1.Kids r7.1.At] r1.1.At, expr_reader.mk r7.2.Row (w64 (r7.2.v_open - 1))) else
 (expr_reader_prim self_expr_reader_part r5.2).bind fun r8 =>
 some (api_Expr.mk r8.1.Kind r8.1.N r8.1.Name r8.1.Kids r8.1.At, r8.2)
noncomputable def expr_reader_signed_f (self_expr_reader_part : expr_reader → Int → Option (api_Expr × expr_reader)) : Nat → expr_reader → Option (api_Expr × expr_reader)
 | 0, _ => none
 | k + 1, x0 => expr_reader_signed_b (expr_reader_signed_f self_expr_reader_part k) self_expr_reader_part k x0
noncomputable def expr_reader_signed (self_expr_reader_part : expr_reader → Int → Option (api_Expr × expr_reader))  (r_ : expr_reader) : Option (api_Expr × expr_reader) := lim (fun k (x : expr_reader) => expr_reader_signed_f self_expr_reader_part k x) r_
noncomputable abbrev expr_reader_signed_T (self_expr_reader_signed : expr_reader → Option (api_Expr × expr_reader)) (self_expr_reader_part : expr_reader → Int → Option (api_Expr × expr_reader)) : Tab S := ⟨[⟨55, [.obj [.data (.st 6)]], [.val (.data (.st 2))], fun x => read_Row_Look_1 x⟩, ⟨53, [.obj [.data (.st 6)], .val (.data .str)], [.val (.data .bool)], fun x => read_Row_Is_1 x.1 x.2⟩, ⟨163, [.obj [.data (.st 6)], .val (.data (.int .i64))], [.val (.data .bool)], fun x => expr_reader_deep x.1 x.2⟩, ⟨147, [.obj [.data (.st 6)]], [.val (.data (.st 1))], fun x => self_expr_reader_signed x⟩, ⟨162, [.obj [.data (.st 6)]], [.val (.data (.st 1))], fun x => expr_reader_prim self_expr_reader_part x⟩], [], false, false, none, []⟩
noncomputable def expr_reader_signed_L (self_expr_reader_signed : expr_reader → Option (api_Expr × expr_reader)) (self_expr_reader_part : expr_reader → Int → Option (api_Expr × expr_reader)) (k : Nat) : Nat → List (Lab S (api_Expr × expr_reader))
 | _ => []
theorem expr_reader_signed_eq (self_expr_reader_signed : expr_reader → Option (api_Expr × expr_reader)) (self_expr_reader_part : expr_reader → Int → Option (api_Expr × expr_reader)) (k : Nat) (r_ : expr_reader) : expr_reader_signed_b self_expr_reader_signed self_expr_reader_part k r_ = exec S (expr_reader_signed_T self_expr_reader_signed self_expr_reader_part) byt (labs S (expr_reader_signed_T self_expr_reader_signed self_expr_reader_part) (expr_reader_signed_L self_expr_reader_signed self_expr_reader_part k)) (ac [] Tryz.f147) (frame0 S [.obj [.data (.st 6)]] r_) (retK S (expr_reader_signed_T self_expr_reader_signed self_expr_reader_part) Tryz.f147 [.obj [.data (.st 6)]] [.val (.data (.st 1))]) := by kernel_rfl
theorem expr_reader_signed_vc (self_expr_reader_signed : expr_reader → Option (api_Expr × expr_reader)) (self_expr_reader_part : expr_reader → Int → Option (api_Expr × expr_reader)) (k : Nat) : VC S (expr_reader_signed_T self_expr_reader_signed self_expr_reader_part) byt (expr_reader_signed_L self_expr_reader_signed self_expr_reader_part k) (expr_reader_signed_L self_expr_reader_signed self_expr_reader_part (k + 1)) (ac [] Tryz.f147) (retK S (expr_reader_signed_T self_expr_reader_signed self_expr_reader_part) Tryz.f147 [.obj [.data (.st 6)]] [.val (.data (.st 1))]) = [] := by kernel_rfl
theorem expr_reader_signed_sndk (self_expr_reader_signed : expr_reader → Option (api_Expr × expr_reader)) (self_expr_reader_part : expr_reader → Int → Option (api_Expr × expr_reader)) (hself : Snd Tryz.prog S ⟨147, [.obj [.data (.st 6)]], [.val (.data (.st 1))], fun x => self_expr_reader_signed x⟩) (hself_expr_reader_part : Snd Tryz.prog S ⟨135, [.obj [.data (.st 6)], .val (.data (.int .i64))], [.val (.data (.st 1))], fun x => self_expr_reader_part x.1 x.2⟩) (k : Nat) : Snd Tryz.prog S ⟨147, [.obj [.data (.st 6)]], [.val (.data (.st 1))], fun x => expr_reader_signed_b self_expr_reader_signed self_expr_reader_part k x⟩ :=
 fn_ok progOk (T := (expr_reader_signed_T self_expr_reader_signed self_expr_reader_part)) (all_cons read_Row_Look_1_snd (all_cons read_Row_Is_1_snd (all_cons expr_reader_deep_snd (all_cons hself (all_cons (expr_reader_prim_snd self_expr_reader_part hself_expr_reader_part) (all_nil)))))) (all_nil) (all_nil) mixed Tryz.func147 rfl (by kernel_rfl) (ac_code [] Tryz.f147 rfl) (L := expr_reader_signed_L self_expr_reader_signed self_expr_reader_part)
  (fun n l h x => by cases h) (fun k n l h => by cases h)
  (fun k => All.mem (expr_reader_signed_vc self_expr_reader_signed self_expr_reader_part k) trivial) (fun x r h => ⟨k, (expr_reader_signed_eq self_expr_reader_signed self_expr_reader_part k x).symm.trans h⟩) (by kernel_rfl) (by kernel_rfl) (Nat.le_of_ble_eq_true (by kernel_rfl)) (by kernel_rfl)
theorem expr_reader_signed_sndf (self_expr_reader_part : expr_reader → Int → Option (api_Expr × expr_reader)) (hself_expr_reader_part : Snd Tryz.prog S ⟨135, [.obj [.data (.st 6)], .val (.data (.int .i64))], [.val (.data (.st 1))], fun x => self_expr_reader_part x.1 x.2⟩) : ∀ k, Snd Tryz.prog S ⟨147, [.obj [.data (.st 6)]], [.val (.data (.st 1))], fun x => expr_reader_signed_f self_expr_reader_part k x⟩
 | 0 => Snd.none ⟨_, Tryz.func147, by kernel_rfl, by kernel_rfl⟩ fun _ => rfl
 | k + 1 => expr_reader_signed_sndk (expr_reader_signed_f self_expr_reader_part k) self_expr_reader_part (expr_reader_signed_sndf self_expr_reader_part hself_expr_reader_part k) hself_expr_reader_part k
theorem expr_reader_signed_snd (self_expr_reader_part : expr_reader → Int → Option (api_Expr × expr_reader)) (hself_expr_reader_part : Snd Tryz.prog S ⟨135, [.obj [.data (.st 6)], .val (.data (.int .i64))], [.val (.data (.st 1))], fun x => self_expr_reader_part x.1 x.2⟩) : Snd Tryz.prog S ⟨147, [.obj [.data (.st 6)]], [.val (.data (.st 1))], fun x => expr_reader_signed self_expr_reader_part x⟩ := Snd.lim (expr_reader_signed_sndf self_expr_reader_part hself_expr_reader_part)
noncomputable def expr_sign  (text : List UInt8) : Option (Int × Int) := if text = s_bar_bar then
 some (19, 1) else
 if text = s_amp_amp then
 some (18, 2) else
 if text = s_lt then
 some (12, 3) else
 if text = s_lt_eq then
 some (13, 3) else
 if text = s_gt then
 some (14, 3) else
 if text = s_gt_eq then
 some (15, 3) else
 if text = s_eq_eq then
 some (16, 3) else
 if text = s_bang_eq then
 some (17, 3) else
 if text = s_plus then
 some (10, 4) else
 if text = s_minus then
 some (11, 4) else
 if text = s_star then
 some (7, 5) else
 if text = s_slash then
 some (8, 5) else
 if text = s_pct then
 some (9, 5) else
 some (0, 0)
noncomputable abbrev expr_sign_T : Tab S := ⟨[], [], false, false, none, []⟩
noncomputable def expr_sign_L (k : Nat) : Nat → List (Lab S (Int × Int))
 | _ => []
theorem expr_sign_eq (k : Nat) (text : List UInt8) : expr_sign text = exec S (expr_sign_T) byt (labs S (expr_sign_T) (expr_sign_L k)) (ac [] Tryz.f148) (frame0 S [.val (.data .str)] text) (retK S (expr_sign_T) Tryz.f148 [.val (.data .str)] [.val (.data (.int .i64)), .val (.data (.int .i64))]) := by kernel_rfl
theorem expr_sign_vc (k : Nat) : VC S (expr_sign_T) byt (expr_sign_L k) (expr_sign_L (k + 1)) (ac [] Tryz.f148) (retK S (expr_sign_T) Tryz.f148 [.val (.data .str)] [.val (.data (.int .i64)), .val (.data (.int .i64))]) = [] := by kernel_rfl
theorem expr_sign_snd : Snd Tryz.prog S ⟨148, [.val (.data .str)], [.val (.data (.int .i64)), .val (.data (.int .i64))], fun x => expr_sign x⟩ :=
 fn_ok progOk (T := (expr_sign_T)) (all_nil) (all_nil) (all_nil) mixed Tryz.func148 rfl (by kernel_rfl) (ac_code [] Tryz.f148 rfl) (L := expr_sign_L)
  (fun n l h x => by cases h) (fun k n l h => by cases h)
  (fun k => All.mem (expr_sign_vc k) trivial) (fun x r h => ⟨0, (expr_sign_eq 0 x).symm.trans h⟩) (by kernel_rfl) (by kernel_rfl) (Nat.le_of_ble_eq_true (by kernel_rfl)) (by kernel_rfl)
noncomputable def expr_reader_part_l0 (self_expr_reader_part : expr_reader → Int → Option (api_Expr × expr_reader)) : Nat → (List api_Token) → Int → Int → Int → Int → Int → Int → Int → (List UInt8) → (List api_Expr) → Int → Int → Int → (List UInt8) → (List api_Expr) → Int → Option (api_Expr × expr_reader)
 | 0, _, _, _, _, _, _, _, _, _, _, _, _, _, _, _, _ => none
 | k + 1, r__Row_L, r__Row_At, r__Row_Fault_Code, r__Row_Fault_At, r__v_open, level, x4_Kind, x4_N, x4_Name, x4_Kids, x4_At, e_Kind, e_N, e_Name, e_Kids, e_At => (read_Row_Look_1 (expr_reader.mk (read_Row.mk r__Row_L r__Row_At (api_Fault.mk r__Row_Fault_Code r__Row_Fault_At)) r__v_open)).bind fun r3 =>
  (expr_sign r3.1.Text).bind fun r4 =>
  if r3.1.Kind ≠ 3 then
  some (api_Expr.mk e_Kind e_N e_Name e_Kids e_At, r3.2) else
  if r4.2 ≠ level then
  some (api_Expr.mk e_Kind e_N e_Name e_Kids e_At, r3.2) else
  (self_expr_reader_part (expr_reader.mk (read_Row.mk r3.2.Row.L (w64 (r3.2.Row.At + 1)) r3.2.Row.Fault) r3.2.v_open) (w64 (level + 1))).bind fun r5 =>
  if level = 3 then
  some (api_Expr.mk r4.1 0 [] [api_Expr.mk e_Kind e_N e_Name e_Kids e_At, api_Expr.mk r5.1.Kind r5.1.N r5.1.Name r5.1.Kids r5.1.At] r3.1.At, r5.2) else
  expr_reader_part_l0 self_expr_reader_part k r5.2.Row.L r5.2.Row.At r5.2.Row.Fault.Code r5.2.Row.Fault.At r5.2.v_open level x4_Kind x4_N x4_Name x4_Kids x4_At r4.1 0 [] [api_Expr.mk e_Kind e_N e_Name e_Kids e_At, api_Expr.mk r5.1.Kind r5.1.N r5.1.Name r5.1.Kids r5.1.At] r3.1.At
noncomputable def expr_reader_part_b (self_expr_reader_part : expr_reader → Int → Option (api_Expr × expr_reader)) (k : Nat) (r_ : expr_reader) (level : Int) : Option (api_Expr × expr_reader) := if level = 6 then
 (expr_reader_signed self_expr_reader_part r_).bind fun r1 =>
 some (api_Expr.mk r1.1.Kind r1.1.N r1.1.Name r1.1.Kids r1.1.At, r1.2) else
 (self_expr_reader_part r_ (w64 (level + 1))).bind fun r2 =>
 expr_reader_part_l0 self_expr_reader_part k r2.2.Row.L r2.2.Row.At r2.2.Row.Fault.Code r2.2.Row.Fault.At r2.2.v_open level 0 0 [] [] 0 r2.1.Kind r2.1.N r2.1.Name r2.1.Kids r2.1.At
noncomputable def expr_reader_part_f : Nat → expr_reader → Int → Option (api_Expr × expr_reader)
 | 0, _, _ => none
 | k + 1, x0, x1 => expr_reader_part_b (expr_reader_part_f k) k x0 x1
noncomputable def expr_reader_part  (r_ : expr_reader) (level : Int) : Option (api_Expr × expr_reader) := lim (fun k (x : expr_reader × Int) => expr_reader_part_f k x.1 x.2) (r_, level)
noncomputable abbrev expr_reader_part_T (self_expr_reader_part : expr_reader → Int → Option (api_Expr × expr_reader)) : Tab S := ⟨[⟨147, [.obj [.data (.st 6)]], [.val (.data (.st 1))], fun x => expr_reader_signed self_expr_reader_part x⟩, ⟨135, [.obj [.data (.st 6)], .val (.data (.int .i64))], [.val (.data (.st 1))], fun x => self_expr_reader_part x.1 x.2⟩, ⟨55, [.obj [.data (.st 6)]], [.val (.data (.st 2))], fun x => read_Row_Look_1 x⟩, ⟨148, [.val (.data .str)], [.val (.data (.int .i64)), .val (.data (.int .i64))], fun x => expr_sign x⟩], [], false, false, none, []⟩
noncomputable def expr_reader_part_L (self_expr_reader_part : expr_reader → Int → Option (api_Expr × expr_reader)) (k : Nat) : Nat → List (Lab S (api_Expr × expr_reader))
 | 0 => [⟨[0, 1, 4, 5], [.obj [.data (.sl (.st 2)), .data (.int .i64), .data (.int .i64), .data (.int .i64), .data (.int .i64)], .val (.data (.int .i64)), .obj [.data (.int .i64), .data (.int .i64), .data .str, .marr (.st 1), .data (.int .i64)], .obj [.data (.int .i64), .data (.int .i64), .data .str, .data (.sl (.st 1)), .data (.int .i64)]], fun x => expr_reader_part_l0 self_expr_reader_part k x.1.1 x.1.2.1 x.1.2.2.1 x.1.2.2.2.1 x.1.2.2.2.2 x.2.1 x.2.2.1.1 x.2.2.1.2.1 x.2.2.1.2.2.1 x.2.2.1.2.2.2.1 x.2.2.1.2.2.2.2 x.2.2.2.1 x.2.2.2.2.1 x.2.2.2.2.2.1 x.2.2.2.2.2.2.1 x.2.2.2.2.2.2.2, false⟩]
 | _ + 1 => []
theorem expr_reader_part_eq (self_expr_reader_part : expr_reader → Int → Option (api_Expr × expr_reader)) (k : Nat) (r_ : expr_reader) (level : Int) : expr_reader_part_b self_expr_reader_part k r_ level = exec S (expr_reader_part_T self_expr_reader_part) byt (labs S (expr_reader_part_T self_expr_reader_part) (expr_reader_part_L self_expr_reader_part k)) (ac [] Tryz.f135) (frame0 S [.obj [.data (.st 6)], .val (.data (.int .i64))] (r_, level)) (retK S (expr_reader_part_T self_expr_reader_part) Tryz.f135 [.obj [.data (.st 6)], .val (.data (.int .i64))] [.val (.data (.st 1))]) := by kernel_rfl
theorem expr_reader_part_vc (self_expr_reader_part : expr_reader → Int → Option (api_Expr × expr_reader)) (k : Nat) : VC S (expr_reader_part_T self_expr_reader_part) byt (expr_reader_part_L self_expr_reader_part k) (expr_reader_part_L self_expr_reader_part (k + 1)) (ac [] Tryz.f135) (retK S (expr_reader_part_T self_expr_reader_part) Tryz.f135 [.obj [.data (.st 6)], .val (.data (.int .i64))] [.val (.data (.st 1))]) = [∀ x : (List api_Token × Int × Int × Int × Int) × Int × (Int × Int × List UInt8 × List api_Expr × Int) × (Int × Int × List UInt8 × List api_Expr × Int), expr_reader_part_l0 self_expr_reader_part (k + 1) x.1.1 x.1.2.1 x.1.2.2.1 x.1.2.2.2.1 x.1.2.2.2.2 x.2.1 x.2.2.1.1 x.2.2.1.2.1 x.2.2.1.2.2.1 x.2.2.1.2.2.2.1 x.2.2.1.2.2.2.2 x.2.2.2.1 x.2.2.2.2.1 x.2.2.2.2.2.1 x.2.2.2.2.2.2.1 x.2.2.2.2.2.2.2 = expr_reader_part_l0 self_expr_reader_part (k + 1) x.1.1 x.1.2.1 x.1.2.2.1 x.1.2.2.2.1 x.1.2.2.2.2 x.2.1 x.2.2.1.1 x.2.2.1.2.1 x.2.2.1.2.2.1 x.2.2.1.2.2.2.1 x.2.2.1.2.2.2.2 x.2.2.2.1 x.2.2.2.2.1 x.2.2.2.2.2.1 x.2.2.2.2.2.2.1 x.2.2.2.2.2.2.2] := by kernel_rfl
theorem expr_reader_part_sndk (self_expr_reader_part : expr_reader → Int → Option (api_Expr × expr_reader)) (hself : Snd Tryz.prog S ⟨135, [.obj [.data (.st 6)], .val (.data (.int .i64))], [.val (.data (.st 1))], fun x => self_expr_reader_part x.1 x.2⟩) (k : Nat) : Snd Tryz.prog S ⟨135, [.obj [.data (.st 6)], .val (.data (.int .i64))], [.val (.data (.st 1))], fun x => expr_reader_part_b self_expr_reader_part k x.1 x.2⟩ :=
 fn_ok progOk (T := (expr_reader_part_T self_expr_reader_part)) (all_cons (expr_reader_signed_snd self_expr_reader_part hself) (all_cons hself (all_cons read_Row_Look_1_snd (all_cons expr_sign_snd (all_nil))))) (all_nil) (all_nil) mixed Tryz.func135 rfl (by kernel_rfl) (ac_code [] Tryz.f135 rfl) (L := expr_reader_part_L self_expr_reader_part)
  (fun n l h x => by match n, h with
   | 0, h =>
    rcases List.mem_cons.1 h with rfl | h
    · rfl
    cases h
   | _ + 1, h => cases h) (fun k n l h => by match n, h with
   | 0, h =>
    rcases List.mem_cons.1 h with rfl | h
    · rfl
    cases h
   | _ + 1, h => cases h)
  (fun k => All.mem (expr_reader_part_vc self_expr_reader_part k) ⟨fun _ => rfl, trivial⟩) (fun x r h => ⟨k, (expr_reader_part_eq self_expr_reader_part k x.1 x.2).symm.trans h⟩) (by kernel_rfl) (by kernel_rfl) (Nat.le_of_ble_eq_true (by kernel_rfl)) (by kernel_rfl)
theorem expr_reader_part_sndf : ∀ k, Snd Tryz.prog S ⟨135, [.obj [.data (.st 6)], .val (.data (.int .i64))], [.val (.data (.st 1))], fun x => expr_reader_part_f k x.1 x.2⟩
 | 0 => Snd.none ⟨_, Tryz.func135, by kernel_rfl, by kernel_rfl⟩ fun _ => rfl
 | k + 1 => expr_reader_part_sndk (expr_reader_part_f k) (expr_reader_part_sndf k) k
theorem expr_reader_part_snd : Snd Tryz.prog S ⟨135, [.obj [.data (.st 6)], .val (.data (.int .i64))], [.val (.data (.st 1))], fun x => expr_reader_part x.1 x.2⟩ := Snd.lim (expr_reader_part_sndf)
noncomputable def expr_Parse  (l : List api_Token) (v_at : Int) : Option (api_Expr × Int × api_Fault) := (expr_reader_part (expr_reader.mk (read_Row.mk l v_at (api_Fault.mk 0 0)) 0) 1).bind fun r1 =>
 (read_Row_OK_1 r1.2).bind fun r2 =>
 bif !r2.1 then
 some (api_Expr.mk 0 0 [] [] 0, 0, r2.2.Row.Fault) else
 some (api_Expr.mk r1.1.Kind r1.1.N r1.1.Name r1.1.Kids r1.1.At, r2.2.Row.At, api_Fault.mk 0 0)
noncomputable abbrev expr_Parse_T : Tab S := ⟨[⟨135, [.obj [.data (.st 6)], .val (.data (.int .i64))], [.val (.data (.st 1))], fun x => expr_reader_part x.1 x.2⟩, ⟨28, [.obj [.data (.st 6)]], [.val (.data .bool)], fun x => read_Row_OK_1 x⟩], [], false, false, none, []⟩
noncomputable def expr_Parse_L (k : Nat) : Nat → List (Lab S (api_Expr × Int × api_Fault))
 | _ => []
theorem expr_Parse_eq (k : Nat) (l : List api_Token) (v_at : Int) : expr_Parse l v_at = exec S (expr_Parse_T) byt (labs S (expr_Parse_T) (expr_Parse_L k)) (ac [] Tryz.f114) (frame0 S [.val (.data (.sl (.st 2))), .val (.data (.int .i64))] (l, v_at)) (retK S (expr_Parse_T) Tryz.f114 [.val (.data (.sl (.st 2))), .val (.data (.int .i64))] [.val (.data (.st 1)), .val (.data (.int .i64)), .val (.data (.st 3))]) := by kernel_rfl
theorem expr_Parse_vc (k : Nat) : VC S (expr_Parse_T) byt (expr_Parse_L k) (expr_Parse_L (k + 1)) (ac [] Tryz.f114) (retK S (expr_Parse_T) Tryz.f114 [.val (.data (.sl (.st 2))), .val (.data (.int .i64))] [.val (.data (.st 1)), .val (.data (.int .i64)), .val (.data (.st 3))]) = [] := by kernel_rfl
theorem expr_Parse_snd : Snd Tryz.prog S ⟨114, [.val (.data (.sl (.st 2))), .val (.data (.int .i64))], [.val (.data (.st 1)), .val (.data (.int .i64)), .val (.data (.st 3))], fun x => expr_Parse x.1 x.2⟩ :=
 fn_ok progOk (T := (expr_Parse_T)) (all_cons expr_reader_part_snd (all_cons read_Row_OK_1_snd (all_nil))) (all_nil) (all_nil) mixed Tryz.func114 rfl (by kernel_rfl) (ac_code [] Tryz.f114 rfl) (L := expr_Parse_L)
  (fun n l h x => by cases h) (fun k n l h => by cases h)
  (fun k => All.mem (expr_Parse_vc k) trivial) (fun x r h => ⟨0, (expr_Parse_eq 0 x.1 x.2).symm.trans h⟩) (by kernel_rfl) (by kernel_rfl) (Nat.le_of_ble_eq_true (by kernel_rfl)) (by kernel_rfl)
noncomputable def act_reader_expr  (r_ : act_reader) : Option (List api_Expr × act_reader) := (read_Row_OK r_).bind fun r1 =>
 bif !r1.1 then
 some ([], r1.2) else
 (expr_Parse r1.2.Row.L r1.2.Row.At).bind fun r2 =>
 (read_Row_Fail r1.2 r2.2.2.Code r2.2.2.At).bind fun r3 =>
 some ([api_Expr.mk r2.1.Kind r2.1.N r2.1.Name r2.1.Kids r2.1.At], act_reader.mk (read_Row.mk r3.Row.L r2.2.1 r3.Row.Fault) r3.v_open)
noncomputable abbrev act_reader_expr_T : Tab S := ⟨[⟨28, [.obj [.data (.st 5)]], [.val (.data .bool)], fun x => read_Row_OK x⟩, ⟨114, [.val (.data (.sl (.st 2))), .val (.data (.int .i64))], [.val (.data (.st 1)), .val (.data (.int .i64)), .val (.data (.st 3))], fun x => expr_Parse x.1 x.2⟩, ⟨54, [.obj [.data (.st 5)], .val (.data (.int .i64)), .val (.data (.int .i64))], [], fun x => read_Row_Fail x.1 x.2.1 x.2.2⟩], [], false, false, none, []⟩
noncomputable def act_reader_expr_L (k : Nat) : Nat → List (Lab S (List api_Expr × act_reader))
 | _ => []
theorem act_reader_expr_eq (k : Nat) (r_ : act_reader) : act_reader_expr r_ = exec S (act_reader_expr_T) byt (labs S (act_reader_expr_T) (act_reader_expr_L k)) (ac [] Tryz.f86) (frame0 S [.obj [.data (.st 5)]] r_) (retK S (act_reader_expr_T) Tryz.f86 [.obj [.data (.st 5)]] [.val (.data (.sl (.st 1)))]) := by kernel_rfl
theorem act_reader_expr_vc (k : Nat) : VC S (act_reader_expr_T) byt (act_reader_expr_L k) (act_reader_expr_L (k + 1)) (ac [] Tryz.f86) (retK S (act_reader_expr_T) Tryz.f86 [.obj [.data (.st 5)]] [.val (.data (.sl (.st 1)))]) = [] := by kernel_rfl
theorem act_reader_expr_snd : Snd Tryz.prog S ⟨86, [.obj [.data (.st 5)]], [.val (.data (.sl (.st 1)))], fun x => act_reader_expr x⟩ :=
 fn_ok progOk (T := (act_reader_expr_T)) (all_cons read_Row_OK_snd (all_cons expr_Parse_snd (all_cons read_Row_Fail_snd (all_nil)))) (all_nil) (all_nil) mixed Tryz.func86 rfl (by kernel_rfl) (ac_code [] Tryz.f86 rfl) (L := act_reader_expr_L)
  (fun n l h x => by cases h) (fun k n l h => by cases h)
  (fun k => All.mem (act_reader_expr_vc k) trivial) (fun x r h => ⟨0, (act_reader_expr_eq 0 x).symm.trans h⟩) (by kernel_rfl) (by kernel_rfl) (Nat.le_of_ble_eq_true (by kernel_rfl)) (by kernel_rfl)
noncomputable def act_reader_inside  (r_ : act_reader) : Option (List api_Expr × act_reader) := (read_Row_Want r_ s_lp).bind fun r1 =>
 (act_reader_expr r1).bind fun r2 =>
 (read_Row_Want r2.2 s_rp).bind fun r3 =>
 some (r2.1, r3)
noncomputable abbrev act_reader_inside_T : Tab S := ⟨[⟨56, [.obj [.data (.st 5)], .val (.data .str)], [], fun x => read_Row_Want x.1 x.2⟩, ⟨86, [.obj [.data (.st 5)]], [.val (.data (.sl (.st 1)))], fun x => act_reader_expr x⟩], [], false, false, none, []⟩
noncomputable def act_reader_inside_L (k : Nat) : Nat → List (Lab S (List api_Expr × act_reader))
 | _ => []
theorem act_reader_inside_eq (k : Nat) (r_ : act_reader) : act_reader_inside r_ = exec S (act_reader_inside_T) byt (labs S (act_reader_inside_T) (act_reader_inside_L k)) (ac [] Tryz.f88) (frame0 S [.obj [.data (.st 5)]] r_) (retK S (act_reader_inside_T) Tryz.f88 [.obj [.data (.st 5)]] [.val (.data (.sl (.st 1)))]) := by kernel_rfl
theorem act_reader_inside_vc (k : Nat) : VC S (act_reader_inside_T) byt (act_reader_inside_L k) (act_reader_inside_L (k + 1)) (ac [] Tryz.f88) (retK S (act_reader_inside_T) Tryz.f88 [.obj [.data (.st 5)]] [.val (.data (.sl (.st 1)))]) = [] := by kernel_rfl
theorem act_reader_inside_snd : Snd Tryz.prog S ⟨88, [.obj [.data (.st 5)]], [.val (.data (.sl (.st 1)))], fun x => act_reader_inside x⟩ :=
 fn_ok progOk (T := (act_reader_inside_T)) (all_cons read_Row_Want_snd (all_cons act_reader_expr_snd (all_nil))) (all_nil) (all_nil) mixed Tryz.func88 rfl (by kernel_rfl) (ac_code [] Tryz.f88 rfl) (L := act_reader_inside_L)
  (fun n l h x => by cases h) (fun k n l h => by cases h)
  (fun k => All.mem (act_reader_inside_vc k) trivial) (fun x r h => ⟨0, (act_reader_inside_eq 0 x).symm.trans h⟩) (by kernel_rfl) (by kernel_rfl) (Nat.le_of_ble_eq_true (by kernel_rfl)) (by kernel_rfl)
noncomputable def act_reader_number  (r_ : act_reader) : Option (List api_Expr × act_reader) := (read_Row_Is r_ s_lp).bind fun r1 =>
 bif !r1.1 then
 some ([], r1.2) else
 (act_reader_inside r1.2).bind fun r2 =>
 some (r2.1, r2.2)
noncomputable abbrev act_reader_number_T : Tab S := ⟨[⟨53, [.obj [.data (.st 5)], .val (.data .str)], [.val (.data .bool)], fun x => read_Row_Is x.1 x.2⟩, ⟨88, [.obj [.data (.st 5)]], [.val (.data (.sl (.st 1)))], fun x => act_reader_inside x⟩], [], false, false, none, []⟩
noncomputable def act_reader_number_L (k : Nat) : Nat → List (Lab S (List api_Expr × act_reader))
 | _ => []
theorem act_reader_number_eq (k : Nat) (r_ : act_reader) : act_reader_number r_ = exec S (act_reader_number_T) byt (labs S (act_reader_number_T) (act_reader_number_L k)) (ac [] Tryz.f87) (frame0 S [.obj [.data (.st 5)]] r_) (retK S (act_reader_number_T) Tryz.f87 [.obj [.data (.st 5)]] [.val (.data (.sl (.st 1)))]) := by kernel_rfl
theorem act_reader_number_vc (k : Nat) : VC S (act_reader_number_T) byt (act_reader_number_L k) (act_reader_number_L (k + 1)) (ac [] Tryz.f87) (retK S (act_reader_number_T) Tryz.f87 [.obj [.data (.st 5)]] [.val (.data (.sl (.st 1)))]) = [] := by kernel_rfl
theorem act_reader_number_snd : Snd Tryz.prog S ⟨87, [.obj [.data (.st 5)]], [.val (.data (.sl (.st 1)))], fun x => act_reader_number x⟩ :=
 fn_ok progOk (T := (act_reader_number_T)) (all_cons read_Row_Is_snd (all_cons act_reader_inside_snd (all_nil))) (all_nil) (all_nil) mixed Tryz.func87 rfl (by kernel_rfl) (ac_code [] Tryz.f87 rfl) (L := act_reader_number_L)
  (fun n l h x => by cases h) (fun k n l h => by cases h)
  (fun k => All.mem (act_reader_number_vc k) trivial) (fun x r h => ⟨0, (act_reader_number_eq 0 x).symm.trans h⟩) (by kernel_rfl) (by kernel_rfl) (Nat.le_of_ble_eq_true (by kernel_rfl)) (by kernel_rfl)
noncomputable def read_Row_Number  (r_ : act_reader) : Option (Int × act_reader) := (read_Row_Look r_).bind fun r1 =>
 if r1.1.Kind ≠ 2 then
 (read_Row_Wrong r1.2).bind fun r2 =>
 some (0, r2) else
 some (r1.1.N, act_reader.mk (read_Row.mk r1.2.Row.L (w64 (r1.2.Row.At + 1)) r1.2.Row.Fault) r1.2.v_open)
noncomputable abbrev read_Row_Number_T : Tab S := ⟨[⟨55, [.obj [.data (.st 5)]], [.val (.data (.st 2))], fun x => read_Row_Look x⟩, ⟨83, [.obj [.data (.st 5)]], [], fun x => read_Row_Wrong x⟩], [], false, false, none, []⟩
noncomputable def read_Row_Number_L (k : Nat) : Nat → List (Lab S (Int × act_reader))
 | _ => []
theorem read_Row_Number_eq (k : Nat) (r_ : act_reader) : read_Row_Number r_ = exec S (read_Row_Number_T) byt (labs S (read_Row_Number_T) (read_Row_Number_L k)) (ac [] Tryz.f115) (frame0 S [.obj [.data (.st 5)]] r_) (retK S (read_Row_Number_T) Tryz.f115 [.obj [.data (.st 5)]] [.val (.data (.int .i64))]) := by kernel_rfl
theorem read_Row_Number_vc (k : Nat) : VC S (read_Row_Number_T) byt (read_Row_Number_L k) (read_Row_Number_L (k + 1)) (ac [] Tryz.f115) (retK S (read_Row_Number_T) Tryz.f115 [.obj [.data (.st 5)]] [.val (.data (.int .i64))]) = [] := by kernel_rfl
theorem read_Row_Number_snd : Snd Tryz.prog S ⟨115, [.obj [.data (.st 5)]], [.val (.data (.int .i64))], fun x => read_Row_Number x⟩ :=
 fn_ok progOk (T := (read_Row_Number_T)) (all_cons read_Row_Look_snd (all_cons read_Row_Wrong_snd (all_nil))) (all_nil) (all_nil) mixed Tryz.func115 rfl (by kernel_rfl) (ac_code [] Tryz.f115 rfl) (L := read_Row_Number_L)
  (fun n l h x => by cases h) (fun k n l h => by cases h)
  (fun k => All.mem (read_Row_Number_vc k) trivial) (fun x r h => ⟨0, (read_Row_Number_eq 0 x).symm.trans h⟩) (by kernel_rfl) (by kernel_rfl) (Nat.le_of_ble_eq_true (by kernel_rfl)) (by kernel_rfl)
noncomputable def act_reader_whole_1 (self_act_reader_block : act_reader → Option (List api_Act × act_reader))  (r_ : act_reader) (a : api_Act) : Option (api_Act × act_reader) := (read_Row_Take r_ s_loop).bind fun r1 =>
 bif r1.1 then
 (read_Row_Number r1.2).bind fun r2 =>
 (self_act_reader_block r2.2).bind fun r3 =>
 some (api_Act.mk 7 a.Name a.Event a.X r2.1 r3.1 a.Else a.At, r3.2) else
 (read_Row_Want r1.2 s_if).bind fun r4 =>
 (act_reader_inside r4).bind fun r5 =>
 (self_act_reader_block r5.2).bind fun r6 =>
 (read_Row_Take r6.2 s_else).bind fun r7 =>
 bif r7.1 then
 (self_act_reader_block r7.2).bind fun r8 =>
 some (api_Act.mk 6 a.Name a.Event r5.1 a.N r6.1 r8.1 a.At, r8.2) else
 some (api_Act.mk 6 a.Name a.Event r5.1 a.N r6.1 a.Else a.At, r7.2)
noncomputable abbrev act_reader_whole_1_T (self_act_reader_block : act_reader → Option (List api_Act × act_reader)) : Tab S := ⟨[⟨57, [.obj [.data (.st 5)], .val (.data .str)], [.val (.data .bool)], fun x => read_Row_Take x.1 x.2⟩, ⟨115, [.obj [.data (.st 5)]], [.val (.data (.int .i64))], fun x => read_Row_Number x⟩, ⟨27, [.obj [.data (.st 5)]], [.val (.town (.st 0))], fun x => self_act_reader_block x⟩, ⟨56, [.obj [.data (.st 5)], .val (.data .str)], [], fun x => read_Row_Want x.1 x.2⟩, ⟨88, [.obj [.data (.st 5)]], [.val (.data (.sl (.st 1)))], fun x => act_reader_inside x⟩], [], false, false, none, []⟩
noncomputable def act_reader_whole_1_L (self_act_reader_block : act_reader → Option (List api_Act × act_reader)) (k : Nat) : Nat → List (Lab S (api_Act × act_reader))
 | _ => []
theorem act_reader_whole_1_eq (self_act_reader_block : act_reader → Option (List api_Act × act_reader)) (k : Nat) (r_ : act_reader) (a : api_Act) : act_reader_whole_1 self_act_reader_block r_ a = exec S (act_reader_whole_1_T self_act_reader_block) byt (labs S (act_reader_whole_1_T self_act_reader_block) (act_reader_whole_1_L self_act_reader_block k)) (ac [] Tryz.f89) (frame0 S [.obj [.data (.st 5)], .val (.data (.st 0))] (r_, a)) (retK S (act_reader_whole_1_T self_act_reader_block) Tryz.f89 [.obj [.data (.st 5)], .val (.data (.st 0))] [.val (.data (.st 0))]) := by kernel_rfl
theorem act_reader_whole_1_vc (self_act_reader_block : act_reader → Option (List api_Act × act_reader)) (k : Nat) : VC S (act_reader_whole_1_T self_act_reader_block) byt (act_reader_whole_1_L self_act_reader_block k) (act_reader_whole_1_L self_act_reader_block (k + 1)) (ac [] Tryz.f89) (retK S (act_reader_whole_1_T self_act_reader_block) Tryz.f89 [.obj [.data (.st 5)], .val (.data (.st 0))] [.val (.data (.st 0))]) = [] := by kernel_rfl
theorem act_reader_whole_1_snd (self_act_reader_block : act_reader → Option (List api_Act × act_reader)) (hself_act_reader_block : Snd Tryz.prog S ⟨27, [.obj [.data (.st 5)]], [.val (.town (.st 0))], fun x => self_act_reader_block x⟩) : Snd Tryz.prog S ⟨89, [.obj [.data (.st 5)], .val (.data (.st 0))], [.val (.data (.st 0))], fun x => act_reader_whole_1 self_act_reader_block x.1 x.2⟩ :=
 fn_ok progOk (T := (act_reader_whole_1_T self_act_reader_block)) (all_cons read_Row_Take_snd (all_cons read_Row_Number_snd (all_cons hself_act_reader_block (all_cons read_Row_Want_snd (all_cons act_reader_inside_snd (all_nil)))))) (all_nil) (all_nil) mixed Tryz.func89 rfl (by kernel_rfl) (ac_code [] Tryz.f89 rfl) (L := act_reader_whole_1_L self_act_reader_block)
  (fun n l h x => by cases h) (fun k n l h => by cases h)
  (fun k => All.mem (act_reader_whole_1_vc self_act_reader_block k) trivial) (fun x r h => ⟨0, (act_reader_whole_1_eq self_act_reader_block 0 x.1 x.2).symm.trans h⟩) (by kernel_rfl) (by kernel_rfl) (Nat.le_of_ble_eq_true (by kernel_rfl)) (by kernel_rfl)
noncomputable def act_reader_act_1 (self_act_reader_block : act_reader → Option (List api_Act × act_reader))  (r_ : act_reader) : Option (api_Act × act_reader) := (read_Row_Look r_).bind fun r1 =>
 (read_Row_IsName r1.2).bind fun r2 =>
 bif r2.1 then
 (read_Row_Name r2.2).bind fun r3 =>
 (read_Row_Want r3.2 s_eq).bind fun r4 =>
 (act_reader_expr r4).bind fun r5 =>
 (read_Row_Want r5.2 s_semi).bind fun r6 =>
 some (api_Act.mk 1 r3.1 [] r5.1 0 [] [] r1.1.At, r6) else
 (read_Row_Take r2.2 s_raise).bind fun r7 =>
 bif r7.1 then
 (read_Row_Name r7.2).bind fun r8 =>
 (act_reader_number r8.2).bind fun r9 =>
 (read_Row_Want r9.2 s_semi).bind fun r10 =>
 some (api_Act.mk 2 [] r8.1 r9.1 0 [] [] r1.1.At, r10) else
 (read_Row_Take r7.2 s_send).bind fun r11 =>
 bif r11.1 then
 (read_Row_Name r11.2).bind fun r12 =>
 (read_Row_Name r12.2).bind fun r13 =>
 (act_reader_number r13.2).bind fun r14 =>
 (read_Row_Want r14.2 s_semi).bind fun r15 =>
 some (api_Act.mk 3 r12.1 r13.1 r14.1 0 [] [] r1.1.At, r15) else
 (read_Row_Take r11.2 s_arm).bind fun r16 =>
 bif r16.1 then
 (read_Row_Name r16.2).bind fun r17 =>
 (act_reader_inside r17.2).bind fun r18 =>
 (read_Row_Want r18.2 s_semi).bind fun r19 =>
 some (api_Act.mk 4 r17.1 [] r18.1 0 [] [] r1.1.At, r19) else
 (read_Row_Take r16.2 s_cancel).bind fun r20 =>
 bif r20.1 then
 (read_Row_Name r20.2).bind fun r21 =>
 (read_Row_Want r21.2 s_semi).bind fun r22 =>
 some (api_Act.mk 5 r21.1 [] [] 0 [] [] r1.1.At, r22) else
 (read_Row_Is r20.2 s_if).bind fun r23 =>
 bif r23.1 then
 bif r23.1 then
 (act_reader_whole_1 self_act_reader_block r23.2 (api_Act.mk 0 [] [] [] 0 [] [] r1.1.At)).bind fun r24 =>
 some (api_Act.mk r24.1.Kind r24.1.Name r24.1.Event r24.1.X r24.1.N r24.1.Then r24.1.Else r24.1.At, r24.2) else
 (read_Row_Wrong r23.2).bind fun r25 =>
 (read_Row_Want r25 s_semi).bind fun r26 =>
 some (api_Act.mk 0 [] [] [] 0 [] [] r1.1.At, r26) else
 (read_Row_Is r23.2 s_loop).bind fun r27 =>
 bif r27.1 then
 (act_reader_whole_1 self_act_reader_block r27.2 (api_Act.mk 0 [] [] [] 0 [] [] r1.1.At)).bind fun r28 =>
 some (api_Act.mk r28.1.Kind r28.1.Name r28.1.Event r28.1.X r28.1.N r28.1.Then r28.1.Else r28.1.At, r28.2) else
 (read_Row_Wrong r27.2).bind fun r29 =>
 (read_Row_Want r29 s_semi).bind fun r30 =>
 some (api_Act.mk 0 [] [] [] 0 [] [] r1.1.At, r30)
noncomputable abbrev act_reader_act_1_T (self_act_reader_block : act_reader → Option (List api_Act × act_reader)) : Tab S := ⟨[⟨55, [.obj [.data (.st 5)]], [.val (.data (.st 2))], fun x => read_Row_Look x⟩, ⟨84, [.obj [.data (.st 5)]], [.val (.data .bool)], fun x => read_Row_IsName x⟩, ⟨85, [.obj [.data (.st 5)]], [.val (.data .str)], fun x => read_Row_Name x⟩, ⟨56, [.obj [.data (.st 5)], .val (.data .str)], [], fun x => read_Row_Want x.1 x.2⟩, ⟨86, [.obj [.data (.st 5)]], [.val (.data (.sl (.st 1)))], fun x => act_reader_expr x⟩, ⟨57, [.obj [.data (.st 5)], .val (.data .str)], [.val (.data .bool)], fun x => read_Row_Take x.1 x.2⟩, ⟨87, [.obj [.data (.st 5)]], [.val (.data (.sl (.st 1)))], fun x => act_reader_number x⟩, ⟨88, [.obj [.data (.st 5)]], [.val (.data (.sl (.st 1)))], fun x => act_reader_inside x⟩, ⟨53, [.obj [.data (.st 5)], .val (.data .str)], [.val (.data .bool)], fun x => read_Row_Is x.1 x.2⟩, ⟨89, [.obj [.data (.st 5)], .val (.data (.st 0))], [.val (.data (.st 0))], fun x => act_reader_whole_1 self_act_reader_block x.1 x.2⟩, ⟨83, [.obj [.data (.st 5)]], [], fun x => read_Row_Wrong x⟩], [], false, false, none, []⟩
noncomputable def act_reader_act_1_L (self_act_reader_block : act_reader → Option (List api_Act × act_reader)) (k : Nat) : Nat → List (Lab S (api_Act × act_reader))
 | _ => []
theorem act_reader_act_1_eq (self_act_reader_block : act_reader → Option (List api_Act × act_reader)) (k : Nat) (r_ : act_reader) : act_reader_act_1 self_act_reader_block r_ = exec S (act_reader_act_1_T self_act_reader_block) byt (labs S (act_reader_act_1_T self_act_reader_block) (act_reader_act_1_L self_act_reader_block k)) (ac [] Tryz.f58) (frame0 S [.obj [.data (.st 5)]] r_) (retK S (act_reader_act_1_T self_act_reader_block) Tryz.f58 [.obj [.data (.st 5)]] [.val (.data (.st 0))]) := by kernel_rfl
theorem act_reader_act_1_vc (self_act_reader_block : act_reader → Option (List api_Act × act_reader)) (k : Nat) : VC S (act_reader_act_1_T self_act_reader_block) byt (act_reader_act_1_L self_act_reader_block k) (act_reader_act_1_L self_act_reader_block (k + 1)) (ac [] Tryz.f58) (retK S (act_reader_act_1_T self_act_reader_block) Tryz.f58 [.obj [.data (.st 5)]] [.val (.data (.st 0))]) = [] := by kernel_rfl
theorem act_reader_act_1_snd (self_act_reader_block : act_reader → Option (List api_Act × act_reader)) (hself_act_reader_block : Snd Tryz.prog S ⟨27, [.obj [.data (.st 5)]], [.val (.town (.st 0))], fun x => self_act_reader_block x⟩) : Snd Tryz.prog S ⟨58, [.obj [.data (.st 5)]], [.val (.data (.st 0))], fun x => act_reader_act_1 self_act_reader_block x⟩ :=
 fn_ok progOk (T := (act_reader_act_1_T self_act_reader_block)) (all_cons read_Row_Look_snd (all_cons read_Row_IsName_snd (all_cons read_Row_Name_snd (all_cons read_Row_Want_snd (all_cons act_reader_expr_snd (all_cons read_Row_Take_snd (all_cons act_reader_number_snd (all_cons act_reader_inside_snd (all_cons read_Row_Is_snd (all_cons (act_reader_whole_1_snd self_act_reader_block hself_act_reader_block) (all_cons read_Row_Wrong_snd (all_nil)))))))))))) (all_nil) (all_nil) mixed Tryz.func58 rfl (by kernel_rfl) (ac_code [] Tryz.f58 rfl) (L := act_reader_act_1_L self_act_reader_block)
  (fun n l h x => by cases h) (fun k n l h => by cases h)
  (fun k => All.mem (act_reader_act_1_vc self_act_reader_block k) trivial) (fun x r h => ⟨0, (act_reader_act_1_eq self_act_reader_block 0 x).symm.trans h⟩) (by kernel_rfl) (by kernel_rfl) (Nat.le_of_ble_eq_true (by kernel_rfl)) (by kernel_rfl)
noncomputable def act_reader_block_l0 (self_act_reader_block : act_reader → Option (List api_Act × act_reader)) : Nat → (List api_Token) → Int → Int → Int → Int → (List api_Act) → Option (List api_Act × act_reader)
 | 0, _, _, _, _, _, _ => none
 | k + 1, r__Row_L, r__Row_At, r__Row_Fault_Code, r__Row_Fault_At, r__v_open, l => (read_Row_OK (act_reader.mk (read_Row.mk r__Row_L r__Row_At (api_Fault.mk r__Row_Fault_Code r__Row_Fault_At)) r__v_open)).bind fun r5 =>
  bif r5.1 then
  (read_Row_Take r5.2 s_rb).bind fun r6 =>
  bif !r6.1 then
  (act_reader_act_1 self_act_reader_block r6.2).bind fun r7 =>
  if (l.length + [r7.1].length) * 128 ≤ 140737488355328 then
  act_reader_block_l0 self_act_reader_block k r7.2.Row.L r7.2.Row.At r7.2.Row.Fault.Code r7.2.Row.Fault.At r7.2.v_open (l ++ [r7.1]) else none else
  some (l, act_reader.mk r6.2.Row (w64 (r6.2.v_open - 1))) else
  some (l, act_reader.mk r5.2.Row (w64 (r5.2.v_open - 1)))
noncomputable def act_reader_block_c0 (self_act_reader_block : act_reader → Option (List api_Act × act_reader)) : Nat → (List api_Token) → Int → Int → Int → Int → Option (List api_Act × act_reader)
 | 0, _, _, _, _, _ => none
 | k + 1, r__Row_L, r__Row_At, r__Row_Fault_Code, r__Row_Fault_At, r__v_open => (read_Row_Want (act_reader.mk (read_Row.mk r__Row_L r__Row_At (api_Fault.mk r__Row_Fault_Code r__Row_Fault_At)) r__v_open) s_lb).bind fun r4 =>
  act_reader_block_l0 self_act_reader_block k r4.Row.L r4.Row.At r4.Row.Fault.Code r4.Row.Fault.At (w64 (r4.v_open + 1)) []
noncomputable def act_reader_block_b (self_act_reader_block : act_reader → Option (List api_Act × act_reader)) (k : Nat) (r_ : act_reader) : Option (List api_Act × act_reader) := (read_Row_Is r_ s_lb).bind fun r1 =>
 bif r1.1 then
 if r1.2.v_open = 4 then
 (read_Row_Look r1.2).bind fun r2 =>
 (read_Row_Fail r2.2 14 r2.1.At).bind fun r3 =>
 act_reader_block_c0 self_act_reader_block k r3.Row.L r3.Row.At r3.Row.Fault.Code r3.Row.Fault.At r3.v_open else
 act_reader_block_c0 self_act_reader_block k r1.2.Row.L r1.2.Row.At r1.2.Row.Fault.Code r1.2.Row.Fault.At r1.2.v_open else
 act_reader_block_c0 self_act_reader_block k r1.2.Row.L r1.2.Row.At r1.2.Row.Fault.Code r1.2.Row.Fault.At r1.2.v_open
noncomputable def act_reader_block_f : Nat → act_reader → Option (List api_Act × act_reader)
 | 0, _ => none
 | k + 1, x0 => act_reader_block_b (act_reader_block_f k) k x0
noncomputable def act_reader_block  (r_ : act_reader) : Option (List api_Act × act_reader) := lim (fun k (x : act_reader) => act_reader_block_f k x) r_
noncomputable abbrev act_reader_block_T (self_act_reader_block : act_reader → Option (List api_Act × act_reader)) : Tab S := ⟨[⟨53, [.obj [.data (.st 5)], .val (.data .str)], [.val (.data .bool)], fun x => read_Row_Is x.1 x.2⟩, ⟨55, [.obj [.data (.st 5)]], [.val (.data (.st 2))], fun x => read_Row_Look x⟩, ⟨54, [.obj [.data (.st 5)], .val (.data (.int .i64)), .val (.data (.int .i64))], [], fun x => read_Row_Fail x.1 x.2.1 x.2.2⟩, ⟨56, [.obj [.data (.st 5)], .val (.data .str)], [], fun x => read_Row_Want x.1 x.2⟩, ⟨28, [.obj [.data (.st 5)]], [.val (.data .bool)], fun x => read_Row_OK x⟩, ⟨57, [.obj [.data (.st 5)], .val (.data .str)], [.val (.data .bool)], fun x => read_Row_Take x.1 x.2⟩, ⟨58, [.obj [.data (.st 5)]], [.val (.data (.st 0))], fun x => act_reader_act_1 self_act_reader_block x⟩], [], false, false, none, []⟩
noncomputable def act_reader_block_L (self_act_reader_block : act_reader → Option (List api_Act × act_reader)) (k : Nat) : Nat → List (Lab S (List api_Act × act_reader))
 | 0 => [⟨[0, 3], [.obj [.data (.sl (.st 2)), .data (.int .i64), .data (.int .i64), .data (.int .i64), .data (.int .i64)], .val (.town (.st 0))], fun x => act_reader_block_l0 self_act_reader_block k x.1.1 x.1.2.1 x.1.2.2.1 x.1.2.2.2.1 x.1.2.2.2.2 x.2, false⟩]
 | 1 => [⟨[0], [.obj [.data (.sl (.st 2)), .data (.int .i64), .data (.int .i64), .data (.int .i64), .data (.int .i64)]], fun x => act_reader_block_c0 self_act_reader_block k x.1 x.2.1 x.2.2.1 x.2.2.2.1 x.2.2.2.2, false⟩]
 | _ + 2 => []
theorem act_reader_block_eq (self_act_reader_block : act_reader → Option (List api_Act × act_reader)) (k : Nat) (r_ : act_reader) : act_reader_block_b self_act_reader_block k r_ = exec S (act_reader_block_T self_act_reader_block) byt (labs S (act_reader_block_T self_act_reader_block) (act_reader_block_L self_act_reader_block k)) (ac [1] Tryz.f27) (frame0 S [.obj [.data (.st 5)]] r_) (retK S (act_reader_block_T self_act_reader_block) Tryz.f27 [.obj [.data (.st 5)]] [.val (.town (.st 0))]) := by kernel_rfl
theorem act_reader_block_vc (self_act_reader_block : act_reader → Option (List api_Act × act_reader)) (k : Nat) : VC S (act_reader_block_T self_act_reader_block) byt (act_reader_block_L self_act_reader_block k) (act_reader_block_L self_act_reader_block (k + 1)) (ac [1] Tryz.f27) (retK S (act_reader_block_T self_act_reader_block) Tryz.f27 [.obj [.data (.st 5)]] [.val (.town (.st 0))]) = [∀ x : (List api_Token × Int × Int × Int × Int) × List api_Act, act_reader_block_l0 self_act_reader_block (k + 1) x.1.1 x.1.2.1 x.1.2.2.1 x.1.2.2.2.1 x.1.2.2.2.2 x.2 = act_reader_block_l0 self_act_reader_block (k + 1) x.1.1 x.1.2.1 x.1.2.2.1 x.1.2.2.2.1 x.1.2.2.2.2 x.2, ∀ x : (List api_Token × Int × Int × Int × Int), act_reader_block_c0 self_act_reader_block (k + 1) x.1 x.2.1 x.2.2.1 x.2.2.2.1 x.2.2.2.2 = act_reader_block_c0 self_act_reader_block (k + 1) x.1 x.2.1 x.2.2.1 x.2.2.2.1 x.2.2.2.2] := by kernel_rfl
theorem act_reader_block_sndk (self_act_reader_block : act_reader → Option (List api_Act × act_reader)) (hself : Snd Tryz.prog S ⟨27, [.obj [.data (.st 5)]], [.val (.town (.st 0))], fun x => self_act_reader_block x⟩) (k : Nat) : Snd Tryz.prog S ⟨27, [.obj [.data (.st 5)]], [.val (.town (.st 0))], fun x => act_reader_block_b self_act_reader_block k x⟩ :=
 fn_ok progOk (T := (act_reader_block_T self_act_reader_block)) (all_cons read_Row_Is_snd (all_cons read_Row_Look_snd (all_cons read_Row_Fail_snd (all_cons read_Row_Want_snd (all_cons read_Row_OK_snd (all_cons read_Row_Take_snd (all_cons (act_reader_act_1_snd self_act_reader_block hself) (all_nil)))))))) (all_nil) (all_nil) mixed Tryz.func27 rfl (by kernel_rfl) (ac_code [1] Tryz.f27 rfl) (L := act_reader_block_L self_act_reader_block)
  (fun n l h x => by match n, h with
   | 0, h =>
    rcases List.mem_cons.1 h with rfl | h
    · rfl
    cases h
   | 1, h =>
    rcases List.mem_cons.1 h with rfl | h
    · rfl
    cases h
   | _ + 2, h => cases h) (fun k n l h => by match n, h with
   | 0, h =>
    rcases List.mem_cons.1 h with rfl | h
    · rfl
    cases h
   | 1, h =>
    rcases List.mem_cons.1 h with rfl | h
    · rfl
    cases h
   | _ + 2, h => cases h)
  (fun k => All.mem (act_reader_block_vc self_act_reader_block k) ⟨fun _ => rfl, ⟨fun _ => rfl, trivial⟩⟩) (fun x r h => ⟨k, (act_reader_block_eq self_act_reader_block k x).symm.trans h⟩) (by kernel_rfl) (by kernel_rfl) (Nat.le_of_ble_eq_true (by kernel_rfl)) (by kernel_rfl)
theorem act_reader_block_sndf : ∀ k, Snd Tryz.prog S ⟨27, [.obj [.data (.st 5)]], [.val (.town (.st 0))], fun x => act_reader_block_f k x⟩
 | 0 => Snd.none ⟨_, Tryz.func27, by kernel_rfl, by kernel_rfl⟩ fun _ => rfl
 | k + 1 => act_reader_block_sndk (act_reader_block_f k) (act_reader_block_sndf k) k
theorem act_reader_block_snd : Snd Tryz.prog S ⟨27, [.obj [.data (.st 5)]], [.val (.town (.st 0))], fun x => act_reader_block x⟩ := Snd.lim (act_reader_block_sndf)
noncomputable def act_Parse  (l : List api_Token) (v_at : Int) : Option (List api_Act × Int × api_Fault) := (act_reader_block (act_reader.mk (read_Row.mk l v_at (api_Fault.mk 0 0)) 0)).bind fun r1 =>
 (read_Row_OK r1.2).bind fun r2 =>
 bif !r2.1 then
 some ([], 0, r2.2.Row.Fault) else
 some (r1.1, r2.2.Row.At, api_Fault.mk 0 0)
noncomputable abbrev act_Parse_T : Tab S := ⟨[⟨27, [.obj [.data (.st 5)]], [.val (.town (.st 0))], fun x => act_reader_block x⟩, ⟨28, [.obj [.data (.st 5)]], [.val (.data .bool)], fun x => read_Row_OK x⟩], [], false, false, none, []⟩
noncomputable def act_Parse_L (k : Nat) : Nat → List (Lab S (List api_Act × Int × api_Fault))
 | _ => []
theorem act_Parse_eq (k : Nat) (l : List api_Token) (v_at : Int) : act_Parse l v_at = exec S (act_Parse_T) byt (labs S (act_Parse_T) (act_Parse_L k)) (ac [] Tryz.f11) (frame0 S [.val (.data (.sl (.st 2))), .val (.data (.int .i64))] (l, v_at)) (retK S (act_Parse_T) Tryz.f11 [.val (.data (.sl (.st 2))), .val (.data (.int .i64))] [.val (.town (.st 0)), .val (.data (.int .i64)), .val (.data (.st 3))]) := by kernel_rfl
theorem act_Parse_vc (k : Nat) : VC S (act_Parse_T) byt (act_Parse_L k) (act_Parse_L (k + 1)) (ac [] Tryz.f11) (retK S (act_Parse_T) Tryz.f11 [.val (.data (.sl (.st 2))), .val (.data (.int .i64))] [.val (.town (.st 0)), .val (.data (.int .i64)), .val (.data (.st 3))]) = [] := by kernel_rfl
theorem act_Parse_snd : Snd Tryz.prog S ⟨11, [.val (.data (.sl (.st 2))), .val (.data (.int .i64))], [.val (.town (.st 0)), .val (.data (.int .i64)), .val (.data (.st 3))], fun x => act_Parse x.1 x.2⟩ :=
 fn_ok progOk (T := (act_Parse_T)) (all_cons act_reader_block_snd (all_cons read_Row_OK_snd (all_nil))) (all_nil) (all_nil) mixed Tryz.func11 rfl (by kernel_rfl) (ac_code [] Tryz.f11 rfl) (L := act_Parse_L)
  (fun n l h x => by cases h) (fun k n l h => by cases h)
  (fun k => All.mem (act_Parse_vc k) trivial) (fun x r h => ⟨0, (act_Parse_eq 0 x.1 x.2).symm.trans h⟩) (by kernel_rfl) (by kernel_rfl) (Nat.le_of_ble_eq_true (by kernel_rfl)) (by kernel_rfl)
noncomputable def law8_read  (s : List UInt8) : Option (List api_Act × Bool) := (lex_All s).bind fun r1 =>
 if r1.2.Code ≠ 0 then
 some ([], false) else
 (act_Parse r1.1 0).bind fun r2 =>
 if r2.2.2.Code = 0 then
 some (r2.1, decide (r2.2.1 = (w64 ((r1.1.length : Int) - 1)))) else
 some (r2.1, false)
noncomputable abbrev law8_read_T : Tab S := ⟨[⟨18, [.val (.data .str)], [.val (.town (.st 2)), .val (.data (.st 3))], fun x => lex_All x⟩, ⟨11, [.val (.data (.sl (.st 2))), .val (.data (.int .i64))], [.val (.town (.st 0)), .val (.data (.int .i64)), .val (.data (.st 3))], fun x => act_Parse x.1 x.2⟩], [], false, false, none, []⟩
noncomputable def law8_read_L (k : Nat) : Nat → List (Lab S (List api_Act × Bool))
 | _ => []
theorem law8_read_eq (k : Nat) (s : List UInt8) : law8_read s = exec S (law8_read_T) byt (labs S (law8_read_T) (law8_read_L k)) (ac [] Tryz.f21) (frame0 S [.val (.data .str)] s) (retK S (law8_read_T) Tryz.f21 [.val (.data .str)] [.val (.town (.st 0)), .val (.data .bool)]) := by kernel_rfl
theorem law8_read_vc (k : Nat) : VC S (law8_read_T) byt (law8_read_L k) (law8_read_L (k + 1)) (ac [] Tryz.f21) (retK S (law8_read_T) Tryz.f21 [.val (.data .str)] [.val (.town (.st 0)), .val (.data .bool)]) = [] := by kernel_rfl
theorem law8_read_snd : Snd Tryz.prog S ⟨21, [.val (.data .str)], [.val (.town (.st 0)), .val (.data .bool)], fun x => law8_read x⟩ :=
 fn_ok progOk (T := (law8_read_T)) (all_cons lex_All_snd (all_cons act_Parse_snd (all_nil))) (all_nil) (all_nil) mixed Tryz.func21 rfl (by kernel_rfl) (ac_code [] Tryz.f21 rfl) (L := law8_read_L)
  (fun n l h x => by cases h) (fun k n l h => by cases h)
  (fun k => All.mem (law8_read_vc k) trivial) (fun x r h => ⟨0, (law8_read_eq 0 x).symm.trans h⟩) (by kernel_rfl) (by kernel_rfl) (Nat.le_of_ble_eq_true (by kernel_rfl)) (by kernel_rfl)
noncomputable def expr_between_l0 : Nat → Int → (List UInt8 × List UInt8 × List UInt8 × List UInt8 × List UInt8 × List UInt8 × List UInt8 × List UInt8 × List UInt8 × List UInt8 × List UInt8 × List UInt8 × List UInt8) → Int → Option (List UInt8 × Int)
 | 0, _, _, _ => none
 | k + 1, kind, x8, x9 => if x9 < 13 then
  if 0 ≤ x9 then
  if x9 < ([x8.1, x8.2.1, x8.2.2.1, x8.2.2.2.1, x8.2.2.2.2.1, x8.2.2.2.2.2.1, x8.2.2.2.2.2.2.1, x8.2.2.2.2.2.2.2.1, x8.2.2.2.2.2.2.2.2.1, x8.2.2.2.2.2.2.2.2.2.1, x8.2.2.2.2.2.2.2.2.2.2.1, x8.2.2.2.2.2.2.2.2.2.2.2.1, x8.2.2.2.2.2.2.2.2.2.2.2.2].length : Int) then
  (expr_sign ([x8.1, x8.2.1, x8.2.2.1, x8.2.2.2.1, x8.2.2.2.2.1, x8.2.2.2.2.2.1, x8.2.2.2.2.2.2.1, x8.2.2.2.2.2.2.2.1, x8.2.2.2.2.2.2.2.2.1, x8.2.2.2.2.2.2.2.2.2.1, x8.2.2.2.2.2.2.2.2.2.2.1, x8.2.2.2.2.2.2.2.2.2.2.2.1, x8.2.2.2.2.2.2.2.2.2.2.2.2].getD x9.toNat [])).bind fun r1 =>
  if r1.1 = kind then
  some ([x8.1, x8.2.1, x8.2.2.1, x8.2.2.2.1, x8.2.2.2.2.1, x8.2.2.2.2.2.1, x8.2.2.2.2.2.2.1, x8.2.2.2.2.2.2.2.1, x8.2.2.2.2.2.2.2.2.1, x8.2.2.2.2.2.2.2.2.2.1, x8.2.2.2.2.2.2.2.2.2.2.1, x8.2.2.2.2.2.2.2.2.2.2.2.1, x8.2.2.2.2.2.2.2.2.2.2.2.2].getD x9.toNat [], r1.2) else
  expr_between_l0 k kind x8 (w64 (x9 + 1)) else none else none else
  some ([], 0)
noncomputable def expr_between_f (k : Nat) (kind : Int) : Option (List UInt8 × Int) := expr_between_l0 k kind arr_x03b7b 0
noncomputable def expr_between  (kind : Int) : Option (List UInt8 × Int) := lim (fun k (x : Int) => expr_between_f k x) kind
noncomputable abbrev expr_between_T : Tab S := ⟨[⟨148, [.val (.data .str)], [.val (.data (.int .i64)), .val (.data (.int .i64))], fun x => expr_sign x⟩], [], false, false, none, []⟩
noncomputable def expr_between_L (k : Nat) : Nat → List (Lab S (List UInt8 × Int))
 | 0 => [⟨[0, 8, 9], [.val (.data (.int .i64)), .val (.data (.st 8)), .val (.data (.int .i64))], fun x => expr_between_l0 k x.1 x.2.1 x.2.2, false⟩]
 | _ + 1 => []
theorem expr_between_eq (k : Nat) (kind : Int) : expr_between_f k kind = exec S (expr_between_T) byt (labs S (expr_between_T) (expr_between_L k)) (ac [] Tryz.f143) (frame0 S [.val (.data (.int .i64))] kind) (retK S (expr_between_T) Tryz.f143 [.val (.data (.int .i64))] [.val (.data .str), .val (.data (.int .i64))]) := by kernel_rfl
theorem expr_between_vc (k : Nat) : VC S (expr_between_T) byt (expr_between_L k) (expr_between_L (k + 1)) (ac [] Tryz.f143) (retK S (expr_between_T) Tryz.f143 [.val (.data (.int .i64))] [.val (.data .str), .val (.data (.int .i64))]) = [∀ x : Int × (List UInt8 × List UInt8 × List UInt8 × List UInt8 × List UInt8 × List UInt8 × List UInt8 × List UInt8 × List UInt8 × List UInt8 × List UInt8 × List UInt8 × List UInt8) × Int, expr_between_l0 (k + 1) x.1 x.2.1 x.2.2 = expr_between_l0 (k + 1) x.1 x.2.1 x.2.2] := by kernel_rfl
theorem expr_between_sndk (k : Nat) : Snd Tryz.prog S ⟨143, [.val (.data (.int .i64))], [.val (.data .str), .val (.data (.int .i64))], fun x => expr_between_f k x⟩ :=
 fn_ok progOk (T := (expr_between_T)) (all_cons expr_sign_snd (all_nil)) (all_nil) (all_nil) mixed Tryz.func143 rfl (by kernel_rfl) (ac_code [] Tryz.f143 rfl) (L := expr_between_L)
  (fun n l h x => by match n, h with
   | 0, h =>
    rcases List.mem_cons.1 h with rfl | h
    · rfl
    cases h
   | _ + 1, h => cases h) (fun k n l h => by match n, h with
   | 0, h =>
    rcases List.mem_cons.1 h with rfl | h
    · rfl
    cases h
   | _ + 1, h => cases h)
  (fun k => All.mem (expr_between_vc k) ⟨fun _ => rfl, trivial⟩) (fun x r h => ⟨k, (expr_between_eq k x).symm.trans h⟩) (by kernel_rfl) (by kernel_rfl) (Nat.le_of_ble_eq_true (by kernel_rfl)) (by kernel_rfl)
theorem expr_between_snd : Snd Tryz.prog S ⟨143, [.val (.data (.int .i64))], [.val (.data .str), .val (.data (.int .i64))], fun x => expr_between x⟩ := Snd.lim (expr_between_sndk)
noncomputable def expr_level  (kind : Int) : Option Int := if kind = 5 then
 some 6 else
 if kind = 6 then
 some 6 else
 (expr_between kind).bind fun r1 =>
 if 0 < r1.2 then
 some r1.2 else
 some 7
noncomputable abbrev expr_level_T : Tab S := ⟨[⟨143, [.val (.data (.int .i64))], [.val (.data .str), .val (.data (.int .i64))], fun x => expr_between x⟩], [], false, false, none, []⟩
noncomputable def expr_level_L (k : Nat) : Nat → List (Lab S Int)
 | _ => []
theorem expr_level_eq (k : Nat) (kind : Int) : expr_level kind = exec S (expr_level_T) byt (labs S (expr_level_T) (expr_level_L k)) (ac [] Tryz.f123) (frame0 S [.val (.data (.int .i64))] kind) (retK S (expr_level_T) Tryz.f123 [.val (.data (.int .i64))] [.val (.data (.int .i64))]) := by kernel_rfl
theorem expr_level_vc (k : Nat) : VC S (expr_level_T) byt (expr_level_L k) (expr_level_L (k + 1)) (ac [] Tryz.f123) (retK S (expr_level_T) Tryz.f123 [.val (.data (.int .i64))] [.val (.data (.int .i64))]) = [] := by kernel_rfl
theorem expr_level_snd : Snd Tryz.prog S ⟨123, [.val (.data (.int .i64))], [.val (.data (.int .i64))], fun x => expr_level x⟩ :=
 fn_ok progOk (T := (expr_level_T)) (all_cons expr_between_snd (all_nil)) (all_nil) (all_nil) mixed Tryz.func123 rfl (by kernel_rfl) (ac_code [] Tryz.f123 rfl) (L := expr_level_L)
  (fun n l h x => by cases h) (fun k n l h => by cases h)
  (fun k => All.mem (expr_level_vc k) trivial) (fun x r h => ⟨0, (expr_level_eq 0 x).symm.trans h⟩) (by kernel_rfl) (by kernel_rfl) (Nat.le_of_ble_eq_true (by kernel_rfl)) (by kernel_rfl)
noncomputable def expr_places  (kind : Int) : Option (List Int) := (expr_level kind).bind fun r1 =>
 if r1 = 7 then
 some [] else
 if r1 = 6 then
 some [6] else
 if r1 = 3 then
 some [4, 4] else
 some [r1, w64 (r1 + 1)]
noncomputable abbrev expr_places_T : Tab S := ⟨[⟨123, [.val (.data (.int .i64))], [.val (.data (.int .i64))], fun x => expr_level x⟩], [], false, false, none, []⟩
noncomputable def expr_places_L (k : Nat) : Nat → List (Lab S (List Int))
 | _ => []
theorem expr_places_eq (k : Nat) (kind : Int) : expr_places kind = exec S (expr_places_T) byt (labs S (expr_places_T) (expr_places_L k)) (ac [] Tryz.f124) (frame0 S [.val (.data (.int .i64))] kind) (retK S (expr_places_T) Tryz.f124 [.val (.data (.int .i64))] [.val (.data (.sl (.int .i64)))]) := by kernel_rfl
theorem expr_places_vc (k : Nat) : VC S (expr_places_T) byt (expr_places_L k) (expr_places_L (k + 1)) (ac [] Tryz.f124) (retK S (expr_places_T) Tryz.f124 [.val (.data (.int .i64))] [.val (.data (.sl (.int .i64)))]) = [] := by kernel_rfl
theorem expr_places_snd : Snd Tryz.prog S ⟨124, [.val (.data (.int .i64))], [.val (.data (.sl (.int .i64)))], fun x => expr_places x⟩ :=
 fn_ok progOk (T := (expr_places_T)) (all_cons expr_level_snd (all_nil)) (all_nil) (all_nil) mixed Tryz.func124 rfl (by kernel_rfl) (ac_code [] Tryz.f124 rfl) (L := expr_places_L)
  (fun n l h x => by cases h) (fun k n l h => by cases h)
  (fun k => All.mem (expr_places_vc k) trivial) (fun x r h => ⟨0, (expr_places_eq 0 x).symm.trans h⟩) (by kernel_rfl) (by kernel_rfl) (Nat.le_of_ble_eq_true (by kernel_rfl)) (by kernel_rfl)
noncomputable def expr_write_l0 (self_expr_write : (List UInt8) → api_Expr → Int → Option (List UInt8)) : Nat → (List UInt8) → Int → Int → (List UInt8) → (List api_Expr) → Int → (List Int) → Int → Int → Option (List UInt8)
 | 0, _, _, _, _, _, _, _, _, _ => none
 | k + 1, b, e_Kind, e_N, e_Name, e_Kids, e_At, x55, x56, x57 => if x57 < x56 then
  if 0 ≤ x57 then
  if x57 < (x55.length : Int) then
  if (e_Kids.length : Int) ≤ x57 then
  (bldByte b 41).bind fun r31 =>
  some r31.2 else
  if 0 < x57 then
  (expr_between e_Kind).bind fun r32 =>
  if s_sp.length + r32.1.length ≤ 9223372036854775807 then
  if (s_sp ++ r32.1).length + s_sp.length ≤ 9223372036854775807 then
  (bldStr b ((s_sp ++ r32.1) ++ s_sp)).bind fun r33 =>
  if 0 ≤ x57 then
  if x57 < (e_Kids.length : Int) then
  (self_expr_write r33.2.2 (e_Kids.getD x57.toNat api_Expr.z) (x55.getD x57.toNat 0)).bind fun r34 =>
  expr_write_l0 self_expr_write k r34 e_Kind e_N e_Name e_Kids e_At x55 x56 (w64 (x57 + 1)) else none else none else none else none else
  if 0 ≤ x57 then
  if x57 < (e_Kids.length : Int) then
  (self_expr_write b (e_Kids.getD x57.toNat api_Expr.z) (x55.getD x57.toNat 0)).bind fun r35 =>
  expr_write_l0 self_expr_write k r35 e_Kind e_N e_Name e_Kids e_At x55 x56 (w64 (x57 + 1)) else none else none else none else none else
  (bldByte b 41).bind fun r36 =>
  some r36.2
noncomputable def expr_write_l0b (self_expr_write : (List UInt8) → api_Expr → Int → Option (List UInt8)) : Nat → (List UInt8) → Int → Int → (List UInt8) → (List api_Expr) → Int → (List Int) → Int → Int → Option (List UInt8)
 | 0, _, _, _, _, _, _, _, _, _ => none
 | k + 1, b, e_Kind, e_N, e_Name, e_Kids, e_At, x55, x56, x57 => if x57 < x56 then
  if 0 ≤ x57 then
  if x57 < (x55.length : Int) then
  if (e_Kids.length : Int) ≤ x57 then
  some b else
  if 0 < x57 then
  (expr_between e_Kind).bind fun r37 =>
  if s_sp.length + r37.1.length ≤ 9223372036854775807 then
  if (s_sp ++ r37.1).length + s_sp.length ≤ 9223372036854775807 then
  (bldStr b ((s_sp ++ r37.1) ++ s_sp)).bind fun r38 =>
  if 0 ≤ x57 then
  if x57 < (e_Kids.length : Int) then
  (self_expr_write r38.2.2 (e_Kids.getD x57.toNat api_Expr.z) (x55.getD x57.toNat 0)).bind fun r39 =>
  expr_write_l0b self_expr_write k r39 e_Kind e_N e_Name e_Kids e_At x55 x56 (w64 (x57 + 1)) else none else none else none else none else
  if 0 ≤ x57 then
  if x57 < (e_Kids.length : Int) then
  (self_expr_write b (e_Kids.getD x57.toNat api_Expr.z) (x55.getD x57.toNat 0)).bind fun r40 =>
  expr_write_l0b self_expr_write k r40 e_Kind e_N e_Name e_Kids e_At x55 x56 (w64 (x57 + 1)) else none else none else none else none else
  some b
noncomputable def expr_write_b (self_expr_write : (List UInt8) → api_Expr → Int → Option (List UInt8)) (k : Nat) (b : List UInt8) (e : api_Expr) (asked : Int) : Option (List UInt8) := (expr_level e.Kind).bind fun r1 =>
 if r1 < asked then
 (bldByte b 40).bind fun r2 =>
 if e.Kind = 1 then
 (p_FormatInt e.N 10).bind fun r3 =>
 (bldStr r2.2 r3).bind fun r4 =>
 (expr_places e.Kind).bind fun r5 =>
 expr_write_l0 self_expr_write k r4.2.2 e.Kind e.N e.Name e.Kids e.At r5 (r5.length : Int) 0 else
 if e.Kind = 3 then
 (bldByte r2.2 36).bind fun r6 =>
 (expr_places e.Kind).bind fun r7 =>
 expr_write_l0 self_expr_write k r6.2 e.Kind e.N e.Name e.Kids e.At r7 (r7.length : Int) 0 else
 if e.Kind = 2 then
 (bldStr r2.2 e.Name).bind fun r8 =>
 (expr_places e.Kind).bind fun r9 =>
 expr_write_l0 self_expr_write k r8.2.2 e.Kind e.N e.Name e.Kids e.At r9 (r9.length : Int) 0 else
 if e.Kind = 4 then
 if s_in_xcc76e.length + e.Name.length ≤ 9223372036854775807 then
 if (s_in_xcc76e ++ e.Name).length + s_rp.length ≤ 9223372036854775807 then
 (bldStr r2.2 ((s_in_xcc76e ++ e.Name) ++ s_rp)).bind fun r10 =>
 (expr_places e.Kind).bind fun r11 =>
 expr_write_l0 self_expr_write k r10.2.2 e.Kind e.N e.Name e.Kids e.At r11 (r11.length : Int) 0 else none else none else
 if e.Kind = 5 then
 (bldByte r2.2 45).bind fun r12 =>
 (expr_places e.Kind).bind fun r13 =>
 expr_write_l0 self_expr_write k r12.2 e.Kind e.N e.Name e.Kids e.At r13 (r13.length : Int) 0 else
 if e.Kind = 6 then
 (bldByte r2.2 33).bind fun r14 =>
 (expr_places e.Kind).bind fun r15 =>
 expr_write_l0 self_expr_write k r14.2 e.Kind e.N e.Name e.Kids e.At r15 (r15.length : Int) 0 else
 (expr_places e.Kind).bind fun r16 =>
 expr_write_l0 self_expr_write k r2.2 e.Kind e.N e.Name e.Kids e.At r16 (r16.length : Int) 0 else
 if e.Kind = 1 then
 (p_FormatInt e.N 10).bind fun r17 =>
 (bldStr b r17).bind fun r18 =>
 (expr_places e.Kind).bind fun r19 =>
 expr_write_l0b self_expr_write k r18.2.2 e.Kind e.N e.Name e.Kids e.At r19 (r19.length : Int) 0 else
 if e.Kind = 3 then
 (bldByte b 36).bind fun r20 =>
 (expr_places e.Kind).bind fun r21 =>
 expr_write_l0b self_expr_write k r20.2 e.Kind e.N e.Name e.Kids e.At r21 (r21.length : Int) 0 else
 if e.Kind = 2 then
 (bldStr b e.Name).bind fun r22 =>
 (expr_places e.Kind).bind fun r23 =>
 expr_write_l0b self_expr_write k r22.2.2 e.Kind e.N e.Name e.Kids e.At r23 (r23.length : Int) 0 else
 if e.Kind = 4 then
 if s_in_xcc76e.length + e.Name.length ≤ 9223372036854775807 then
 if (s_in_xcc76e ++ e.Name).length + s_rp.length ≤ 9223372036854775807 then
 (bldStr b ((s_in_xcc76e ++ e.Name) ++ s_rp)).bind fun r24 =>
 (expr_places e.Kind).bind fun r25 =>
 expr_write_l0b self_expr_write k r24.2.2 e.Kind e.N e.Name e.Kids e.At r25 (r25.length : Int) 0 else none else none else
 if e.Kind = 5 then
 (bldByte b 45).bind fun r26 =>
 (expr_places e.Kind).bind fun r27 =>
 expr_write_l0b self_expr_write k r26.2 e.Kind e.N e.Name e.Kids e.At r27 (r27.length : Int) 0 else
 if e.Kind = 6 then
 (bldByte b 33).bind fun r28 =>
 (expr_places e.Kind).bind fun r29 =>
 expr_write_l0b self_expr_write k r28.2 e.Kind e.N e.Name e.Kids e.At r29 (r29.length : Int) 0 else
 (expr_places e.Kind).bind fun r30 =>
 expr_write_l0b self_expr_write k b e.Kind e.N e.Name e.Kids e.At r30 (r30.length : Int) 0
noncomputable def expr_write_f : Nat → (List UInt8) → api_Expr → Int → Option (List UInt8)
 | 0, _, _, _ => none
 | k + 1, x0, x1, x2 => expr_write_b (expr_write_f k) k x0 x1 x2
noncomputable def expr_write  (b : List UInt8) (e : api_Expr) (asked : Int) : Option (List UInt8) := lim (fun k (x : List UInt8 × api_Expr × Int) => expr_write_f k x.1 x.2.1 x.2.2) (b, e, asked)
noncomputable abbrev expr_write_T (self_expr_write : (List UInt8) → api_Expr → Int → Option (List UInt8)) : Tab S := ⟨[⟨123, [.val (.data (.int .i64))], [.val (.data (.int .i64))], fun x => expr_level x⟩, ⟨81, [.bld, .val (.data (.int .u8))], [.err], fun x => bldByte x.1 x.2⟩, ⟨145, [.val (.data (.int .i64)), .val (.data (.int .i64))], [.val (.data .str)], fun x => p_FormatInt x.1 x.2⟩, ⟨78, [.bld, .val (.data .str)], [.val (.data (.int .i64)), .err], fun x => bldStr x.1 x.2⟩, ⟨124, [.val (.data (.int .i64))], [.val (.data (.sl (.int .i64)))], fun x => expr_places x⟩, ⟨143, [.val (.data (.int .i64))], [.val (.data .str), .val (.data (.int .i64))], fun x => expr_between x⟩, ⟨130, [.bld, .val (.data (.st 1)), .val (.data (.int .i64))], [], fun x => self_expr_write x.1 x.2.1 x.2.2⟩], [], false, false, some (81, [.tmp 0, .const (.int .u8 41)]), [⟨81, [.bld, .val (.data (.int .u8))], [.err], fun x => bldByte x.1 x.2⟩]⟩
noncomputable def expr_write_L (self_expr_write : (List UInt8) → api_Expr → Int → Option (List UInt8)) (k : Nat) : Nat → List (Lab S (List UInt8))
 | 0 => [⟨[0, 4, 55, 56, 57], [.bld, .obj [.data (.int .i64), .data (.int .i64), .data .str, .data (.sl (.st 1)), .data (.int .i64)], .val (.data (.sl (.int .i64))), .val (.data (.int .i64)), .val (.data (.int .i64))], fun x => expr_write_l0 self_expr_write k x.1 x.2.1.1 x.2.1.2.1 x.2.1.2.2.1 x.2.1.2.2.2.1 x.2.1.2.2.2.2 x.2.2.1 x.2.2.2.1 x.2.2.2.2, true⟩, ⟨[0, 4, 55, 56, 57], [.bld, .obj [.data (.int .i64), .data (.int .i64), .data .str, .data (.sl (.st 1)), .data (.int .i64)], .val (.data (.sl (.int .i64))), .val (.data (.int .i64)), .val (.data (.int .i64))], fun x => expr_write_l0b self_expr_write k x.1 x.2.1.1 x.2.1.2.1 x.2.1.2.2.1 x.2.1.2.2.2.1 x.2.1.2.2.2.2 x.2.2.1 x.2.2.2.1 x.2.2.2.2, false⟩]
 | _ + 1 => []
theorem expr_write_eq (self_expr_write : (List UInt8) → api_Expr → Int → Option (List UInt8)) (k : Nat) (b : List UInt8) (e : api_Expr) (asked : Int) : expr_write_b self_expr_write k b e asked = exec S (expr_write_T self_expr_write) byt (labs S (expr_write_T self_expr_write) (expr_write_L self_expr_write k)) (ac [] Tryz.f130) (frame0 S [.bld, .val (.data (.st 1)), .val (.data (.int .i64))] (b, e, asked)) (retK S (expr_write_T self_expr_write) Tryz.f130 [.bld, .val (.data (.st 1)), .val (.data (.int .i64))] []) := by kernel_rfl
theorem expr_write_vc (self_expr_write : (List UInt8) → api_Expr → Int → Option (List UInt8)) (k : Nat) : VC S (expr_write_T self_expr_write) byt (expr_write_L self_expr_write k) (expr_write_L self_expr_write (k + 1)) (ac [] Tryz.f130) (retK S (expr_write_T self_expr_write) Tryz.f130 [.bld, .val (.data (.st 1)), .val (.data (.int .i64))] []) = [∀ x : List UInt8 × (Int × Int × List UInt8 × List api_Expr × Int) × List Int × Int × Int, expr_write_l0 self_expr_write (k + 1) x.1 x.2.1.1 x.2.1.2.1 x.2.1.2.2.1 x.2.1.2.2.2.1 x.2.1.2.2.2.2 x.2.2.1 x.2.2.2.1 x.2.2.2.2 = expr_write_l0 self_expr_write (k + 1) x.1 x.2.1.1 x.2.1.2.1 x.2.1.2.2.1 x.2.1.2.2.2.1 x.2.1.2.2.2.2 x.2.2.1 x.2.2.2.1 x.2.2.2.2, ∀ x : List UInt8 × (Int × Int × List UInt8 × List api_Expr × Int) × List Int × Int × Int, expr_write_l0b self_expr_write (k + 1) x.1 x.2.1.1 x.2.1.2.1 x.2.1.2.2.1 x.2.1.2.2.2.1 x.2.1.2.2.2.2 x.2.2.1 x.2.2.2.1 x.2.2.2.2 = expr_write_l0b self_expr_write (k + 1) x.1 x.2.1.1 x.2.1.2.1 x.2.1.2.2.1 x.2.1.2.2.2.1 x.2.1.2.2.2.2 x.2.2.1 x.2.2.2.1 x.2.2.2.2] := by kernel_rfl
theorem expr_write_sndk (self_expr_write : (List UInt8) → api_Expr → Int → Option (List UInt8)) (hself : Snd Tryz.prog S ⟨130, [.bld, .val (.data (.st 1)), .val (.data (.int .i64))], [], fun x => self_expr_write x.1 x.2.1 x.2.2⟩) (k : Nat) : Snd Tryz.prog S ⟨130, [.bld, .val (.data (.st 1)), .val (.data (.int .i64))], [], fun x => expr_write_b self_expr_write k x.1 x.2.1 x.2.2⟩ :=
 fn_ok progOk (T := (expr_write_T self_expr_write)) (all_cons expr_level_snd (all_cons p_bldByte_snd81 (all_cons p_FormatInt_snd145 (all_cons p_bldStr_snd78 (all_cons expr_places_snd (all_cons expr_between_snd (all_cons hself (all_nil)))))))) (all_cons p_bldByte_sndD81 (all_nil)) (all_nil) mixed Tryz.func130 rfl (by kernel_rfl) (ac_code [] Tryz.f130 rfl) (L := expr_write_L self_expr_write)
  (fun n l h x => by match n, h with
   | 0, h =>
    rcases List.mem_cons.1 h with rfl | h
    · rfl
    rcases List.mem_cons.1 h with rfl | h
    · rfl
    cases h
   | _ + 1, h => cases h) (fun k n l h => by match n, h with
   | 0, h =>
    rcases List.mem_cons.1 h with rfl | h
    · rfl
    rcases List.mem_cons.1 h with rfl | h
    · rfl
    cases h
   | _ + 1, h => cases h)
  (fun k => All.mem (expr_write_vc self_expr_write k) ⟨fun _ => rfl, ⟨fun _ => rfl, trivial⟩⟩) (fun x r h => ⟨k, (expr_write_eq self_expr_write k x.1 x.2.1 x.2.2).symm.trans h⟩) (by kernel_rfl) (by kernel_rfl) (Nat.le_of_ble_eq_true (by kernel_rfl)) (by kernel_rfl)
theorem expr_write_sndf : ∀ k, Snd Tryz.prog S ⟨130, [.bld, .val (.data (.st 1)), .val (.data (.int .i64))], [], fun x => expr_write_f k x.1 x.2.1 x.2.2⟩
 | 0 => Snd.none ⟨_, Tryz.func130, by kernel_rfl, by kernel_rfl⟩ fun _ => rfl
 | k + 1 => expr_write_sndk (expr_write_f k) (expr_write_sndf k) k
theorem expr_write_snd : Snd Tryz.prog S ⟨130, [.bld, .val (.data (.st 1)), .val (.data (.int .i64))], [], fun x => expr_write x.1 x.2.1 x.2.2⟩ := Snd.lim (expr_write_sndf)
noncomputable def expr_Print  (e : api_Expr) : Option (List UInt8) := (expr_write [] (api_Expr.mk e.Kind e.N e.Name e.Kids e.At) 1).bind fun r1 =>
 (bldRead r1).bind fun r2 =>
 some r2.1
noncomputable abbrev expr_Print_T : Tab S := ⟨[⟨130, [.bld, .val (.data (.st 1)), .val (.data (.int .i64))], [], fun x => expr_write x.1 x.2.1 x.2.2⟩, ⟨42, [.bld], [.val (.data .str)], fun x => bldRead x⟩], [], false, false, none, []⟩
noncomputable def expr_Print_L (k : Nat) : Nat → List (Lab S (List UInt8))
 | _ => []
theorem expr_Print_eq (k : Nat) (e : api_Expr) : expr_Print e = exec S (expr_Print_T) byt (labs S (expr_Print_T) (expr_Print_L k)) (ac [] Tryz.f109) (frame0 S [.val (.data (.st 1))] e) (retK S (expr_Print_T) Tryz.f109 [.val (.data (.st 1))] [.val (.data .str)]) := by kernel_rfl
theorem expr_Print_vc (k : Nat) : VC S (expr_Print_T) byt (expr_Print_L k) (expr_Print_L (k + 1)) (ac [] Tryz.f109) (retK S (expr_Print_T) Tryz.f109 [.val (.data (.st 1))] [.val (.data .str)]) = [] := by kernel_rfl
theorem expr_Print_snd : Snd Tryz.prog S ⟨109, [.val (.data (.st 1))], [.val (.data .str)], fun x => expr_Print x⟩ :=
 fn_ok progOk (T := (expr_Print_T)) (all_cons expr_write_snd (all_cons p_bldRead_snd42 (all_nil))) (all_nil) (all_nil) mixed Tryz.func109 rfl (by kernel_rfl) (ac_code [] Tryz.f109 rfl) (L := expr_Print_L)
  (fun n l h x => by cases h) (fun k n l h => by cases h)
  (fun k => All.mem (expr_Print_vc k) trivial) (fun x r h => ⟨0, (expr_Print_eq 0 x).symm.trans h⟩) (by kernel_rfl) (by kernel_rfl) (Nat.le_of_ble_eq_true (by kernel_rfl)) (by kernel_rfl)
noncomputable def act_one_l0 (self_act_block : (List UInt8) → (List api_Act) → Int → Option (List UInt8)) : Nat → (List UInt8) → Int → Int → (List UInt8) → (List UInt8) → (List api_Expr) → Int → (List api_Act) → (List api_Act) → Int → (List UInt8) → (List api_Expr) → Int → Int → Option (List UInt8)
 | 0, _, _, _, _, _, _, _, _, _, _, _, _, _, _ => none
 | k + 1, b, v_in, a_Kind, a_Name, a_Event, a_X, a_N, a_Then, a_Else, a_At, x, x11, x12, x13 => if x13 < x12 then
  if 0 ≤ x13 then
  if x13 < (x11.length : Int) then
  (expr_Print (api_Expr.mk ((x11.getD x13.toNat api_Expr.z).Kind) ((x11.getD x13.toNat api_Expr.z).N) ((x11.getD x13.toNat api_Expr.z).Name) ((x11.getD x13.toNat api_Expr.z).Kids) ((x11.getD x13.toNat api_Expr.z).At))).bind fun r1 =>
  act_one_l0 self_act_block k b v_in a_Kind a_Name a_Event a_X a_N a_Then a_Else a_At r1 x11 x12 (w64 (x13 + 1)) else none else none else
  if 0 < (a_X.length : Int) then
  if s_lp.length + x.length ≤ 9223372036854775807 then
  if (s_lp ++ x).length + s_rp.length ≤ 9223372036854775807 then
  if a_Kind = 1 then
  if a_Name.length + s_sp_eq_sp.length ≤ 9223372036854775807 then
  if (a_Name ++ s_sp_eq_sp).length + x.length ≤ 9223372036854775807 then
  if ((a_Name ++ s_sp_eq_sp) ++ x).length + s_semi.length ≤ 9223372036854775807 then
  (bldStr b (((a_Name ++ s_sp_eq_sp) ++ x) ++ s_semi)).bind fun r2 =>
  some r2.2.2 else none else none else none else
  if a_Kind = 2 then
  if s_raise_x7823e.length + a_Event.length ≤ 9223372036854775807 then
  if (s_raise_x7823e ++ a_Event).length + ((s_lp ++ x) ++ s_rp).length ≤ 9223372036854775807 then
  if ((s_raise_x7823e ++ a_Event) ++ ((s_lp ++ x) ++ s_rp)).length + s_semi.length ≤ 9223372036854775807 then
  (bldStr b (((s_raise_x7823e ++ a_Event) ++ ((s_lp ++ x) ++ s_rp)) ++ s_semi)).bind fun r3 =>
  some r3.2.2 else none else none else none else
  if a_Kind = 3 then
  if s_send_xe0272.length + a_Name.length ≤ 9223372036854775807 then
  if (s_send_xe0272 ++ a_Name).length + s_sp.length ≤ 9223372036854775807 then
  if ((s_send_xe0272 ++ a_Name) ++ s_sp).length + a_Event.length ≤ 9223372036854775807 then
  if (((s_send_xe0272 ++ a_Name) ++ s_sp) ++ a_Event).length + ((s_lp ++ x) ++ s_rp).length ≤ 9223372036854775807 then
  if ((((s_send_xe0272 ++ a_Name) ++ s_sp) ++ a_Event) ++ ((s_lp ++ x) ++ s_rp)).length + s_semi.length ≤ 9223372036854775807 then
  (bldStr b (((((s_send_xe0272 ++ a_Name) ++ s_sp) ++ a_Event) ++ ((s_lp ++ x) ++ s_rp)) ++ s_semi)).bind fun r4 =>
  some r4.2.2 else none else none else none else none else none else
  if a_Kind = 4 then
  if s_arm_x6c666.length + a_Name.length ≤ 9223372036854775807 then
  if (s_arm_x6c666 ++ a_Name).length + ((s_lp ++ x) ++ s_rp).length ≤ 9223372036854775807 then
  if ((s_arm_x6c666 ++ a_Name) ++ ((s_lp ++ x) ++ s_rp)).length + s_semi.length ≤ 9223372036854775807 then
  (bldStr b (((s_arm_x6c666 ++ a_Name) ++ ((s_lp ++ x) ++ s_rp)) ++ s_semi)).bind fun r5 =>
  some r5.2.2 else none else none else none else
  if a_Kind = 5 then
  if s_cancel_x1c990.length + a_Name.length ≤ 9223372036854775807 then
  if (s_cancel_x1c990 ++ a_Name).length + s_semi.length ≤ 9223372036854775807 then
  (bldStr b ((s_cancel_x1c990 ++ a_Name) ++ s_semi)).bind fun r6 =>
  some r6.2.2 else none else none else
  if a_Kind = 6 then
  if s_if_xec554.length + ((s_lp ++ x) ++ s_rp).length ≤ 9223372036854775807 then
  if (s_if_xec554 ++ ((s_lp ++ x) ++ s_rp)).length + s_sp.length ≤ 9223372036854775807 then
  (bldStr b ((s_if_xec554 ++ ((s_lp ++ x) ++ s_rp)) ++ s_sp)).bind fun r7 =>
  (self_act_block r7.2.2 a_Then v_in).bind fun r8 =>
  if 0 < (a_Else.length : Int) then
  (bldStr r8 s_else_xf7d30).bind fun r9 =>
  (self_act_block r9.2.2 a_Else v_in).bind fun r10 =>
  some r10 else
  some r8 else none else none else
  if a_Kind = 7 then
  (p_Itoa a_N).bind fun r11 =>
  if s_loop_xf5f27.length + r11.length ≤ 9223372036854775807 then
  if (s_loop_xf5f27 ++ r11).length + s_sp.length ≤ 9223372036854775807 then
  (bldStr b ((s_loop_xf5f27 ++ r11) ++ s_sp)).bind fun r12 =>
  (self_act_block r12.2.2 a_Then v_in).bind fun r13 =>
  some r13 else none else none else
  some b else none else none else
  if a_Kind = 1 then
  if a_Name.length + s_sp_eq_sp.length ≤ 9223372036854775807 then
  if (a_Name ++ s_sp_eq_sp).length + x.length ≤ 9223372036854775807 then
  if ((a_Name ++ s_sp_eq_sp) ++ x).length + s_semi.length ≤ 9223372036854775807 then
  (bldStr b (((a_Name ++ s_sp_eq_sp) ++ x) ++ s_semi)).bind fun r14 =>
  some r14.2.2 else none else none else none else
  if a_Kind = 2 then
  if s_raise_x7823e.length + a_Event.length ≤ 9223372036854775807 then
  if (s_raise_x7823e ++ a_Event).length + ([] : List UInt8).length ≤ 9223372036854775807 then
  if ((s_raise_x7823e ++ a_Event) ++ []).length + s_semi.length ≤ 9223372036854775807 then
  (bldStr b (((s_raise_x7823e ++ a_Event) ++ []) ++ s_semi)).bind fun r15 =>
  some r15.2.2 else none else none else none else
  if a_Kind = 3 then
  if s_send_xe0272.length + a_Name.length ≤ 9223372036854775807 then
  if (s_send_xe0272 ++ a_Name).length + s_sp.length ≤ 9223372036854775807 then
  if ((s_send_xe0272 ++ a_Name) ++ s_sp).length + a_Event.length ≤ 9223372036854775807 then
  if (((s_send_xe0272 ++ a_Name) ++ s_sp) ++ a_Event).length + ([] : List UInt8).length ≤ 9223372036854775807 then
  if ((((s_send_xe0272 ++ a_Name) ++ s_sp) ++ a_Event) ++ []).length + s_semi.length ≤ 9223372036854775807 then
  (bldStr b (((((s_send_xe0272 ++ a_Name) ++ s_sp) ++ a_Event) ++ []) ++ s_semi)).bind fun r16 =>
  some r16.2.2 else none else none else none else none else none else
  if a_Kind = 4 then
  if s_arm_x6c666.length + a_Name.length ≤ 9223372036854775807 then
  if (s_arm_x6c666 ++ a_Name).length + ([] : List UInt8).length ≤ 9223372036854775807 then
  if ((s_arm_x6c666 ++ a_Name) ++ []).length + s_semi.length ≤ 9223372036854775807 then
  (bldStr b (((s_arm_x6c666 ++ a_Name) ++ []) ++ s_semi)).bind fun r17 =>
  some r17.2.2 else none else none else none else
  if a_Kind = 5 then
  if s_cancel_x1c990.length + a_Name.length ≤ 9223372036854775807 then
  if (s_cancel_x1c990 ++ a_Name).length + s_semi.length ≤ 9223372036854775807 then
  (bldStr b ((s_cancel_x1c990 ++ a_Name) ++ s_semi)).bind fun r18 =>
  some r18.2.2 else none else none else
  if a_Kind = 6 then
  if s_if_xec554.length + ([] : List UInt8).length ≤ 9223372036854775807 then
  if (s_if_xec554 ++ []).length + s_sp.length ≤ 9223372036854775807 then
  (bldStr b ((s_if_xec554 ++ []) ++ s_sp)).bind fun r19 =>
  (self_act_block r19.2.2 a_Then v_in).bind fun r20 =>
  if 0 < (a_Else.length : Int) then
  (bldStr r20 s_else_xf7d30).bind fun r21 =>
  (self_act_block r21.2.2 a_Else v_in).bind fun r22 =>
  some r22 else
  some r20 else none else none else
  if a_Kind = 7 then
  (p_Itoa a_N).bind fun r23 =>
  if s_loop_xf5f27.length + r23.length ≤ 9223372036854775807 then
  if (s_loop_xf5f27 ++ r23).length + s_sp.length ≤ 9223372036854775807 then
  (bldStr b ((s_loop_xf5f27 ++ r23) ++ s_sp)).bind fun r24 =>
  (self_act_block r24.2.2 a_Then v_in).bind fun r25 =>
  some r25 else none else none else
  some b
noncomputable def act_one_f (self_act_block : (List UInt8) → (List api_Act) → Int → Option (List UInt8)) (k : Nat) (b : List UInt8) (a : api_Act) (v_in : Int) : Option (List UInt8) := act_one_l0 self_act_block k b v_in a.Kind a.Name a.Event a.X a.N a.Then a.Else a.At [] a.X (a.X.length : Int) 0
noncomputable def act_one (self_act_block : (List UInt8) → (List api_Act) → Int → Option (List UInt8))  (b : List UInt8) (a : api_Act) (v_in : Int) : Option (List UInt8) := lim (fun k (x : List UInt8 × api_Act × Int) => act_one_f self_act_block k x.1 x.2.1 x.2.2) (b, a, v_in)
noncomputable abbrev act_one_T (self_act_block : (List UInt8) → (List api_Act) → Int → Option (List UInt8)) : Tab S := ⟨[⟨109, [.val (.data (.st 1))], [.val (.data .str)], fun x => expr_Print x⟩, ⟨78, [.bld, .val (.data .str)], [.val (.data (.int .i64)), .err], fun x => bldStr x.1 x.2⟩, ⟨41, [.bld, .val (.data (.sl (.st 0))), .val (.data (.int .i64))], [], fun x => self_act_block x.1 x.2.1 x.2.2⟩, ⟨110, [.val (.data (.int .i64))], [.val (.data .str)], fun x => p_Itoa x⟩], [], false, false, none, []⟩
noncomputable def act_one_L (self_act_block : (List UInt8) → (List api_Act) → Int → Option (List UInt8)) (k : Nat) : Nat → List (Lab S (List UInt8))
 | 0 => [⟨[0, 2, 4, 6, 11, 12, 13], [.bld, .val (.data (.int .i64)), .obj [.data (.int .i64), .data .str, .data .str, .data (.sl (.st 1)), .data (.int .i64), .data (.sl (.st 0)), .data (.sl (.st 0)), .data (.int .i64)], .val (.data .str), .val (.data (.sl (.st 1))), .val (.data (.int .i64)), .val (.data (.int .i64))], fun x => act_one_l0 self_act_block k x.1 x.2.1 x.2.2.1.1 x.2.2.1.2.1 x.2.2.1.2.2.1 x.2.2.1.2.2.2.1 x.2.2.1.2.2.2.2.1 x.2.2.1.2.2.2.2.2.1 x.2.2.1.2.2.2.2.2.2.1 x.2.2.1.2.2.2.2.2.2.2 x.2.2.2.1 x.2.2.2.2.1 x.2.2.2.2.2.1 x.2.2.2.2.2.2, false⟩]
 | _ + 1 => []
theorem act_one_eq (self_act_block : (List UInt8) → (List api_Act) → Int → Option (List UInt8)) (k : Nat) (b : List UInt8) (a : api_Act) (v_in : Int) : act_one_f self_act_block k b a v_in = exec S (act_one_T self_act_block) byt (labs S (act_one_T self_act_block) (act_one_L self_act_block k)) (ac [] Tryz.f80) (frame0 S [.bld, .val (.data (.st 0)), .val (.data (.int .i64))] (b, a, v_in)) (retK S (act_one_T self_act_block) Tryz.f80 [.bld, .val (.data (.st 0)), .val (.data (.int .i64))] []) := by kernel_rfl
theorem act_one_vc (self_act_block : (List UInt8) → (List api_Act) → Int → Option (List UInt8)) (k : Nat) : VC S (act_one_T self_act_block) byt (act_one_L self_act_block k) (act_one_L self_act_block (k + 1)) (ac [] Tryz.f80) (retK S (act_one_T self_act_block) Tryz.f80 [.bld, .val (.data (.st 0)), .val (.data (.int .i64))] []) = [∀ x : List UInt8 × Int × (Int × List UInt8 × List UInt8 × List api_Expr × Int × List api_Act × List api_Act × Int) × List UInt8 × List api_Expr × Int × Int, act_one_l0 self_act_block (k + 1) x.1 x.2.1 x.2.2.1.1 x.2.2.1.2.1 x.2.2.1.2.2.1 x.2.2.1.2.2.2.1 x.2.2.1.2.2.2.2.1 x.2.2.1.2.2.2.2.2.1 x.2.2.1.2.2.2.2.2.2.1 x.2.2.1.2.2.2.2.2.2.2 x.2.2.2.1 x.2.2.2.2.1 x.2.2.2.2.2.1 x.2.2.2.2.2.2 = act_one_l0 self_act_block (k + 1) x.1 x.2.1 x.2.2.1.1 x.2.2.1.2.1 x.2.2.1.2.2.1 x.2.2.1.2.2.2.1 x.2.2.1.2.2.2.2.1 x.2.2.1.2.2.2.2.2.1 x.2.2.1.2.2.2.2.2.2.1 x.2.2.1.2.2.2.2.2.2.2 x.2.2.2.1 x.2.2.2.2.1 x.2.2.2.2.2.1 x.2.2.2.2.2.2] := by kernel_rfl
theorem act_one_sndk (self_act_block : (List UInt8) → (List api_Act) → Int → Option (List UInt8)) (hself_act_block : Snd Tryz.prog S ⟨41, [.bld, .val (.data (.sl (.st 0))), .val (.data (.int .i64))], [], fun x => self_act_block x.1 x.2.1 x.2.2⟩) (k : Nat) : Snd Tryz.prog S ⟨80, [.bld, .val (.data (.st 0)), .val (.data (.int .i64))], [], fun x => act_one_f self_act_block k x.1 x.2.1 x.2.2⟩ :=
 fn_ok progOk (T := (act_one_T self_act_block)) (all_cons expr_Print_snd (all_cons p_bldStr_snd78 (all_cons hself_act_block (all_cons p_Itoa_snd110 (all_nil))))) (all_nil) (all_nil) mixed Tryz.func80 rfl (by kernel_rfl) (ac_code [] Tryz.f80 rfl) (L := act_one_L self_act_block)
  (fun n l h x => by match n, h with
   | 0, h =>
    rcases List.mem_cons.1 h with rfl | h
    · rfl
    cases h
   | _ + 1, h => cases h) (fun k n l h => by match n, h with
   | 0, h =>
    rcases List.mem_cons.1 h with rfl | h
    · rfl
    cases h
   | _ + 1, h => cases h)
  (fun k => All.mem (act_one_vc self_act_block k) ⟨fun _ => rfl, trivial⟩) (fun x r h => ⟨k, (act_one_eq self_act_block k x.1 x.2.1 x.2.2).symm.trans h⟩) (by kernel_rfl) (by kernel_rfl) (Nat.le_of_ble_eq_true (by kernel_rfl)) (by kernel_rfl)
theorem act_one_snd (self_act_block : (List UInt8) → (List api_Act) → Int → Option (List UInt8)) (hself_act_block : Snd Tryz.prog S ⟨41, [.bld, .val (.data (.sl (.st 0))), .val (.data (.int .i64))], [], fun x => self_act_block x.1 x.2.1 x.2.2⟩) : Snd Tryz.prog S ⟨80, [.bld, .val (.data (.st 0)), .val (.data (.int .i64))], [], fun x => act_one self_act_block x.1 x.2.1 x.2.2⟩ := Snd.lim (act_one_sndk self_act_block hself_act_block)
noncomputable def act_block_l0 (self_act_block : (List UInt8) → (List api_Act) → Int → Option (List UInt8)) : Nat → (List UInt8) → Int → (List api_Act) → Int → Int → Option (List UInt8)
 | 0, _, _, _, _, _ => none
 | k + 1, b, v_in, x15, x16, x17 => if x17 < x16 then
  if 0 ≤ x17 then
  if x17 < (x15.length : Int) then
  (p_Repeat s_sp_sp (w64 (v_in + 1))).bind fun r3 =>
  (bldStr b r3).bind fun r4 =>
  (act_one self_act_block r4.2.2 (api_Act.mk ((x15.getD x17.toNat api_Act.z).Kind) ((x15.getD x17.toNat api_Act.z).Name) ((x15.getD x17.toNat api_Act.z).Event) ((x15.getD x17.toNat api_Act.z).X) ((x15.getD x17.toNat api_Act.z).N) ((x15.getD x17.toNat api_Act.z).Then) ((x15.getD x17.toNat api_Act.z).Else) ((x15.getD x17.toNat api_Act.z).At)) (w64 (v_in + 1))).bind fun r5 =>
  (bldByte r5 10).bind fun r6 =>
  act_block_l0 self_act_block k r6.2 v_in x15 x16 (w64 (x17 + 1)) else none else none else
  (p_Repeat s_sp_sp v_in).bind fun r7 =>
  if r7.length + s_rb.length ≤ 9223372036854775807 then
  (bldStr b (r7 ++ s_rb)).bind fun r8 =>
  some r8.2.2 else none
noncomputable def act_block_b (self_act_block : (List UInt8) → (List api_Act) → Int → Option (List UInt8)) (k : Nat) (b : List UInt8) (l : List api_Act) (v_in : Int) : Option (List UInt8) := if (l.length : Int) = 0 then
 (bldStr b s_lb_rb).bind fun r1 =>
 some r1.2.2 else
 (bldStr b s_lb_nl).bind fun r2 =>
 act_block_l0 self_act_block k r2.2.2 v_in l (l.length : Int) 0
noncomputable def act_block_f : Nat → (List UInt8) → (List api_Act) → Int → Option (List UInt8)
 | 0, _, _, _ => none
 | k + 1, x0, x1, x2 => act_block_b (act_block_f k) k x0 x1 x2
noncomputable def act_block  (b : List UInt8) (l : List api_Act) (v_in : Int) : Option (List UInt8) := lim (fun k (x : List UInt8 × List api_Act × Int) => act_block_f k x.1 x.2.1 x.2.2) (b, l, v_in)
noncomputable abbrev act_block_T (self_act_block : (List UInt8) → (List api_Act) → Int → Option (List UInt8)) : Tab S := ⟨[⟨78, [.bld, .val (.data .str)], [.val (.data (.int .i64)), .err], fun x => bldStr x.1 x.2⟩, ⟨79, [.val (.data .str), .val (.data (.int .i64))], [.val (.data .str)], fun x => p_Repeat x.1 x.2⟩, ⟨80, [.bld, .val (.data (.st 0)), .val (.data (.int .i64))], [], fun x => act_one self_act_block x.1 x.2.1 x.2.2⟩, ⟨81, [.bld, .val (.data (.int .u8))], [.err], fun x => bldByte x.1 x.2⟩], [], false, false, none, []⟩
noncomputable def act_block_L (self_act_block : (List UInt8) → (List api_Act) → Int → Option (List UInt8)) (k : Nat) : Nat → List (Lab S (List UInt8))
 | 0 => [⟨[0, 2, 15, 16, 17], [.bld, .val (.data (.int .i64)), .val (.data (.sl (.st 0))), .val (.data (.int .i64)), .val (.data (.int .i64))], fun x => act_block_l0 self_act_block k x.1 x.2.1 x.2.2.1 x.2.2.2.1 x.2.2.2.2, false⟩]
 | _ + 1 => []
theorem act_block_eq (self_act_block : (List UInt8) → (List api_Act) → Int → Option (List UInt8)) (k : Nat) (b : List UInt8) (l : List api_Act) (v_in : Int) : act_block_b self_act_block k b l v_in = exec S (act_block_T self_act_block) byt (labs S (act_block_T self_act_block) (act_block_L self_act_block k)) (ac [] Tryz.f41) (frame0 S [.bld, .val (.data (.sl (.st 0))), .val (.data (.int .i64))] (b, l, v_in)) (retK S (act_block_T self_act_block) Tryz.f41 [.bld, .val (.data (.sl (.st 0))), .val (.data (.int .i64))] []) := by kernel_rfl
theorem act_block_vc (self_act_block : (List UInt8) → (List api_Act) → Int → Option (List UInt8)) (k : Nat) : VC S (act_block_T self_act_block) byt (act_block_L self_act_block k) (act_block_L self_act_block (k + 1)) (ac [] Tryz.f41) (retK S (act_block_T self_act_block) Tryz.f41 [.bld, .val (.data (.sl (.st 0))), .val (.data (.int .i64))] []) = [∀ x : List UInt8 × Int × List api_Act × Int × Int, act_block_l0 self_act_block (k + 1) x.1 x.2.1 x.2.2.1 x.2.2.2.1 x.2.2.2.2 = act_block_l0 self_act_block (k + 1) x.1 x.2.1 x.2.2.1 x.2.2.2.1 x.2.2.2.2] := by kernel_rfl
theorem act_block_sndk (self_act_block : (List UInt8) → (List api_Act) → Int → Option (List UInt8)) (hself : Snd Tryz.prog S ⟨41, [.bld, .val (.data (.sl (.st 0))), .val (.data (.int .i64))], [], fun x => self_act_block x.1 x.2.1 x.2.2⟩) (k : Nat) : Snd Tryz.prog S ⟨41, [.bld, .val (.data (.sl (.st 0))), .val (.data (.int .i64))], [], fun x => act_block_b self_act_block k x.1 x.2.1 x.2.2⟩ :=
 fn_ok progOk (T := (act_block_T self_act_block)) (all_cons p_bldStr_snd78 (all_cons p_Repeat_snd79 (all_cons (act_one_snd self_act_block hself) (all_cons p_bldByte_snd81 (all_nil))))) (all_nil) (all_nil) mixed Tryz.func41 rfl (by kernel_rfl) (ac_code [] Tryz.f41 rfl) (L := act_block_L self_act_block)
  (fun n l h x => by match n, h with
   | 0, h =>
    rcases List.mem_cons.1 h with rfl | h
    · rfl
    cases h
   | _ + 1, h => cases h) (fun k n l h => by match n, h with
   | 0, h =>
    rcases List.mem_cons.1 h with rfl | h
    · rfl
    cases h
   | _ + 1, h => cases h)
  (fun k => All.mem (act_block_vc self_act_block k) ⟨fun _ => rfl, trivial⟩) (fun x r h => ⟨k, (act_block_eq self_act_block k x.1 x.2.1 x.2.2).symm.trans h⟩) (by kernel_rfl) (by kernel_rfl) (Nat.le_of_ble_eq_true (by kernel_rfl)) (by kernel_rfl)
theorem act_block_sndf : ∀ k, Snd Tryz.prog S ⟨41, [.bld, .val (.data (.sl (.st 0))), .val (.data (.int .i64))], [], fun x => act_block_f k x.1 x.2.1 x.2.2⟩
 | 0 => Snd.none ⟨_, Tryz.func41, by kernel_rfl, by kernel_rfl⟩ fun _ => rfl
 | k + 1 => act_block_sndk (act_block_f k) (act_block_sndf k) k
theorem act_block_snd : Snd Tryz.prog S ⟨41, [.bld, .val (.data (.sl (.st 0))), .val (.data (.int .i64))], [], fun x => act_block x.1 x.2.1 x.2.2⟩ := Snd.lim (act_block_sndf)
noncomputable def act_Print  (l : List api_Act) (v_in : Int) : Option (List UInt8) := (act_block [] l (max v_in 0)).bind fun r1 => (bldRead r1).bind fun r2 => some r2.1
noncomputable abbrev act_Print_T : Tab S := ⟨[⟨41, [.bld, .val (.data (.sl (.st 0))), .val (.data (.int .i64))], [], fun x => act_block x.1 x.2.1 x.2.2⟩, ⟨42, [.bld], [.val (.data .str)], fun x => bldRead x⟩], [], false, false, none, []⟩
noncomputable def act_Print_L (k : Nat) : Nat → List (Lab S (List UInt8))
 | _ => []
theorem act_Print_eq (k : Nat) (l : List api_Act) (v_in : Int) : act_Print l v_in = exec S (act_Print_T) byt (labs S (act_Print_T) (act_Print_L k)) (ac [] Tryz.f20) (frame0 S [.val (.data (.sl (.st 0))), .val (.data (.int .i64))] (l, v_in)) (retK S (act_Print_T) Tryz.f20 [.val (.data (.sl (.st 0))), .val (.data (.int .i64))] [.val (.data .str)]) := by kernel_rfl
theorem act_Print_vc (k : Nat) : VC S (act_Print_T) byt (act_Print_L k) (act_Print_L (k + 1)) (ac [] Tryz.f20) (retK S (act_Print_T) Tryz.f20 [.val (.data (.sl (.st 0))), .val (.data (.int .i64))] [.val (.data .str)]) = [] := by kernel_rfl
theorem act_Print_snd : Snd Tryz.prog S ⟨20, [.val (.data (.sl (.st 0))), .val (.data (.int .i64))], [.val (.data .str)], fun x => act_Print x.1 x.2⟩ :=
 fn_ok progOk (T := (act_Print_T)) (all_cons act_block_snd (all_cons p_bldRead_snd42 (all_nil))) (all_nil) (all_nil) mixed Tryz.func20 rfl (by kernel_rfl) (ac_code [] Tryz.f20 rfl) (L := act_Print_L)
  (fun n l h x => by cases h) (fun k n l h => by cases h)
  (fun k => All.mem (act_Print_vc k) trivial) (fun x r h => ⟨0, (act_Print_eq 0 x.1 x.2).symm.trans h⟩) (by kernel_rfl) (by kernel_rfl) (Nat.le_of_ble_eq_true (by kernel_rfl)) (by kernel_rfl)
noncomputable def lex_Name  (s : List UInt8) : Option Bool := if s = [] then
 some false else
 if 24 < (s.length : Int) then
 some false else
 (lex_Reserved s).bind fun r1 =>
 bif r1 then
 some false else
 if (0 : Int) ≤ 0 then
 if 0 < (s.length : Int) then
 (lex_kind ((s.getD (0 : Int).toNat 0).toNat : Int)).bind fun r2 =>
 bif !r2.2 then
 (lex_end s 0).bind fun r3 =>
 some (decide (r3 = (s.length : Int))) else
 some false else none else none
noncomputable abbrev lex_Name_T : Tab S := ⟨[⟨113, [.val (.data .str)], [.val (.data .bool)], fun x => lex_Reserved x⟩, ⟨70, [.val (.data (.int .u8))], [.val (.data .bool), .val (.data .bool)], fun x => lex_kind x⟩, ⟨71, [.val (.data .str), .val (.data (.int .i64))], [.val (.data (.int .i64))], fun x => lex_end x.1 x.2⟩], [], false, false, none, []⟩
noncomputable def lex_Name_L (k : Nat) : Nat → List (Lab S Bool)
 | _ => []
theorem lex_Name_eq (k : Nat) (s : List UInt8) : lex_Name s = exec S (lex_Name_T) byt (labs S (lex_Name_T) (lex_Name_L k)) (ac [] Tryz.f101) (frame0 S [.val (.data .str)] s) (retK S (lex_Name_T) Tryz.f101 [.val (.data .str)] [.val (.data .bool)]) := by kernel_rfl
theorem lex_Name_vc (k : Nat) : VC S (lex_Name_T) byt (lex_Name_L k) (lex_Name_L (k + 1)) (ac [] Tryz.f101) (retK S (lex_Name_T) Tryz.f101 [.val (.data .str)] [.val (.data .bool)]) = [] := by kernel_rfl
theorem lex_Name_snd : Snd Tryz.prog S ⟨101, [.val (.data .str)], [.val (.data .bool)], fun x => lex_Name x⟩ :=
 fn_ok progOk (T := (lex_Name_T)) (all_cons lex_Reserved_snd (all_cons lex_kind_snd (all_cons lex_end_snd (all_nil)))) (all_nil) (all_nil) mixed Tryz.func101 rfl (by kernel_rfl) (ac_code [] Tryz.f101 rfl) (L := lex_Name_L)
  (fun n l h x => by cases h) (fun k n l h => by cases h)
  (fun k => All.mem (lex_Name_vc k) trivial) (fun x r h => ⟨0, (lex_Name_eq 0 x).symm.trans h⟩) (by kernel_rfl) (by kernel_rfl) (Nat.le_of_ble_eq_true (by kernel_rfl)) (by kernel_rfl)
noncomputable def act_shape_c2 : Nat → Int → (List UInt8) → (List UInt8) → (List api_Expr) → Int → (List api_Act) → (List api_Act) → Int → Int → Option Bool
 | 0, _, _, _, _, _, _, _, _, _ => none
 | k + 1, a_Kind, a_Name, a_Event, a_X, a_N, a_Then, a_Else, a_At, blocks => if 0 < blocks then
  if 1 < blocks then
  some true else
  some (decide ((a_Else.length : Int) = 0)) else
  if (a_Then.length : Int) = 0 then
  if 1 < blocks then
  some true else
  some (decide ((a_Else.length : Int) = 0)) else
  some false
noncomputable def act_shape_c1 : Nat → Int → (List UInt8) → (List UInt8) → (List api_Expr) → Int → (List api_Act) → (List api_Act) → Int → Int → Int → Int → Option Bool
 | 0, _, _, _, _, _, _, _, _, _, _, _ => none
 | k + 1, a_Kind, a_Name, a_Event, a_X, a_N, a_Then, a_Else, a_At, least, most, blocks => if (a_X.length : Int) < least then
  some false else
  if most < (a_X.length : Int) then
  some false else
  if a_N ≠ 0 then
  if a_Kind ≠ 7 then
  some false else
  if a_N < 0 then
  some false else
  act_shape_c2 k a_Kind a_Name a_Event a_X a_N a_Then a_Else a_At blocks else
  act_shape_c2 k a_Kind a_Name a_Event a_X a_N a_Then a_Else a_At blocks
noncomputable def act_shape_c0 : Nat → Int → (List UInt8) → (List UInt8) → (List api_Expr) → Int → (List api_Act) → (List api_Act) → Int → Int → Int → Bool → Bool → Int → Option Bool
 | 0, _, _, _, _, _, _, _, _, _, _, _, _, _ => none
 | k + 1, a_Kind, a_Name, a_Event, a_X, a_N, a_Then, a_Else, a_At, least, most, name, event, blocks => if name ≠ (decide (a_Name ≠ [])) then
  some false else
  bif name then
  (lex_Name a_Name).bind fun r1 =>
  bif !r1 then
  some false else
  if event ≠ (decide (a_Event ≠ [])) then
  some false else
  bif event then
  (lex_Name a_Event).bind fun r2 =>
  bif !r2 then
  some false else
  act_shape_c1 k a_Kind a_Name a_Event a_X a_N a_Then a_Else a_At least most blocks else
  act_shape_c1 k a_Kind a_Name a_Event a_X a_N a_Then a_Else a_At least most blocks else
  if event ≠ (decide (a_Event ≠ [])) then
  some false else
  bif event then
  (lex_Name a_Event).bind fun r3 =>
  bif !r3 then
  some false else
  act_shape_c1 k a_Kind a_Name a_Event a_X a_N a_Then a_Else a_At least most blocks else
  act_shape_c1 k a_Kind a_Name a_Event a_X a_N a_Then a_Else a_At least most blocks
noncomputable def act_shape_f (k : Nat) (a : api_Act) : Option Bool := if a.Kind = 1 then
 if a.Kind = 1 then
 act_shape_c0 k a.Kind a.Name a.Event a.X a.N a.Then a.Else a.At 1 1 true false 0 else
 if a.Kind = 2 then
 act_shape_c0 k a.Kind a.Name a.Event a.X a.N a.Then a.Else a.At 0 1 false true 0 else
 if a.Kind = 3 then
 act_shape_c0 k a.Kind a.Name a.Event a.X a.N a.Then a.Else a.At 0 1 true true 0 else
 if a.Kind = 5 then
 act_shape_c0 k a.Kind a.Name a.Event a.X a.N a.Then a.Else a.At 0 0 true false 0 else
 if a.Kind = 6 then
 act_shape_c0 k a.Kind a.Name a.Event a.X a.N a.Then a.Else a.At 1 1 false false 2 else
 if a.Kind = 7 then
 act_shape_c0 k a.Kind a.Name a.Event a.X a.N a.Then a.Else a.At 0 0 false false 1 else
 some false else
 if a.Kind = 4 then
 act_shape_c0 k a.Kind a.Name a.Event a.X a.N a.Then a.Else a.At 1 1 true false 0 else
 if a.Kind = 2 then
 act_shape_c0 k a.Kind a.Name a.Event a.X a.N a.Then a.Else a.At 0 1 false true 0 else
 if a.Kind = 3 then
 act_shape_c0 k a.Kind a.Name a.Event a.X a.N a.Then a.Else a.At 0 1 true true 0 else
 if a.Kind = 5 then
 act_shape_c0 k a.Kind a.Name a.Event a.X a.N a.Then a.Else a.At 0 0 true false 0 else
 if a.Kind = 6 then
 act_shape_c0 k a.Kind a.Name a.Event a.X a.N a.Then a.Else a.At 1 1 false false 2 else
 if a.Kind = 7 then
 act_shape_c0 k a.Kind a.Name a.Event a.X a.N a.Then a.Else a.At 0 0 false false 1 else
 some false
noncomputable def act_shape  (a : api_Act) : Option Bool := lim (fun k (x : api_Act) => act_shape_f k x) a
noncomputable abbrev act_shape_T : Tab S := ⟨[⟨101, [.val (.data .str)], [.val (.data .bool)], fun x => lex_Name x⟩], [], false, false, none, []⟩
noncomputable def act_shape_L (k : Nat) : Nat → List (Lab S Bool)
 | 0 => []
 | 1 => [⟨[1, 3, 4, 5, 6, 7], [.obj [.data (.int .i64), .data .str, .data .str, .data (.sl (.st 1)), .data (.int .i64), .data (.sl (.st 0)), .data (.sl (.st 0)), .data (.int .i64)], .val (.data (.int .i64)), .val (.data (.int .i64)), .val (.data .bool), .val (.data .bool), .val (.data (.int .i64))], fun x => act_shape_c0 k x.1.1 x.1.2.1 x.1.2.2.1 x.1.2.2.2.1 x.1.2.2.2.2.1 x.1.2.2.2.2.2.1 x.1.2.2.2.2.2.2.1 x.1.2.2.2.2.2.2.2 x.2.1 x.2.2.1 x.2.2.2.1 x.2.2.2.2.1 x.2.2.2.2.2, false⟩]
 | 2 => []
 | 3 => [⟨[1, 3, 4, 7], [.obj [.data (.int .i64), .data .str, .data .str, .data (.sl (.st 1)), .data (.int .i64), .data (.sl (.st 0)), .data (.sl (.st 0)), .data (.int .i64)], .val (.data (.int .i64)), .val (.data (.int .i64)), .val (.data (.int .i64))], fun x => act_shape_c1 k x.1.1 x.1.2.1 x.1.2.2.1 x.1.2.2.2.1 x.1.2.2.2.2.1 x.1.2.2.2.2.2.1 x.1.2.2.2.2.2.2.1 x.1.2.2.2.2.2.2.2 x.2.1 x.2.2.1 x.2.2.2, false⟩]
 | 4 => []
 | 5 => [⟨[1, 7], [.obj [.data (.int .i64), .data .str, .data .str, .data (.sl (.st 1)), .data (.int .i64), .data (.sl (.st 0)), .data (.sl (.st 0)), .data (.int .i64)], .val (.data (.int .i64))], fun x => act_shape_c2 k x.1.1 x.1.2.1 x.1.2.2.1 x.1.2.2.2.1 x.1.2.2.2.2.1 x.1.2.2.2.2.2.1 x.1.2.2.2.2.2.2.1 x.1.2.2.2.2.2.2.2 x.2, false⟩]
 | _ + 6 => []
theorem act_shape_eq (k : Nat) (a : api_Act) : act_shape_f k a = exec S (act_shape_T) byt (labs S (act_shape_T) (act_shape_L k)) (ac [3, 13, 16] Tryz.f74) (frame0 S [.val (.data (.st 0))] a) (retK S (act_shape_T) Tryz.f74 [.val (.data (.st 0))] [.val (.data .bool)]) := by kernel_rfl
theorem act_shape_vc (k : Nat) : VC S (act_shape_T) byt (act_shape_L k) (act_shape_L (k + 1)) (ac [3, 13, 16] Tryz.f74) (retK S (act_shape_T) Tryz.f74 [.val (.data (.st 0))] [.val (.data .bool)]) = [∀ x : (Int × List UInt8 × List UInt8 × List api_Expr × Int × List api_Act × List api_Act × Int) × Int, act_shape_c2 (k + 1) x.1.1 x.1.2.1 x.1.2.2.1 x.1.2.2.2.1 x.1.2.2.2.2.1 x.1.2.2.2.2.2.1 x.1.2.2.2.2.2.2.1 x.1.2.2.2.2.2.2.2 x.2 = act_shape_c2 (k + 1) x.1.1 x.1.2.1 x.1.2.2.1 x.1.2.2.2.1 x.1.2.2.2.2.1 x.1.2.2.2.2.2.1 x.1.2.2.2.2.2.2.1 x.1.2.2.2.2.2.2.2 x.2, ∀ x : (Int × List UInt8 × List UInt8 × List api_Expr × Int × List api_Act × List api_Act × Int) × Int × Int × Int, act_shape_c1 (k + 1) x.1.1 x.1.2.1 x.1.2.2.1 x.1.2.2.2.1 x.1.2.2.2.2.1 x.1.2.2.2.2.2.1 x.1.2.2.2.2.2.2.1 x.1.2.2.2.2.2.2.2 x.2.1 x.2.2.1 x.2.2.2 = act_shape_c1 (k + 1) x.1.1 x.1.2.1 x.1.2.2.1 x.1.2.2.2.1 x.1.2.2.2.2.1 x.1.2.2.2.2.2.1 x.1.2.2.2.2.2.2.1 x.1.2.2.2.2.2.2.2 x.2.1 x.2.2.1 x.2.2.2, ∀ x : (Int × List UInt8 × List UInt8 × List api_Expr × Int × List api_Act × List api_Act × Int) × Int × Int × Bool × Bool × Int, act_shape_c0 (k + 1) x.1.1 x.1.2.1 x.1.2.2.1 x.1.2.2.2.1 x.1.2.2.2.2.1 x.1.2.2.2.2.2.1 x.1.2.2.2.2.2.2.1 x.1.2.2.2.2.2.2.2 x.2.1 x.2.2.1 x.2.2.2.1 x.2.2.2.2.1 x.2.2.2.2.2 = act_shape_c0 (k + 1) x.1.1 x.1.2.1 x.1.2.2.1 x.1.2.2.2.1 x.1.2.2.2.2.1 x.1.2.2.2.2.2.1 x.1.2.2.2.2.2.2.1 x.1.2.2.2.2.2.2.2 x.2.1 x.2.2.1 x.2.2.2.1 x.2.2.2.2.1 x.2.2.2.2.2] := by kernel_rfl
theorem act_shape_sndk (k : Nat) : Snd Tryz.prog S ⟨74, [.val (.data (.st 0))], [.val (.data .bool)], fun x => act_shape_f k x⟩ :=
 fn_ok progOk (T := (act_shape_T)) (all_cons lex_Name_snd (all_nil)) (all_nil) (all_nil) mixed Tryz.func74 rfl (by kernel_rfl) (ac_code [3, 13, 16] Tryz.f74 rfl) (L := act_shape_L)
  (fun n l h x => by match n, h with
   | 0, h => cases h
   | 1, h =>
    rcases List.mem_cons.1 h with rfl | h
    · rfl
    cases h
   | 2, h => cases h
   | 3, h =>
    rcases List.mem_cons.1 h with rfl | h
    · rfl
    cases h
   | 4, h => cases h
   | 5, h =>
    rcases List.mem_cons.1 h with rfl | h
    · rfl
    cases h
   | _ + 6, h => cases h) (fun k n l h => by match n, h with
   | 0, h => cases h
   | 1, h =>
    rcases List.mem_cons.1 h with rfl | h
    · rfl
    cases h
   | 2, h => cases h
   | 3, h =>
    rcases List.mem_cons.1 h with rfl | h
    · rfl
    cases h
   | 4, h => cases h
   | 5, h =>
    rcases List.mem_cons.1 h with rfl | h
    · rfl
    cases h
   | _ + 6, h => cases h)
  (fun k => All.mem (act_shape_vc k) ⟨fun _ => rfl, ⟨fun _ => rfl, ⟨fun _ => rfl, trivial⟩⟩⟩) (fun x r h => ⟨k, (act_shape_eq k x).symm.trans h⟩) (by kernel_rfl) (by kernel_rfl) (Nat.le_of_ble_eq_true (by kernel_rfl)) (by kernel_rfl)
theorem act_shape_snd : Snd Tryz.prog S ⟨74, [.val (.data (.st 0))], [.val (.data .bool)], fun x => act_shape x⟩ := Snd.lim (act_shape_sndk)
end Go.Sy.Ex
