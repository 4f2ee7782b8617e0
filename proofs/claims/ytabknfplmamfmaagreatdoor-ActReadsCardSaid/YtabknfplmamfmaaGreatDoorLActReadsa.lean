import Derived.Shelf.Strings.Builder1
import Derived.Shelf.Strings.Builder2
import Derived.Shelf.Small.Strs
import Derived.Shelf.Strings.BuilderF
import Derived.Shelf.Strings.BuilderK
import Derived.Shelf.Strings.Builder2Cap
import Derived.Shelf.Strconv.Itoa0
import Derived.Shelf.Strconv.Itoa1
import Derived.Shelf.LaysM
import Derived.Shelf.Strconv.Itoa2
import Derived.Shelf.Strconv.Itoa3
import Derived.Shelf.Strconv.Itoa4
import Derived.Shelf.Strconv.ParseIntEmpty
import Derived.Shelf.Strconv.Clone
import Derived.Shelf.Strconv.SyntaxError
import Derived.Shelf.LaysC
import Derived.Shelf.Strconv.ToError
import Derived.Shelf.Strconv.Lower
import Derived.Shelf.Strconv.ParseUint10
import Derived.Shelf.Strconv.ParseUint10Empty
import Derived.Shelf.Strconv.ParseUint10Any
import Derived.Shelf.Strconv.ParseInt10
import Derived.Shelf.Strconv.RangeError
import Derived.Shelf.Strconv.ToErrorRange
import Derived.Shelf.Strconv.ParseUintEmpty
import Derived.Shelf.Strconv.ParseUint10b64
import Derived.Shelf.Strconv.ParseUint10b32
import Derived.Shelf.Strconv.ParseUint10b16
import Derived.Shelf.Strconv.ParseUint10b8
import Derived.Shelf.Strconv.ParseUint10At
import Derived.Shelf.Strconv.ParseInt10At64
import Derived.Shelf.Strconv.ParseInt10At32
import Derived.Shelf.Strconv.ParseInt10At16
import Derived.Shelf.Strconv.ParseInt10At8
import Derived.Shelf.Strconv.ParseInt10All
import Derived.Shelf.Strconv.ParseIntPublic10
import Derived.Shelf.Strings.Search1
import Derived.Shelf.Strings.Search2
import Derived.Shelf.Strings.Search3
import Derived.Shelf.Strings.Shaped
import Derived.Shelf.Strings.Prefix
import Derived.Shelf.Bits.Mul64
import Derived.Shelf.Strings.Repeat
import Derived.Lib.ItoaMem
import Derived.Test.YtabknfplmamfmaaGreatDoorProg
import Derived.Test.YtabknfplmamfmaaGreatDoorSc
set_option linter.unusedVariables false
set_option linter.unusedSimpArgs false
/-
 DERIVED: THE SHELF's CONTRACTS AT THIS DUMP, IN PLAIN WORDS (tools/lay-plain.mjs out of 'XAcL.lean', which tools/lay-shelf.mjs wrote): THE SAME DECLARATIONS UNDER THE SAME NAMES: 'import', 'namespace', 'open', 'def', 'theorem' AND NOTHING ELSE: no command of the shelf's: FOR A HAND-IN. Each laying: the table of numbers ('.._ren') and one theorem, a field a fact of the dump's own or the kernel's comparison; each contract: ONE APPLICATION.
-/
namespace Go.Proofs
open Go.Shelf
def Tryz.lays137_ren : Go.Shelf.Ren := ⟨fun | 137 => 69 | 217 => 98 | 266 => 118 | n => n, fun | 9 => 9 | 5 => 5 | 3 => 3 | n => n, fun | n => n⟩
theorem Tryz.lays137 : Go.Proofs.Lays.n137 Tryz.prog Tryz.lays137_ren := {
 mixed := by kernel_rfl
 f137 := Tryz.func69.trans (congrArg some (by kernel_rfl))
 f217 := Tryz.func98.trans (congrArg some (by kernel_rfl))
 f266 := Tryz.func118.trans (congrArg some (by kernel_rfl))
 t3 := Tryz.underlying3
 a3 := Tryz.isAgg3
 z3 := Tryz.sizeOf3
 v3 := Tryz.zeroValue3
 t5 := Tryz.underlying5
 a5 := Tryz.isAgg5
 z5 := Tryz.sizeOf5
 v5 := Tryz.zeroValue5
 t9 := Tryz.underlying9
 a9 := Tryz.isAgg9
 z9 := Tryz.sizeOf9
 v9 := Tryz.zeroValue9 }
open Go.RowKit in
theorem Tryz.strings_IndexByte (s : ByteArray) (c : Int) (w : World) :
 Calls Tryz.prog 69 #[.string s, .int .u8 c] w fun e w' => e = .returned (.int .i64 (Lib.indexByte s.data.toList c.toNat.toUInt8)) ∧ w' = w := Any.strings_IndexByte Tryz.lays137 s c w
def Tryz.lays144_ren : Go.Shelf.Ren := ⟨fun | 144 => 100 | 143 => 121 | 219 => 142 | 217 => 98 | 225 => 155 | 224 => 156 | 267 => 157 | 266 => 118 | 314 => 168 | n => n, fun | 9 => 9 | 4 => 4 | 3 => 3 | 5 => 5 | 46 => 139 | 146 => 155 | 51 => 154 | n => n, fun | 1 => 0 | n => n⟩
theorem Tryz.lays144 : Go.Proofs.Lays.n144 Tryz.prog Tryz.lays144_ren := {
 mixed := by kernel_rfl
 f143 := Tryz.func121.trans (congrArg some (by kernel_rfl))
 f144 := Tryz.func100.trans (congrArg some (by kernel_rfl))
 f217 := Tryz.func98.trans (congrArg some (by kernel_rfl))
 f219 := Tryz.func142.trans (congrArg some (by kernel_rfl))
 f224 := Tryz.func156.trans (congrArg some (by kernel_rfl))
 f225 := Tryz.func155.trans (congrArg some (by kernel_rfl))
 f266 := Tryz.func118.trans (congrArg some (by kernel_rfl))
 f267 := Tryz.func157.trans (congrArg some (by kernel_rfl))
 f314 := Tryz.func168.trans (congrArg some (by kernel_rfl))
 t3 := Tryz.underlying3
 a3 := Tryz.isAgg3
 z3 := Tryz.sizeOf3
 v3 := Tryz.zeroValue3
 t4 := Tryz.underlying4
 a4 := Tryz.isAgg4
 z4 := Tryz.sizeOf4
 v4 := Tryz.zeroValue4
 t5 := Tryz.underlying5
 a5 := Tryz.isAgg5
 z5 := Tryz.sizeOf5
 v5 := Tryz.zeroValue5
 t9 := Tryz.underlying9
 a9 := Tryz.isAgg9
 z9 := Tryz.sizeOf9
 v9 := Tryz.zeroValue9
 t46 := Tryz.underlying139
 a46 := Tryz.isAgg139
 z46 := Tryz.sizeOf139
 v46 := Tryz.zeroValue139
 t51 := Tryz.underlying154
 a51 := Tryz.isAgg154
 z51 := Tryz.sizeOf154
 v51 := Tryz.zeroValue154
 t146 := Tryz.underlying155
 a146 := Tryz.isAgg155
 z146 := Tryz.sizeOf155
 v146 := Tryz.zeroValue155
 g1 := by kernel_rfl }
open Go.RowKit Go.Lib in
theorem Tryz.strings_Contains (s sub : ByteArray) (m : Int) (w : World) (hs : s.size < 4294967281) (hm : w.cell? ⟨0, 0, none⟩ = some (.int .i64 m)) :
 Calls Tryz.prog 100 #[.string s, .string sub] w fun e w' => e = .returned (.bool (Lib.contains s.data.toList sub.data.toList)) ∧ w' = w := Any.strings_Contains Tryz.lays144 s sub m w hs hm
def Tryz.laysC174_ren : Go.Shelf.Ren := ⟨fun | 174 => 99 | 247 => 119 | 245 => 120 | 287 => 137 | 279 => 138 | 280 => 139 | 281 => 140 | 282 => 141 | 321 => 151 | 322 => 152 | 316 => 153 | 171 => 110 | 205 => 154 | 243 => 131 | 246 => 146 | 283 => 158 | 284 => 159 | 285 => 160 | 286 => 161 | 129 => 170 | 317 => 169 | 318 => 171 | 319 => 172 | 320 => 173 | 337 => 176 | 338 => 177 | n => n, fun | 9 => 9 | 3 => 3 | 2 => 2 | 75 => 117 | 85 => 134 | 4 => 4 | 167 => 169 | 5 => 5 | 53 => 157 | 175 => 170 | 46 => 139 | 168 => 172 | 37 => 79 | 0 => 0 | 210 => 187 | 21 => 21 | 127 => 122 | 145 => 199 | 143 => 197 | 171 => 190 | 173 => 193 | 212 => 202 | 51 => 154 | 20 => 20 | 213 => 203 | 232 => 206 | 233 => 207 | 80 => 83 | n => n, fun | 15 => 1 | 16 => 2 | 17 => 3 | 18 => 4 | 19 => 5 | n => n⟩
theorem Tryz.laysC174 : Go.Proofs.LaysC.n174 Tryz.prog Tryz.laysC174_ren := {
 mixed := by kernel_rfl
 f129 := Tryz.func170.trans (congrArg some (by kernel_rfl))
 f171 := Tryz.func110.trans (congrArg some (by kernel_rfl))
 f174 := Tryz.func99.trans (congrArg some (by kernel_rfl))
 f205 := Tryz.func154.trans (congrArg some (by kernel_rfl))
 f243 := Tryz.func131.trans (congrArg some (by kernel_rfl))
 f245 := Tryz.func120.trans (congrArg some (by kernel_rfl))
 f246 := Tryz.func146.trans (congrArg some (by kernel_rfl))
 f247 := Tryz.func119.trans (congrArg some (by kernel_rfl))
 f279 := Tryz.func138.trans (congrArg some (by kernel_rfl))
 f280 := Tryz.func139.trans (congrArg some (by kernel_rfl))
 f281 := Tryz.func140.trans (congrArg some (by kernel_rfl))
 f282 := Tryz.func141.trans (congrArg some (by kernel_rfl))
 f283 := Tryz.func158.trans (congrArg some (by kernel_rfl))
 f284 := Tryz.func159.trans (congrArg some (by kernel_rfl))
 f285 := Tryz.func160.trans (congrArg some (by kernel_rfl))
 f286 := Tryz.func161.trans (congrArg some (by kernel_rfl))
 f287 := Tryz.func137.trans (congrArg some (by kernel_rfl))
 f316 := Tryz.func153.trans (congrArg some (by kernel_rfl))
 f317 := Tryz.func169.trans (congrArg some (by kernel_rfl))
 f318 := Tryz.func171.trans (congrArg some (by kernel_rfl))
 f319 := Tryz.func172.trans (congrArg some (by kernel_rfl))
 f320 := Tryz.func173.trans (congrArg some (by kernel_rfl))
 f321 := Tryz.func151.trans (congrArg some (by kernel_rfl))
 f322 := Tryz.func152.trans (congrArg some (by kernel_rfl))
 f337 := Tryz.func176.trans (congrArg some (by kernel_rfl))
 f338 := Tryz.func177.trans (congrArg some (by kernel_rfl))
 t0 := Tryz.underlying0
 a0 := Tryz.isAgg0
 z0 := Tryz.sizeOf0
 v0 := Tryz.zeroValue0
 t2 := Tryz.underlying2
 a2 := Tryz.isAgg2
 z2 := Tryz.sizeOf2
 v2 := Tryz.zeroValue2
 t3 := Tryz.underlying3
 a3 := Tryz.isAgg3
 z3 := Tryz.sizeOf3
 v3 := Tryz.zeroValue3
 t4 := Tryz.underlying4
 a4 := Tryz.isAgg4
 z4 := Tryz.sizeOf4
 v4 := Tryz.zeroValue4
 t5 := Tryz.underlying5
 a5 := Tryz.isAgg5
 z5 := Tryz.sizeOf5
 v5 := Tryz.zeroValue5
 t9 := Tryz.underlying9
 a9 := Tryz.isAgg9
 z9 := Tryz.sizeOf9
 v9 := Tryz.zeroValue9
 t20 := Tryz.underlying20
 a20 := Tryz.isAgg20
 z20 := Tryz.sizeOf20
 v20 := Tryz.zeroValue20
 t21 := Tryz.underlying21
 a21 := Tryz.isAgg21
 z21 := Tryz.sizeOf21
 v21 := Tryz.zeroValue21
 t37 := Tryz.underlying79
 a37 := Tryz.isAgg79
 z37 := Tryz.sizeOf79
 v37 := Tryz.zeroValue79
 t46 := Tryz.underlying139
 a46 := Tryz.isAgg139
 z46 := Tryz.sizeOf139
 v46 := Tryz.zeroValue139
 t51 := Tryz.underlying154
 a51 := Tryz.isAgg154
 z51 := Tryz.sizeOf154
 v51 := Tryz.zeroValue154
 t53 := Tryz.underlying157
 a53 := Tryz.isAgg157
 z53 := Tryz.sizeOf157
 v53 := Tryz.zeroValue157
 t75 := Tryz.underlying117
 a75 := Tryz.isAgg117
 z75 := Tryz.sizeOf117
 v75 := Tryz.zeroValue117
 t85 := Tryz.underlying134
 a85 := Tryz.isAgg134
 z85 := Tryz.sizeOf134
 v85 := Tryz.zeroValue134
 t127 := Tryz.underlying122
 a127 := Tryz.isAgg122
 z127 := Tryz.sizeOf122
 v127 := Tryz.zeroValue122
 t143 := Tryz.underlying197
 a143 := Tryz.isAgg197
 z143 := Tryz.sizeOf197
 v143 := Tryz.zeroValue197
 t145 := Tryz.underlying199
 a145 := Tryz.isAgg199
 z145 := Tryz.sizeOf199
 v145 := Tryz.zeroValue199
 t167 := Tryz.underlying169
 a167 := Tryz.isAgg169
 z167 := Tryz.sizeOf169
 v167 := Tryz.zeroValue169
 t168 := Tryz.underlying172
 a168 := Tryz.isAgg172
 z168 := Tryz.sizeOf172
 v168 := Tryz.zeroValue172
 t171 := Tryz.underlying190
 a171 := Tryz.isAgg190
 z171 := Tryz.sizeOf190
 v171 := Tryz.zeroValue190
 t173 := Tryz.underlying193
 a173 := Tryz.isAgg193
 z173 := Tryz.sizeOf193
 v173 := Tryz.zeroValue193
 t175 := Tryz.underlying170
 a175 := Tryz.isAgg170
 z175 := Tryz.sizeOf170
 v175 := Tryz.zeroValue170
 t210 := Tryz.underlying187
 a210 := Tryz.isAgg187
 z210 := Tryz.sizeOf187
 v210 := Tryz.zeroValue187
 t212 := Tryz.underlying202
 a212 := Tryz.isAgg202
 z212 := Tryz.sizeOf202
 v212 := Tryz.zeroValue202
 t213 := Tryz.underlying203
 a213 := Tryz.isAgg203
 z213 := Tryz.sizeOf203
 t232 := Tryz.underlying206
 a232 := Tryz.isAgg206
 z232 := Tryz.sizeOf206
 v232 := Tryz.zeroValue206
 t233 := Tryz.underlying207
 a233 := Tryz.isAgg207
 z233 := Tryz.sizeOf207
 v233 := Tryz.zeroValue207
 g15 := by kernel_rfl
 g16 := by kernel_rfl
 g17 := by kernel_rfl
 g18 := by kernel_rfl
 g19 := by kernel_rfl
 t80 := Tryz.underlying83
 a80 := Tryz.isAgg83
 z80 := Tryz.sizeOf83
 v80 := Tryz.zeroValue83
 i0 := by kernel_rfl
 i2 := by kernel_rfl
 i3 := by kernel_rfl
 i4 := by kernel_rfl
 i5 := by kernel_rfl
 i9 := by kernel_rfl
 i20 := by kernel_rfl
 i21 := by kernel_rfl
 i37 := by kernel_rfl
 i46 := by kernel_rfl
 i51 := by kernel_rfl
 i53 := by kernel_rfl
 i75 := by kernel_rfl
 i80 := by kernel_rfl
 i85 := by kernel_rfl
 i127 := by kernel_rfl
 i143 := by kernel_rfl
 i145 := by kernel_rfl
 i167 := by kernel_rfl
 i168 := by kernel_rfl
 i171 := by kernel_rfl
 i173 := by kernel_rfl
 i175 := by kernel_rfl
 i210 := by kernel_rfl
 i212 := by kernel_rfl
 i232 := by kernel_rfl
 i233 := by kernel_rfl
 m15 := by kernel_rfl
 m16 := by kernel_rfl
 m17 := by kernel_rfl
 m18 := by kernel_rfl
 m19 := by kernel_rfl
 c0 := by kernel_rfl
 c2 := by kernel_rfl
 c3 := by kernel_rfl
 c4 := by kernel_rfl
 c5 := by kernel_rfl
 c9 := by kernel_rfl
 c20 := by kernel_rfl
 c21 := by kernel_rfl
 c37 := by kernel_rfl
 c46 := by kernel_rfl
 c51 := by kernel_rfl
 c53 := by kernel_rfl
 c75 := by kernel_rfl
 c80 := by kernel_rfl
 c85 := by kernel_rfl
 c127 := by kernel_rfl
 c143 := by kernel_rfl
 c145 := by kernel_rfl
 c167 := by kernel_rfl
 c168 := by kernel_rfl
 c171 := by kernel_rfl
 c173 := by kernel_rfl
 c175 := by kernel_rfl
 c210 := by kernel_rfl
 c212 := by kernel_rfl
 c213 := by kernel_rfl
 c232 := by kernel_rfl
 c233 := by kernel_rfl }
open Go.RowKit in
theorem Tryz.strconv_ParseInt_10_at64_ok (s : ByteArray) (hmax : s.size ≤ 9223372036854775806) (v : Int) (h : Lib.parseIntB 64 s.data.toList = .ok v) (w : World) :
 Calls Tryz.prog 99 #[.string s, .int .i64 10, .int .i64 64] w fun e w' => e = .returned (.tuple #[.int .i64 v, .nilIface]) ∧ (w' = w ∨ ∃ t, w' = Lib.bytesWorld w 5 t) := Any.strconv_ParseInt_10_at64_ok Tryz.laysC174 s hmax v h w
open Go.RowKit in
theorem Tryz.strconv_ParseInt_10_at64_range (s : ByteArray) (hlim : s.size ≤ 281474976710656) (h : Lib.parseIntB 64 s.data.toList = .range) (ev : Value) (w : World) (hv : w.cell? ⟨2, 0, none⟩ = some ev) (hev : ev = .nilIface ∨ ∃ te pe, ev = .iface te pe) :
 Calls Tryz.prog 99 #[.string s, .int .i64 10, .int .i64 64] w fun e w' => ∃ N, e = .returned (.tuple #[.int .i64 (Lib.intSat 64 s.data.toList), .iface 172 (.pointer (some ⟨N, 0, none⟩))]) ∧ w.heap.size ≤ N ∧ w'.heap[N]? = some (.cells #[.string ⟨#[80, 97, 114, 115, 101, 73, 110, 116]⟩, .string s, ev] 187 (0, 0)) ∧ Below w.heap.size w w' := Any.strconv_ParseInt_10_at64_range Tryz.laysC174 s hlim h ev w hv hev
def Tryz.laysM173_ren : Go.Shelf.Ren := ⟨fun | 173 => 145 | 246 => 146 | 283 => 158 | 284 => 159 | 285 => 160 | 286 => 161 | 129 => 170 | 317 => 169 | 318 => 171 | 319 => 172 | 320 => 173 | 337 => 176 | 338 => 177 | n => n, fun | 2 => 2 | 3 => 3 | 9 => 9 | 4 => 4 | 171 => 190 | 0 => 0 | 53 => 157 | 37 => 79 | 5 => 5 | 173 => 193 | 212 => 202 | 51 => 154 | 20 => 20 | 213 => 203 | 46 => 139 | 232 => 206 | 233 => 207 | n => n, fun | 17 => 3 | 18 => 4 | 19 => 5 | n => n⟩
theorem Tryz.laysM173 : Go.Proofs.LaysM.n173 Tryz.prog Tryz.laysM173_ren := {
 mixed := by kernel_rfl
 f129 := Tryz.func170.trans (congrArg some (by kernel_rfl))
 f173 := Tryz.func145.trans (congrArg some (by kernel_rfl))
 f246 := Tryz.func146.trans (congrArg some (by kernel_rfl))
 f283 := Tryz.func158.trans (congrArg some (by kernel_rfl))
 f284 := Tryz.func159.trans (congrArg some (by kernel_rfl))
 f285 := Tryz.func160.trans (congrArg some (by kernel_rfl))
 f286 := Tryz.func161.trans (congrArg some (by kernel_rfl))
 f317 := Tryz.func169.trans (congrArg some (by kernel_rfl))
 f318 := Tryz.func171.trans (congrArg some (by kernel_rfl))
 f319 := Tryz.func172.trans (congrArg some (by kernel_rfl))
 f320 := Tryz.func173.trans (congrArg some (by kernel_rfl))
 f337 := Tryz.func176.trans (congrArg some (by kernel_rfl))
 f338 := Tryz.func177.trans (congrArg some (by kernel_rfl))
 t0 := Tryz.underlying0
 a0 := Tryz.isAgg0
 z0 := Tryz.sizeOf0
 v0 := Tryz.zeroValue0
 t2 := Tryz.underlying2
 a2 := Tryz.isAgg2
 z2 := Tryz.sizeOf2
 v2 := Tryz.zeroValue2
 t3 := Tryz.underlying3
 a3 := Tryz.isAgg3
 z3 := Tryz.sizeOf3
 v3 := Tryz.zeroValue3
 t4 := Tryz.underlying4
 a4 := Tryz.isAgg4
 z4 := Tryz.sizeOf4
 v4 := Tryz.zeroValue4
 t5 := Tryz.underlying5
 a5 := Tryz.isAgg5
 z5 := Tryz.sizeOf5
 v5 := Tryz.zeroValue5
 t9 := Tryz.underlying9
 a9 := Tryz.isAgg9
 z9 := Tryz.sizeOf9
 v9 := Tryz.zeroValue9
 t20 := Tryz.underlying20
 a20 := Tryz.isAgg20
 z20 := Tryz.sizeOf20
 v20 := Tryz.zeroValue20
 t37 := Tryz.underlying79
 a37 := Tryz.isAgg79
 z37 := Tryz.sizeOf79
 v37 := Tryz.zeroValue79
 t46 := Tryz.underlying139
 a46 := Tryz.isAgg139
 z46 := Tryz.sizeOf139
 v46 := Tryz.zeroValue139
 t51 := Tryz.underlying154
 a51 := Tryz.isAgg154
 z51 := Tryz.sizeOf154
 v51 := Tryz.zeroValue154
 t53 := Tryz.underlying157
 a53 := Tryz.isAgg157
 z53 := Tryz.sizeOf157
 v53 := Tryz.zeroValue157
 t171 := Tryz.underlying190
 a171 := Tryz.isAgg190
 z171 := Tryz.sizeOf190
 v171 := Tryz.zeroValue190
 t173 := Tryz.underlying193
 a173 := Tryz.isAgg193
 z173 := Tryz.sizeOf193
 v173 := Tryz.zeroValue193
 t212 := Tryz.underlying202
 a212 := Tryz.isAgg202
 z212 := Tryz.sizeOf202
 v212 := Tryz.zeroValue202
 t213 := Tryz.underlying203
 a213 := Tryz.isAgg203
 z213 := Tryz.sizeOf203
 t232 := Tryz.underlying206
 a232 := Tryz.isAgg206
 z232 := Tryz.sizeOf206
 v232 := Tryz.zeroValue206
 t233 := Tryz.underlying207
 a233 := Tryz.isAgg207
 z233 := Tryz.sizeOf207
 v233 := Tryz.zeroValue207
 g17 := by kernel_rfl
 g18 := by kernel_rfl
 g19 := by kernel_rfl
 i0 := by kernel_rfl
 i2 := by kernel_rfl
 i3 := by kernel_rfl
 i4 := by kernel_rfl
 i5 := by kernel_rfl
 i9 := by kernel_rfl
 i20 := by kernel_rfl
 i37 := by kernel_rfl
 i46 := by kernel_rfl
 i51 := by kernel_rfl
 i53 := by kernel_rfl
 i171 := by kernel_rfl
 i173 := by kernel_rfl
 i212 := by kernel_rfl
 i232 := by kernel_rfl
 i233 := by kernel_rfl
 m17 := by kernel_rfl
 m18 := by kernel_rfl
 m19 := by kernel_rfl }
open Go.RowKit Go.Sort Go.Lib in
theorem Tryz.strconv_FormatInt_10 (n : Int) (h0 : -9223372036854775808 ≤ n) (h1 : n ≤ 9223372036854775807) (w : World) (htab : Lib.TabIs Tryz.prog w "internal/strconv.uint64pow10" .u64 Lib.pow10Tab) :
 Calls Tryz.prog 145 #[.int .i64 n, .int .i64 10] w fun e w' => e = .returned (.string ⟨(Lib.itoa n).toArray⟩) ∧ ∃ k os, w' = grow (w.drewN k) os := Any.strconv_FormatInt_10 Tryz.laysM173 n h0 h1 w htab
def Tryz.lays169_ren : Go.Shelf.Ren := ⟨fun | 169 => 42 | n => n, fun | 70 => 78 | 9 => 9 | 0 => 0 | 72 => 81 | 37 => 79 | 127 => 122 | 3 => 3 | 5 => 5 | n => n, fun | n => n⟩
theorem Tryz.lays169 : Go.Proofs.Lays.n169 Tryz.prog Tryz.lays169_ren := {
 mixed := by kernel_rfl
 f169 := Tryz.func42.trans (congrArg some (by kernel_rfl))
 t0 := Tryz.underlying0
 a0 := Tryz.isAgg0
 z0 := Tryz.sizeOf0
 v0 := Tryz.zeroValue0
 t3 := Tryz.underlying3
 a3 := Tryz.isAgg3
 z3 := Tryz.sizeOf3
 v3 := Tryz.zeroValue3
 t9 := Tryz.underlying9
 a9 := Tryz.isAgg9
 z9 := Tryz.sizeOf9
 v9 := Tryz.zeroValue9
 t37 := Tryz.underlying79
 a37 := Tryz.isAgg79
 z37 := Tryz.sizeOf79
 v37 := Tryz.zeroValue79
 t70 := Tryz.underlying78
 a70 := Tryz.isAgg78
 z70 := Tryz.sizeOf78
 v70 := Tryz.zeroValue78
 t72 := Tryz.underlying81
 a72 := Tryz.isAgg81
 z72 := Tryz.sizeOf81
 v72 := Tryz.zeroValue81
 t127 := Tryz.underlying122
 a127 := Tryz.isAgg122
 z127 := Tryz.sizeOf122
 v127 := Tryz.zeroValue122 }
theorem Tryz.Builder_Extra_169 : Builder.Extra Tryz.prog Tryz.lays169_ren := {
 sizeBuilder := by kernel_rfl
 liesBuilder := by kernel_rfl
 t5 := Tryz.underlying5
 a5 := Tryz.isAgg5
 z5 := Tryz.sizeOf5
 v5 := Tryz.zeroValue5
 infoByte := by kernel_rfl
 cellsByte := by kernel_rfl
 sizeByte := by kernel_rfl
 neB5 := by decide }
open Go.RowKit in
theorem Tryz.Builder_String_k (B b : Nat) (l : List UInt8) (w : World) (h : Lib.IsBuilderF 81 5 B b (Lib.byteCells l) w) (h0 : l ≠ []) :
 Calls Tryz.prog 42 #[.pointer (some ⟨b, 0, none⟩)] w fun e w' => e = .returned (.string ⟨l.toArray⟩) ∧ (Lib.IsBuilderF 81 5 B b (Lib.byteCells l) w' ∧ Below B w w' ∧ Lib.OthersKept 5 (some b) w w') := Any.Builder_String_k Tryz.lays169 Tryz.Builder_Extra_169 B b l w h h0
def Tryz.lays105_ren : Go.Shelf.Ren := ⟨fun | 105 => 79 | 212 => 105 | 99 => 106 | 165 => 107 | 166 => 78 | 170 => 108 | 169 => 42 | 263 => 126 | 264 => 127 | 206 => 128 | 240 => 104 | 241 => 129 | 276 => 125 | 277 => 144 | n => n, fun | 9 => 9 | 3 => 3 | 4 => 4 | 20 => 20 | 0 => 0 | 46 => 139 | 109 => 140 | 5 => 5 | 72 => 81 | 76 => 118 | 51 => 154 | 146 => 155 | 53 => 157 | 148 => 158 | 70 => 78 | 37 => 79 | 75 => 117 | 127 => 122 | 164 => 152 | 80 => 83 | n => n, fun | n => n⟩
theorem Tryz.lays105 : Go.Proofs.Lays.n105 Tryz.prog Tryz.lays105_ren := {
 mixed := by kernel_rfl
 f99 := Tryz.func106.trans (congrArg some (by kernel_rfl))
 f105 := Tryz.func79.trans (congrArg some (by kernel_rfl))
 f165 := Tryz.func107.trans (congrArg some (by kernel_rfl))
 f166 := Tryz.func78.trans (congrArg some (by kernel_rfl))
 f169 := Tryz.func42.trans (congrArg some (by kernel_rfl))
 f170 := Tryz.func108.trans (congrArg some (by kernel_rfl))
 f206 := Tryz.func128.trans (congrArg some (by kernel_rfl))
 f212 := Tryz.func105.trans (congrArg some (by kernel_rfl))
 f240 := Tryz.func104.trans (congrArg some (by kernel_rfl))
 f241 := Tryz.func129.trans (congrArg some (by kernel_rfl))
 f263 := Tryz.func126.trans (congrArg some (by kernel_rfl))
 f264 := Tryz.func127.trans (congrArg some (by kernel_rfl))
 f276 := Tryz.func125.trans (congrArg some (by kernel_rfl))
 f277 := Tryz.func144.trans (congrArg some (by kernel_rfl))
 t0 := Tryz.underlying0
 a0 := Tryz.isAgg0
 z0 := Tryz.sizeOf0
 v0 := Tryz.zeroValue0
 t3 := Tryz.underlying3
 a3 := Tryz.isAgg3
 z3 := Tryz.sizeOf3
 v3 := Tryz.zeroValue3
 t4 := Tryz.underlying4
 a4 := Tryz.isAgg4
 z4 := Tryz.sizeOf4
 v4 := Tryz.zeroValue4
 t5 := Tryz.underlying5
 a5 := Tryz.isAgg5
 z5 := Tryz.sizeOf5
 v5 := Tryz.zeroValue5
 t9 := Tryz.underlying9
 a9 := Tryz.isAgg9
 z9 := Tryz.sizeOf9
 v9 := Tryz.zeroValue9
 t20 := Tryz.underlying20
 a20 := Tryz.isAgg20
 z20 := Tryz.sizeOf20
 v20 := Tryz.zeroValue20
 t37 := Tryz.underlying79
 a37 := Tryz.isAgg79
 z37 := Tryz.sizeOf79
 v37 := Tryz.zeroValue79
 t46 := Tryz.underlying139
 a46 := Tryz.isAgg139
 z46 := Tryz.sizeOf139
 v46 := Tryz.zeroValue139
 t51 := Tryz.underlying154
 a51 := Tryz.isAgg154
 z51 := Tryz.sizeOf154
 v51 := Tryz.zeroValue154
 t53 := Tryz.underlying157
 a53 := Tryz.isAgg157
 z53 := Tryz.sizeOf157
 v53 := Tryz.zeroValue157
 t70 := Tryz.underlying78
 a70 := Tryz.isAgg78
 z70 := Tryz.sizeOf78
 v70 := Tryz.zeroValue78
 t72 := Tryz.underlying81
 a72 := Tryz.isAgg81
 z72 := Tryz.sizeOf81
 v72 := Tryz.zeroValue81
 t75 := Tryz.underlying117
 a75 := Tryz.isAgg117
 z75 := Tryz.sizeOf117
 v75 := Tryz.zeroValue117
 t76 := Tryz.underlying118
 a76 := Tryz.isAgg118
 z76 := Tryz.sizeOf118
 v76 := Tryz.zeroValue118
 t109 := Tryz.underlying140
 a109 := Tryz.isAgg140
 z109 := Tryz.sizeOf140
 v109 := Tryz.zeroValue140
 t127 := Tryz.underlying122
 a127 := Tryz.isAgg122
 z127 := Tryz.sizeOf122
 v127 := Tryz.zeroValue122
 t146 := Tryz.underlying155
 a146 := Tryz.isAgg155
 z146 := Tryz.sizeOf155
 v146 := Tryz.zeroValue155
 t148 := Tryz.underlying158
 a148 := Tryz.isAgg158
 z148 := Tryz.sizeOf158
 v148 := Tryz.zeroValue158
 t164 := Tryz.underlying152
 a164 := Tryz.isAgg152
 z164 := Tryz.sizeOf152
 v164 := Tryz.zeroValue152 }
theorem Tryz.Builder_Extra_105 : Builder.Extra Tryz.prog Tryz.lays105_ren := {
 sizeBuilder := by kernel_rfl
 liesBuilder := by kernel_rfl
 t5 := Tryz.underlying5
 a5 := Tryz.isAgg5
 z5 := Tryz.sizeOf5
 v5 := Tryz.zeroValue5
 infoByte := by kernel_rfl
 cellsByte := by kernel_rfl
 sizeByte := by kernel_rfl
 neB5 := by decide }
open Go.RowKit Go.Lib in
theorem Tryz.strings_Repeat (s : ByteArray) (c : Nat) (w : World) (hc : c ≤ 9223372036854775807) (hlen : s.size * c ≤ 140737488355328) :
 Calls Tryz.prog 79 #[.string s, .int .i64 c] w fun e w' => e = .returned (.string ⟨(Lib.repeatL s.data.toList c).toArray⟩) ∧ Below w.heap.size w w' := Any.strings_Repeat Tryz.lays105 Tryz.Builder_Extra_105 s c w hc hlen
def Tryz.laysM171_ren : Go.Shelf.Ren := ⟨fun | 171 => 110 | 243 => 131 | 246 => 146 | 283 => 158 | 284 => 159 | 285 => 160 | 286 => 161 | 129 => 170 | 317 => 169 | 318 => 171 | 319 => 172 | 320 => 173 | 337 => 176 | 338 => 177 | n => n, fun | 3 => 3 | 9 => 9 | 2 => 2 | 4 => 4 | 171 => 190 | 0 => 0 | 53 => 157 | 37 => 79 | 5 => 5 | 173 => 193 | 212 => 202 | 51 => 154 | 20 => 20 | 213 => 203 | 46 => 139 | 232 => 206 | 233 => 207 | n => n, fun | 17 => 3 | 18 => 4 | 19 => 5 | n => n⟩
theorem Tryz.laysM171 : Go.Proofs.LaysM.n171 Tryz.prog Tryz.laysM171_ren := {
 mixed := by kernel_rfl
 f129 := Tryz.func170.trans (congrArg some (by kernel_rfl))
 f171 := Tryz.func110.trans (congrArg some (by kernel_rfl))
 f243 := Tryz.func131.trans (congrArg some (by kernel_rfl))
 f246 := Tryz.func146.trans (congrArg some (by kernel_rfl))
 f283 := Tryz.func158.trans (congrArg some (by kernel_rfl))
 f284 := Tryz.func159.trans (congrArg some (by kernel_rfl))
 f285 := Tryz.func160.trans (congrArg some (by kernel_rfl))
 f286 := Tryz.func161.trans (congrArg some (by kernel_rfl))
 f317 := Tryz.func169.trans (congrArg some (by kernel_rfl))
 f318 := Tryz.func171.trans (congrArg some (by kernel_rfl))
 f319 := Tryz.func172.trans (congrArg some (by kernel_rfl))
 f320 := Tryz.func173.trans (congrArg some (by kernel_rfl))
 f337 := Tryz.func176.trans (congrArg some (by kernel_rfl))
 f338 := Tryz.func177.trans (congrArg some (by kernel_rfl))
 t0 := Tryz.underlying0
 a0 := Tryz.isAgg0
 z0 := Tryz.sizeOf0
 v0 := Tryz.zeroValue0
 t2 := Tryz.underlying2
 a2 := Tryz.isAgg2
 z2 := Tryz.sizeOf2
 v2 := Tryz.zeroValue2
 t3 := Tryz.underlying3
 a3 := Tryz.isAgg3
 z3 := Tryz.sizeOf3
 v3 := Tryz.zeroValue3
 t4 := Tryz.underlying4
 a4 := Tryz.isAgg4
 z4 := Tryz.sizeOf4
 v4 := Tryz.zeroValue4
 t5 := Tryz.underlying5
 a5 := Tryz.isAgg5
 z5 := Tryz.sizeOf5
 v5 := Tryz.zeroValue5
 t9 := Tryz.underlying9
 a9 := Tryz.isAgg9
 z9 := Tryz.sizeOf9
 v9 := Tryz.zeroValue9
 t20 := Tryz.underlying20
 a20 := Tryz.isAgg20
 z20 := Tryz.sizeOf20
 v20 := Tryz.zeroValue20
 t37 := Tryz.underlying79
 a37 := Tryz.isAgg79
 z37 := Tryz.sizeOf79
 v37 := Tryz.zeroValue79
 t46 := Tryz.underlying139
 a46 := Tryz.isAgg139
 z46 := Tryz.sizeOf139
 v46 := Tryz.zeroValue139
 t51 := Tryz.underlying154
 a51 := Tryz.isAgg154
 z51 := Tryz.sizeOf154
 v51 := Tryz.zeroValue154
 t53 := Tryz.underlying157
 a53 := Tryz.isAgg157
 z53 := Tryz.sizeOf157
 v53 := Tryz.zeroValue157
 t171 := Tryz.underlying190
 a171 := Tryz.isAgg190
 z171 := Tryz.sizeOf190
 v171 := Tryz.zeroValue190
 t173 := Tryz.underlying193
 a173 := Tryz.isAgg193
 z173 := Tryz.sizeOf193
 v173 := Tryz.zeroValue193
 t212 := Tryz.underlying202
 a212 := Tryz.isAgg202
 z212 := Tryz.sizeOf202
 v212 := Tryz.zeroValue202
 t213 := Tryz.underlying203
 a213 := Tryz.isAgg203
 z213 := Tryz.sizeOf203
 t232 := Tryz.underlying206
 a232 := Tryz.isAgg206
 z232 := Tryz.sizeOf206
 v232 := Tryz.zeroValue206
 t233 := Tryz.underlying207
 a233 := Tryz.isAgg207
 z233 := Tryz.sizeOf207
 v233 := Tryz.zeroValue207
 g17 := by kernel_rfl
 g18 := by kernel_rfl
 g19 := by kernel_rfl
 i0 := by kernel_rfl
 i2 := by kernel_rfl
 i3 := by kernel_rfl
 i4 := by kernel_rfl
 i5 := by kernel_rfl
 i9 := by kernel_rfl
 i20 := by kernel_rfl
 i37 := by kernel_rfl
 i46 := by kernel_rfl
 i51 := by kernel_rfl
 i53 := by kernel_rfl
 i171 := by kernel_rfl
 i173 := by kernel_rfl
 i212 := by kernel_rfl
 i232 := by kernel_rfl
 i233 := by kernel_rfl
 m17 := by kernel_rfl
 m18 := by kernel_rfl
 m19 := by kernel_rfl }
open Go.RowKit Go.Sort Go.Lib in
theorem Tryz.strconv_Itoa (n : Int) (h0 : -9223372036854775808 ≤ n) (h1 : n ≤ 9223372036854775807) (w : World) (htab : Lib.TabIs Tryz.prog w "internal/strconv.uint64pow10" .u64 Lib.pow10Tab) :
 Calls Tryz.prog 110 #[.int .i64 n] w fun e w' => e = .returned (.string ⟨(Lib.itoa n).toArray⟩) ∧ ∃ k os, w' = grow (w.drewN k) os := Any.strconv_Itoa Tryz.laysM171 n h0 h1 w htab
end Go.Proofs
namespace Go.Proofs
open Go.Shelf
def Tryz.lays166_ren : Go.Shelf.Ren := ⟨fun | 166 => 78 | 240 => 104 | 276 => 125 | n => n, fun | 0 => 0 | 3 => 3 | 4 => 4 | 5 => 5 | 9 => 9 | 20 => 20 | 31 => 42 | 37 => 79 | 70 => 78 | 72 => 81 | 75 => 117 | 76 => 118 | 80 => 83 | 127 => 122 | 164 => 152 | n => n, fun | n => n⟩
theorem Tryz.lays166 : Go.Proofs.Lays.n166 Tryz.prog Tryz.lays166_ren := {
 mixed := by kernel_rfl
 f166 := Tryz.func78.trans (congrArg some (by kernel_rfl))
 f240 := Tryz.func104.trans (congrArg some (by kernel_rfl))
 f276 := Tryz.func125.trans (congrArg some (by kernel_rfl))
 t0 := Tryz.underlying0
 a0 := Tryz.isAgg0
 z0 := Tryz.sizeOf0
 v0 := Tryz.zeroValue0
 t3 := Tryz.underlying3
 a3 := Tryz.isAgg3
 z3 := Tryz.sizeOf3
 v3 := Tryz.zeroValue3
 t4 := Tryz.underlying4
 a4 := Tryz.isAgg4
 z4 := Tryz.sizeOf4
 v4 := Tryz.zeroValue4
 t9 := Tryz.underlying9
 a9 := Tryz.isAgg9
 z9 := Tryz.sizeOf9
 v9 := Tryz.zeroValue9
 t20 := Tryz.underlying20
 a20 := Tryz.isAgg20
 z20 := Tryz.sizeOf20
 v20 := Tryz.zeroValue20
 t37 := Tryz.underlying79
 a37 := Tryz.isAgg79
 z37 := Tryz.sizeOf79
 v37 := Tryz.zeroValue79
 t70 := Tryz.underlying78
 a70 := Tryz.isAgg78
 z70 := Tryz.sizeOf78
 v70 := Tryz.zeroValue78
 t72 := Tryz.underlying81
 a72 := Tryz.isAgg81
 z72 := Tryz.sizeOf81
 v72 := Tryz.zeroValue81
 t75 := Tryz.underlying117
 a75 := Tryz.isAgg117
 z75 := Tryz.sizeOf117
 v75 := Tryz.zeroValue117
 t164 := Tryz.underlying152
 a164 := Tryz.isAgg152
 z164 := Tryz.sizeOf152
 v164 := Tryz.zeroValue152 }
theorem Tryz.Builder_Extra_166 : Builder.Extra Tryz.prog Tryz.lays166_ren := {
 sizeBuilder := by kernel_rfl
 liesBuilder := by kernel_rfl
 t5 := Tryz.underlying5
 a5 := Tryz.isAgg5
 z5 := Tryz.sizeOf5
 v5 := Tryz.zeroValue5
 infoByte := by kernel_rfl
 cellsByte := by kernel_rfl
 sizeByte := by kernel_rfl
 neB5 := by decide }
def Tryz.lays167_ren : Go.Shelf.Ren := ⟨fun | 167 => 81 | 240 => 104 | 276 => 125 | n => n, fun | 0 => 0 | 3 => 3 | 4 => 4 | 5 => 5 | 9 => 9 | 20 => 20 | 31 => 42 | 37 => 79 | 70 => 78 | 72 => 81 | 75 => 117 | 76 => 118 | 80 => 83 | 127 => 122 | 164 => 152 | n => n, fun | n => n⟩
theorem Tryz.lays167 : Go.Proofs.Lays.n167 Tryz.prog Tryz.lays167_ren := {
 mixed := by kernel_rfl
 f167 := Tryz.func81.trans (congrArg some (by kernel_rfl))
 f240 := Tryz.func104.trans (congrArg some (by kernel_rfl))
 f276 := Tryz.func125.trans (congrArg some (by kernel_rfl))
 t0 := Tryz.underlying0
 a0 := Tryz.isAgg0
 z0 := Tryz.sizeOf0
 v0 := Tryz.zeroValue0
 t4 := Tryz.underlying4
 a4 := Tryz.isAgg4
 z4 := Tryz.sizeOf4
 v4 := Tryz.zeroValue4
 t5 := Tryz.underlying5
 a5 := Tryz.isAgg5
 z5 := Tryz.sizeOf5
 v5 := Tryz.zeroValue5
 t9 := Tryz.underlying9
 a9 := Tryz.isAgg9
 z9 := Tryz.sizeOf9
 v9 := Tryz.zeroValue9
 t20 := Tryz.underlying20
 a20 := Tryz.isAgg20
 z20 := Tryz.sizeOf20
 v20 := Tryz.zeroValue20
 t37 := Tryz.underlying79
 a37 := Tryz.isAgg79
 z37 := Tryz.sizeOf79
 v37 := Tryz.zeroValue79
 t70 := Tryz.underlying78
 a70 := Tryz.isAgg78
 z70 := Tryz.sizeOf78
 v70 := Tryz.zeroValue78
 t72 := Tryz.underlying81
 a72 := Tryz.isAgg81
 z72 := Tryz.sizeOf81
 v72 := Tryz.zeroValue81
 t75 := Tryz.underlying117
 a75 := Tryz.isAgg117
 z75 := Tryz.sizeOf117
 v75 := Tryz.zeroValue117
 t164 := Tryz.underlying152
 a164 := Tryz.isAgg152
 z164 := Tryz.sizeOf152
 v164 := Tryz.zeroValue152 }
theorem Tryz.Builder_Extra_167 : Builder.Extra Tryz.prog Tryz.lays167_ren := {
 sizeBuilder := by kernel_rfl
 liesBuilder := by kernel_rfl
 t5 := Tryz.underlying5
 a5 := Tryz.isAgg5
 z5 := Tryz.sizeOf5
 v5 := Tryz.zeroValue5
 infoByte := by kernel_rfl
 cellsByte := by kernel_rfl
 sizeByte := by kernel_rfl
 neB5 := by decide }
end Go.Proofs
set_option maxRecDepth 100000
namespace Go.Sy.Ex
open Go.Sy Go.Proofs
structure api_Token where
 Kind : Int
 At : Int
 End : Int
 Text : List UInt8
 N : Int
 deriving DecidableEq
def api_Token.z : api_Token := ⟨0, 0, 0, [], 0⟩
structure api_Fault where
 Code : Int
 At : Int
 deriving DecidableEq
def api_Fault.z : api_Fault := ⟨0, 0⟩
structure api_Expr where
 Kind : Int
 N : Int
 Name : List UInt8
 Kids : List api_Expr
 At : Int
def api_Expr.z : api_Expr := ⟨0, 0, [], [], 0⟩
structure api_Act where
 Kind : Int
 Name : List UInt8
 Event : List UInt8
 X : List api_Expr
 N : Int
 Then : List api_Act
 Else : List api_Act
 At : Int
def api_Act.z : api_Act := ⟨0, [], [], [], 0, [], [], 0⟩
structure read_Row where
 L : List api_Token
 At : Int
 Fault : api_Fault
 deriving DecidableEq
def read_Row.z : read_Row := ⟨[], 0, api_Fault.z⟩
structure act_reader where
 Row : read_Row
 v_open : Int
 deriving DecidableEq
def act_reader.z : act_reader := ⟨read_Row.z, 0⟩
structure expr_reader where
 Row : read_Row
 v_open : Int
 deriving DecidableEq
def expr_reader.z : expr_reader := ⟨read_Row.z, 0⟩
structure ref7_reader where
 l : List api_Token
 v_at : Int
 v_open : Int
 bad : api_Fault
 deriving DecidableEq
def ref7_reader.z : ref7_reader := ⟨[], 0, 0, api_Fault.z⟩
def C : Nat → Type
 | 0 => api_Token
 | 1 => api_Fault
 | 2 => List UInt8 × List UInt8 × List UInt8 × List UInt8 × List UInt8 × List UInt8 × List UInt8
 | 3 => api_Act
 | 4 => api_Expr
 | 5 => read_Row
 | 6 => act_reader
 | 7 => expr_reader
 | 8 => Unit
 | 9 => List UInt8 × List UInt8 × List UInt8 × List UInt8 × List UInt8 × List UInt8 × List UInt8 × List UInt8 × List UInt8 × List UInt8 × List UInt8 × List UInt8 × List UInt8
 | 10 => ref7_reader
 | 11 => List UInt8 × List UInt8 × List UInt8 × List UInt8 × List UInt8 × List UInt8 × List UInt8 × List UInt8 × List UInt8 × List UInt8 × List UInt8 × List UInt8 × List UInt8 × List UInt8 × List UInt8 × List UInt8 × List UInt8 × List UInt8 × List UInt8 × List UInt8 × List UInt8 × List UInt8 × List UInt8 × List UInt8 × List UInt8 × List UInt8 × List UInt8 × List UInt8 × List UInt8 × List UInt8 × List UInt8 × List UInt8 × List UInt8 × List UInt8 × List UInt8
 | _ + 12 => Unit
def F : Nat → List Ty
 | 0 => [.int .i64, .int .i64, .int .i64, .str, .int .i64]
 | 1 => [.int .i64, .int .i64]
 | 2 => [.str, .str, .str, .str, .str, .str, .str]
 | 3 => [.int .i64, .str, .str, .sl (.st 4), .int .i64, .sl (.st 3), .sl (.st 3), .int .i64]
 | 4 => [.int .i64, .int .i64, .str, .sl (.st 4), .int .i64]
 | 5 => [.sl (.st 0), .int .i64, .int .i64, .int .i64]
 | 6 => [.sl (.st 0), .int .i64, .int .i64, .int .i64, .int .i64]
 | 7 => [.sl (.st 0), .int .i64, .int .i64, .int .i64, .int .i64]
 | 8 => []
 | 9 => [.str, .str, .str, .str, .str, .str, .str, .str, .str, .str, .str, .str, .str]
 | 10 => [.sl (.st 0), .int .i64, .int .i64, .int .i64, .int .i64]
 | 11 => [.str, .str, .str, .str, .str, .str, .str, .str, .str, .str, .str, .str, .str, .str, .str, .str, .str, .str, .str, .str, .str, .str, .str, .str, .str, .str, .str, .str, .str, .str, .str, .str, .str, .str, .str]
 | _ + 12 => []
def ex : (t : Nat) → C t → Tup C (F t)
 | 0, (x : api_Token) => (x.Kind, x.At, x.End, x.Text, x.N)
 | 1, (x : api_Fault) => (x.Code, x.At)
 | 2, (x : List UInt8 × List UInt8 × List UInt8 × List UInt8 × List UInt8 × List UInt8 × List UInt8) => (x.1, x.2.1, x.2.2.1, x.2.2.2.1, x.2.2.2.2.1, x.2.2.2.2.2.1, x.2.2.2.2.2.2)
 | 3, (x : api_Act) => (x.Kind, x.Name, x.Event, x.X, x.N, x.Then, x.Else, x.At)
 | 4, (x : api_Expr) => (x.Kind, x.N, x.Name, x.Kids, x.At)
 | 5, (x : read_Row) => (x.L, x.At, x.Fault.Code, x.Fault.At)
 | 6, (x : act_reader) => (x.Row.L, x.Row.At, x.Row.Fault.Code, x.Row.Fault.At, x.v_open)
 | 7, (x : expr_reader) => (x.Row.L, x.Row.At, x.Row.Fault.Code, x.Row.Fault.At, x.v_open)
 | 8, _ => ()
 | 9, (x : List UInt8 × List UInt8 × List UInt8 × List UInt8 × List UInt8 × List UInt8 × List UInt8 × List UInt8 × List UInt8 × List UInt8 × List UInt8 × List UInt8 × List UInt8) => (x.1, x.2.1, x.2.2.1, x.2.2.2.1, x.2.2.2.2.1, x.2.2.2.2.2.1, x.2.2.2.2.2.2.1, x.2.2.2.2.2.2.2.1, x.2.2.2.2.2.2.2.2.1, x.2.2.2.2.2.2.2.2.2.1, x.2.2.2.2.2.2.2.2.2.2.1, x.2.2.2.2.2.2.2.2.2.2.2.1, x.2.2.2.2.2.2.2.2.2.2.2.2)
 | 10, (x : ref7_reader) => (x.l, x.v_at, x.v_open, x.bad.Code, x.bad.At)
 | 11, (x : List UInt8 × List UInt8 × List UInt8 × List UInt8 × List UInt8 × List UInt8 × List UInt8 × List UInt8 × List UInt8 × List UInt8 × List UInt8 × List UInt8 × List UInt8 × List UInt8 × List UInt8 × List UInt8 × List UInt8 × List UInt8 × List UInt8 × List UInt8 × List UInt8 × List UInt8 × List UInt8 × List UInt8 × List UInt8 × List UInt8 × List UInt8 × List UInt8 × List UInt8 × List UInt8 × List UInt8 × List UInt8 × List UInt8 × List UInt8 × List UInt8) => (x.1, x.2.1, x.2.2.1, x.2.2.2.1, x.2.2.2.2.1, x.2.2.2.2.2.1, x.2.2.2.2.2.2.1, x.2.2.2.2.2.2.2.1, x.2.2.2.2.2.2.2.2.1, x.2.2.2.2.2.2.2.2.2.1, x.2.2.2.2.2.2.2.2.2.2.1, x.2.2.2.2.2.2.2.2.2.2.2.1, x.2.2.2.2.2.2.2.2.2.2.2.2.1, x.2.2.2.2.2.2.2.2.2.2.2.2.2.1, x.2.2.2.2.2.2.2.2.2.2.2.2.2.2.1, x.2.2.2.2.2.2.2.2.2.2.2.2.2.2.2.1, x.2.2.2.2.2.2.2.2.2.2.2.2.2.2.2.2.1, x.2.2.2.2.2.2.2.2.2.2.2.2.2.2.2.2.2.1, x.2.2.2.2.2.2.2.2.2.2.2.2.2.2.2.2.2.2.1, x.2.2.2.2.2.2.2.2.2.2.2.2.2.2.2.2.2.2.2.1, x.2.2.2.2.2.2.2.2.2.2.2.2.2.2.2.2.2.2.2.2.1, x.2.2.2.2.2.2.2.2.2.2.2.2.2.2.2.2.2.2.2.2.2.1, x.2.2.2.2.2.2.2.2.2.2.2.2.2.2.2.2.2.2.2.2.2.2.1, x.2.2.2.2.2.2.2.2.2.2.2.2.2.2.2.2.2.2.2.2.2.2.2.1, x.2.2.2.2.2.2.2.2.2.2.2.2.2.2.2.2.2.2.2.2.2.2.2.2.1, x.2.2.2.2.2.2.2.2.2.2.2.2.2.2.2.2.2.2.2.2.2.2.2.2.2.1, x.2.2.2.2.2.2.2.2.2.2.2.2.2.2.2.2.2.2.2.2.2.2.2.2.2.2.1, x.2.2.2.2.2.2.2.2.2.2.2.2.2.2.2.2.2.2.2.2.2.2.2.2.2.2.2.1, x.2.2.2.2.2.2.2.2.2.2.2.2.2.2.2.2.2.2.2.2.2.2.2.2.2.2.2.2.1, x.2.2.2.2.2.2.2.2.2.2.2.2.2.2.2.2.2.2.2.2.2.2.2.2.2.2.2.2.2.1, x.2.2.2.2.2.2.2.2.2.2.2.2.2.2.2.2.2.2.2.2.2.2.2.2.2.2.2.2.2.2.1, x.2.2.2.2.2.2.2.2.2.2.2.2.2.2.2.2.2.2.2.2.2.2.2.2.2.2.2.2.2.2.2.1, x.2.2.2.2.2.2.2.2.2.2.2.2.2.2.2.2.2.2.2.2.2.2.2.2.2.2.2.2.2.2.2.2.1, x.2.2.2.2.2.2.2.2.2.2.2.2.2.2.2.2.2.2.2.2.2.2.2.2.2.2.2.2.2.2.2.2.2.1, x.2.2.2.2.2.2.2.2.2.2.2.2.2.2.2.2.2.2.2.2.2.2.2.2.2.2.2.2.2.2.2.2.2.2)
 | _ + 12, _ => ()
def im : (t : Nat) → Tup C (F t) → C t
 | 0, (a0, a1, a2, a3, a4) => api_Token.mk a0 a1 a2 a3 a4
 | 1, (a0, a1) => api_Fault.mk a0 a1
 | 2, (a0, a1, a2, a3, a4, a5, a6) => (a0, a1, a2, a3, a4, a5, a6)
 | 3, (a0, a1, a2, a3, a4, a5, a6, a7) => api_Act.mk a0 a1 a2 a3 a4 a5 a6 a7
 | 4, (a0, a1, a2, a3, a4) => api_Expr.mk a0 a1 a2 a3 a4
 | 5, (a0, a1, a2, a3) => read_Row.mk a0 a1 (api_Fault.mk a2 a3)
 | 6, (a0, a1, a2, a3, a4) => act_reader.mk (read_Row.mk a0 a1 (api_Fault.mk a2 a3)) a4
 | 7, (a0, a1, a2, a3, a4) => expr_reader.mk (read_Row.mk a0 a1 (api_Fault.mk a2 a3)) a4
 | 8, _ => ()
 | 9, (a0, a1, a2, a3, a4, a5, a6, a7, a8, a9, a10, a11, a12) => (a0, a1, a2, a3, a4, a5, a6, a7, a8, a9, a10, a11, a12)
 | 10, (a0, a1, a2, a3, a4) => ref7_reader.mk a0 a1 a2 (api_Fault.mk a3 a4)
 | 11, (a0, a1, a2, a3, a4, a5, a6, a7, a8, a9, a10, a11, a12, a13, a14, a15, a16, a17, a18, a19, a20, a21, a22, a23, a24, a25, a26, a27, a28, a29, a30, a31, a32, a33, a34) => (a0, a1, a2, a3, a4, a5, a6, a7, a8, a9, a10, a11, a12, a13, a14, a15, a16, a17, a18, a19, a20, a21, a22, a23, a24, a25, a26, a27, a28, a29, a30, a31, a32, a33, a34)
 | _ + 12, _ => ()
def fldT : Nat → List (Nat × Ty)
 | 0 => [(0, .int .i64), (1, .int .i64), (2, .int .i64), (3, .str), (4, .int .i64)]
 | 1 => [(0, .int .i64), (1, .int .i64)]
 | 2 => rowFlds (.str) 7 0
 | 3 => [(0, .int .i64), (1, .str), (2, .str), (3, .sl (.st 4)), (4, .int .i64), (5, .sl (.st 3)), (6, .sl (.st 3)), (7, .int .i64)]
 | 4 => [(0, .int .i64), (1, .int .i64), (2, .str), (3, .sl (.st 4)), (4, .int .i64)]
 | 5 => [(0, .sl (.st 0)), (1, .int .i64), (2, .st 1)]
 | 6 => [(0, .st 5), (4, .int .i64)]
 | 7 => [(0, .st 5), (4, .int .i64)]
 | 8 => []
 | 9 => rowFlds (.str) 13 0
 | 10 => [(0, .sl (.st 0)), (1, .int .i64), (2, .int .i64), (3, .st 1)]
 | 11 => rowFlds (.str) 35 0
 | _ + 12 => []
def z : (t : Nat) → C t
 | 0 => api_Token.z
 | 1 => api_Fault.z
 | 2 => ([], [], [], [], [], [], [])
 | 3 => api_Act.z
 | 4 => api_Expr.z
 | 5 => read_Row.z
 | 6 => act_reader.z
 | 7 => expr_reader.z
 | 8 => ()
 | 9 => ([], [], [], [], [], [], [], [], [], [], [], [], [])
 | 10 => ref7_reader.z
 | 11 => ([], [], [], [], [], [], [], [], [], [], [], [], [], [], [], [], [], [], [], [], [], [], [], [], [], [], [], [], [], [], [], [], [], [], [])
 | _ + 12 => ()
def tyT : List (Nat × Ty) := [(2, .int .i64), (3, .int .i64), (4, .bool), (5, .int .u8), (9, .str), (22, .sl (.st 0)), (23, .int .i64), (25, .st 1), (30, .sl (.st 3)), (35, .sl (.int .i64)), (57, .st 0), (60, .sl (.st 4)), (62, .st 3), (65, .st 5), (67, .st 6), (72, .st 4), (124, .st 2), (164, .st 7), (168, .st 10), (179, .st 11), (189, .st 9)]
def arT : List (Nat × (Nat × Ty)) := [(124, 7, .str), (179, 35, .str), (189, 13, .str)]
def eqT : List (Nat × Unit) := [(25, ())]
def ifcT : List (Nat × Unit) := [(117, ())]
def ptT : List (Nat × Unit) := []
def spT : List (Nat × Unit) := []
abbrev S : Sen := ⟨C, F, ex, im, fun u f => (fldT u)[f]?, z, look tyT, fun t => (look ptT t).isSome, look arT, fun t => (look eqT t).isSome, fun t => (look ifcT t).isSome, [((0, 0), fun v => ∃ m, v = .int .i64 m), ((2, 0), fun v => v = .nilIface ∨ ∃ t p, v = .iface t p), ((1, 0), fun v => v = .nilIface ∨ ∃ t p, v = .iface t p)], [(3, fun ob => ∃ t f, ob = .cells (Go.Lib.pow10Tab.map fun z => Value.int .u64 z).toArray t f)], some (81, 5), fun t => (look spT t).isSome⟩
def bytT : List (Nat × Nat) := [(22, 48), (30, 128), (35, 8), (60, 64)]
def byt (t : Nat) : Nat := (look bytT t).getD 1
theorem senOk : SenOk S := ⟨fun | 0 => rfl | 1 => rfl | 2 => rfl | 3 => rfl | 4 => rfl | 5 => rfl | 6 => rfl | 7 => rfl | 8 => rfl | 9 => rfl | 10 => rfl | 11 => rfl | _ + 12 => rfl, fun | 0, _ => rfl | 1, _ => rfl | 2, _ => rfl | 3, _ => rfl | 4, _ => rfl | 5, _ => rfl | 6, _ => rfl | 7, _ => rfl | 8, _ => rfl | 9, _ => rfl | 10, _ => rfl | 11, _ => rfl | _ + 12, _ => rfl⟩
theorem ty2 : TyAt Tryz.prog S byt 2 (.int .i64) := tyAt_int rfl (by kernel_rfl) (by kernel_rfl) (by kernel_rfl)
theorem ty3 : TyAt Tryz.prog S byt 3 (.int .i64) := tyAt_int rfl (by kernel_rfl) (by kernel_rfl) (by kernel_rfl)
theorem ty4 : TyAt Tryz.prog S byt 4 (.bool) := tyAt_bool rfl (by kernel_rfl) (by kernel_rfl) (by kernel_rfl)
theorem ty5 : TyAt Tryz.prog S byt 5 (.int .u8) := tyAt_int rfl (by kernel_rfl) (by kernel_rfl) (by kernel_rfl)
theorem ty9 : TyAt Tryz.prog S byt 9 (.str) := tyAt_str rfl (by kernel_rfl) (by kernel_rfl) (by kernel_rfl)
theorem ty22 : TyAt Tryz.prog S byt 22 (.sl (.st 0)) := tyAt_sl rfl (by kernel_rfl) (by kernel_rfl) Tryz.underlying22 rfl rfl (by kernel_rfl) (by kernel_rfl)
theorem ty23 : TyAt Tryz.prog S byt 23 (.int .i64) := tyAt_int rfl (by kernel_rfl) (by kernel_rfl) (by kernel_rfl)
theorem ty25 : TyAt Tryz.prog S byt 25 (.st 1) := tyAt_st (l := fldT 1) rfl (by kernel_rfl) rfl (by kernel_rfl) (by kernel_rfl) rfl (by kernel_rfl) Tryz.underlying25 (by kernel_rfl) (fun _ => rfl) rfl
theorem ty30 : TyAt Tryz.prog S byt 30 (.sl (.st 3)) := tyAt_sl rfl (by kernel_rfl) (by kernel_rfl) Tryz.underlying30 rfl rfl (by kernel_rfl) (by kernel_rfl)
theorem ty35 : TyAt Tryz.prog S byt 35 (.sl (.int .i64)) := tyAt_sl rfl (by kernel_rfl) (by kernel_rfl) Tryz.underlying35 rfl rfl (by kernel_rfl) (by kernel_rfl)
theorem ty57 : TyAt Tryz.prog S byt 57 (.st 0) := tyAt_st (l := fldT 0) rfl (by kernel_rfl) rfl (by kernel_rfl) (by kernel_rfl) rfl (by kernel_rfl) Tryz.underlying57 (by kernel_rfl) (fun _ => rfl) rfl
theorem ty60 : TyAt Tryz.prog S byt 60 (.sl (.st 4)) := tyAt_sl rfl (by kernel_rfl) (by kernel_rfl) Tryz.underlying60 rfl rfl (by kernel_rfl) (by kernel_rfl)
theorem ty62 : TyAt Tryz.prog S byt 62 (.st 3) := tyAt_st (l := fldT 3) rfl (by kernel_rfl) rfl (by kernel_rfl) (by kernel_rfl) rfl (by kernel_rfl) Tryz.underlying62 (by kernel_rfl) (fun _ => rfl) rfl
theorem ty65 : TyAt Tryz.prog S byt 65 (.st 5) := tyAt_st (l := fldT 5) rfl (by kernel_rfl) rfl (by kernel_rfl) (by kernel_rfl) rfl (by kernel_rfl) Tryz.underlying65 (by kernel_rfl) (fun _ => rfl) rfl
theorem ty67 : TyAt Tryz.prog S byt 67 (.st 6) := tyAt_st (l := fldT 6) rfl (by kernel_rfl) rfl (by kernel_rfl) (by kernel_rfl) rfl (by kernel_rfl) Tryz.underlying67 (by kernel_rfl) (fun _ => rfl) rfl
theorem ty72 : TyAt Tryz.prog S byt 72 (.st 4) := tyAt_st (l := fldT 4) rfl (by kernel_rfl) rfl (by kernel_rfl) (by kernel_rfl) rfl (by kernel_rfl) Tryz.underlying72 (by kernel_rfl) (fun _ => rfl) rfl
theorem ty124 : TyAt Tryz.prog S byt 124 (.st 2) := tyAt_ar rfl (by kernel_rfl) rfl (by kernel_rfl) (by kernel_rfl) rfl (by kernel_rfl) Tryz.underlying124 rfl rfl rfl (by kernel_rfl) (fun _ => rfl) rfl
theorem ty164 : TyAt Tryz.prog S byt 164 (.st 7) := tyAt_st (l := fldT 7) rfl (by kernel_rfl) rfl (by kernel_rfl) (by kernel_rfl) rfl (by kernel_rfl) Tryz.underlying164 (by kernel_rfl) (fun _ => rfl) rfl
theorem ty168 : TyAt Tryz.prog S byt 168 (.st 10) := tyAt_st (l := fldT 10) rfl (by kernel_rfl) rfl (by kernel_rfl) (by kernel_rfl) rfl (by kernel_rfl) Tryz.underlying168 (by kernel_rfl) (fun _ => rfl) rfl
theorem ty179 : TyAt Tryz.prog S byt 179 (.st 11) := tyAt_ar rfl (by kernel_rfl) rfl (by kernel_rfl) (by kernel_rfl) rfl (by kernel_rfl) Tryz.underlying179 rfl rfl rfl (by kernel_rfl) (fun _ => rfl) rfl
theorem ty189 : TyAt Tryz.prog S byt 189 (.st 9) := tyAt_ar rfl (by kernel_rfl) rfl (by kernel_rfl) (by kernel_rfl) rfl (by kernel_rfl) Tryz.underlying189 rfl rfl rfl (by kernel_rfl) (fun _ => rfl) rfl
theorem progOk : ProgOk Tryz.prog S byt := ⟨senOk, fun t T h0 => by
 have h := look_mem (show look tyT t = some T from h0)
 simp only [tyT, List.mem_cons, Prod.mk.injEq, List.not_mem_nil, or_false] at h
 rcases h with ⟨rfl, rfl⟩ | ⟨rfl, rfl⟩ | ⟨rfl, rfl⟩ | ⟨rfl, rfl⟩ | ⟨rfl, rfl⟩ | ⟨rfl, rfl⟩ | ⟨rfl, rfl⟩ | ⟨rfl, rfl⟩ | ⟨rfl, rfl⟩ | ⟨rfl, rfl⟩ | ⟨rfl, rfl⟩ | ⟨rfl, rfl⟩ | ⟨rfl, rfl⟩ | ⟨rfl, rfl⟩ | ⟨rfl, rfl⟩ | ⟨rfl, rfl⟩ | ⟨rfl, rfl⟩ | ⟨rfl, rfl⟩ | ⟨rfl, rfl⟩ | ⟨rfl, rfl⟩ | ⟨rfl, rfl⟩
 · exact ty2
 · exact ty3
 · exact ty4
 · exact ty5
 · exact ty9
 · exact ty22
 · exact ty23
 · exact ty25
 · exact ty30
 · exact ty35
 · exact ty57
 · exact ty60
 · exact ty62
 · exact ty65
 · exact ty67
 · exact ty72
 · exact ty124
 · exact ty164
 · exact ty168
 · exact ty179
 · exact ty189, fun t h => by
 have h2 : ∃ u, look ptT t = some u := Option.isSome_iff_exists.1 h
 obtain ⟨u, h2⟩ := h2
 have h := look_mem h2
 simp [ptT] at h, fun t h => by
 have h2 : ∃ u, look eqT t = some u := Option.isSome_iff_exists.1 h
 obtain ⟨u, h2⟩ := h2
 have h := look_mem h2
 simp only [eqT, List.mem_cons, Prod.mk.injEq, List.not_mem_nil, or_false] at h
 rcases h with ⟨rfl, _⟩
 · exact ⟨1, rfl, ⟨_, Tryz.underlying25, eqFlds_of (by kernel_rfl)⟩, by kernel_rfl, by kernel_rfl⟩, fun t h => by
 have h2 : ∃ u, look ifcT t = some u := Option.isSome_iff_exists.1 h
 obtain ⟨u, h2⟩ := h2
 have h := look_mem h2
 simp only [ifcT, List.mem_cons, Prod.mk.injEq, List.not_mem_nil, or_false] at h
 rcases h with ⟨rfl, _⟩
 · exact ⟨_, Tryz.underlying117⟩, bt_of (by kernel_rfl) (by decide)⟩
theorem mixed : Tryz.prog.follows .mixedOrders = true := by kernel_rfl
def bz (e : Ty) : Nat := 1
def tyA : List (Nat × Ty) := [(3, .int .i64), (9, .str)]
def arA : List (Nat × (Nat × Ty)) := []
abbrev SA : Sen := S.withT (look tyA) (fun _ => false) (look arA) (fun _ => false)
theorem tyA3 : TyAt Tryz.prog SA byt 3 (.int .i64) := tyAt_int rfl (by kernel_rfl) (by kernel_rfl) (by kernel_rfl)
theorem tyA9 : TyAt Tryz.prog SA byt 9 (.str) := tyAt_str rfl (by kernel_rfl) (by kernel_rfl) (by kernel_rfl)
theorem senOkA : SenOk SA := ⟨senOk.flat, senOk.exim⟩
theorem progOkA : ProgOk Tryz.prog SA byt := ⟨senOkA, fun t e h0 => by
 have h := look_mem (show look tyA t = some (e) from h0)
 simp only [tyA, List.mem_cons, Prod.mk.injEq, List.not_mem_nil, or_false] at h
 rcases h with ⟨rfl, h⟩ | ⟨rfl, h⟩
 · subst h; exact tyA3
 · subst h; exact tyA9, fun t h => (nomatch h), fun t h => (nomatch h), progOk.ifc, progOk.bt⟩
theorem hbz : ∀ t e, SA.ty t = some (.sl e) → byt t = bz e := fun t e h0 => by
 have h := look_mem (show look tyA t = some (.sl e) from h0)
 simp only [tyA, List.mem_cons, Prod.mk.injEq, List.not_mem_nil, or_false] at h
 rcases h with ⟨rfl, h⟩ | ⟨rfl, h⟩
 · exact (nomatch h)
 · exact (nomatch h)
theorem slOk : SlOk SA := ⟨fun t e h0 => by
 have h := look_mem (show look tyA t = some (.sl e) from h0)
 simp only [tyA, List.mem_cons, Prod.mk.injEq, List.not_mem_nil, or_false] at h
 rcases h with ⟨rfl, h⟩ | ⟨rfl, h⟩
 · exact (nomatch h)
 · exact (nomatch h), fun t h0 => by
 have h := look_mem (show look tyA t = some (.pt) from h0)
 simp only [tyA, List.mem_cons, Prod.mk.injEq, List.not_mem_nil, or_false] at h
 rcases h with ⟨rfl, h⟩ | ⟨rfl, h⟩
 · exact (nomatch h)
 · exact (nomatch h)⟩
theorem stOk : StOk Tryz.prog SA := fun t e h0 => by
 have h := look_mem (show look tyA t = some (.st e) from h0)
 simp only [tyA, List.mem_cons, Prod.mk.injEq, List.not_mem_nil, or_false] at h
 rcases h with ⟨rfl, h⟩ | ⟨rfl, h⟩
 · exact (nomatch h)
 · exact (nomatch h)
abbrev s_minus_gt : List UInt8 := [45, 62]
abbrev s_eq_eq : List UInt8 := [61, 61]
abbrev s_bang_eq : List UInt8 := [33, 61]
abbrev s_lt_eq : List UInt8 := [60, 61]
abbrev s_gt_eq : List UInt8 := [62, 61]
abbrev s_amp_amp : List UInt8 := [38, 38]
abbrev s_bar_bar : List UInt8 := [124, 124]
abbrev s_x5d46a : List UInt8 := [123, 125, 40, 41, 91, 93, 59, 44, 46, 58, 61, 60, 62, 43, 45, 42, 47, 37, 33, 36]
abbrev s_raise_e_1_loop_2_x9e436 : List UInt8 := [123, 114, 97, 105, 115, 101, 32, 101, 32, 40, 32, 49, 32, 41, 59, 108, 111, 111, 112, 32, 50, 123, 125, 125]
abbrev s_sp_tab_nl_cr : List UInt8 := [32, 9, 10, 13]
abbrev s_xe6575 : List UInt8 := [45, 62, 32, 61, 61, 32, 33, 61, 32, 60, 61, 32, 62, 61, 32, 38, 38, 32, 124, 124]
abbrev s_lb : List UInt8 := [123]
abbrev s_rb : List UInt8 := [125]
abbrev s_system : List UInt8 := [115, 121, 115, 116, 101, 109]
abbrev s_age : List UInt8 := [97, 103, 101]
abbrev s_chart : List UInt8 := [99, 104, 97, 114, 116]
abbrev s_steps : List UInt8 := [115, 116, 101, 112, 115]
abbrev s_fuel : List UInt8 := [102, 117, 101, 108]
abbrev s_var : List UInt8 := [118, 97, 114]
abbrev s_port : List UInt8 := [112, 111, 114, 116]
abbrev s_timer : List UInt8 := [116, 105, 109, 101, 114]
abbrev s_state : List UInt8 := [115, 116, 97, 116, 101]
abbrev s_parallel : List UInt8 := [112, 97, 114, 97, 108, 108, 101, 108]
abbrev s_history : List UInt8 := [104, 105, 115, 116, 111, 114, 121]
abbrev s_deep : List UInt8 := [100, 101, 101, 112]
abbrev s_entry : List UInt8 := [101, 110, 116, 114, 121]
abbrev s_exit : List UInt8 := [101, 120, 105, 116]
abbrev s_on : List UInt8 := [111, 110]
abbrev s_auto : List UInt8 := [97, 117, 116, 111]
abbrev s_raise : List UInt8 := [114, 97, 105, 115, 101]
abbrev s_send : List UInt8 := [115, 101, 110, 100]
abbrev s_arm : List UInt8 := [97, 114, 109]
abbrev s_cancel : List UInt8 := [99, 97, 110, 99, 101, 108]
abbrev s_if : List UInt8 := [105, 102]
abbrev s_else : List UInt8 := [101, 108, 115, 101]
abbrev s_loop : List UInt8 := [108, 111, 111, 112]
abbrev s_in : List UInt8 := [105, 110]
abbrev s_inst : List UInt8 := [105, 110, 115, 116]
abbrev s_quantum : List UInt8 := [113, 117, 97, 110, 116, 117, 109]
abbrev s_ext : List UInt8 := [101, 120, 116]
abbrev s_prio : List UInt8 := [112, 114, 105, 111]
abbrev s_chan : List UInt8 := [99, 104, 97, 110]
abbrev s_cap : List UInt8 := [99, 97, 112]
abbrev s_cert : List UInt8 := [99, 101, 114, 116]
abbrev s_insts : List UInt8 := [105, 110, 115, 116, 115]
abbrev s_chans : List UInt8 := [99, 104, 97, 110, 115]
abbrev s_cell : List UInt8 := [99, 101, 108, 108]
abbrev s_off : List UInt8 := [111, 102, 102]
abbrev s_eq : List UInt8 := [61]
abbrev s_minus : List UInt8 := [45]
abbrev s_bang : List UInt8 := [33]
abbrev s_dollar : List UInt8 := [36]
abbrev s_lp : List UInt8 := [40]
abbrev s_rp : List UInt8 := [41]
abbrev s_lt : List UInt8 := [60]
abbrev s_gt : List UInt8 := [62]
abbrev s_plus : List UInt8 := [43]
abbrev s_star : List UInt8 := [42]
abbrev s_slash : List UInt8 := [47]
abbrev s_pct : List UInt8 := [37]
abbrev s_semi : List UInt8 := [59]
abbrev s_x_1_x697a8 : List UInt8 := [123, 120, 32, 61, 32, 49, 125]
abbrev s_lb_rb : List UInt8 := [123, 125]
abbrev s_lb_nl : List UInt8 := [123, 10]
abbrev s_sp_sp : List UInt8 := [32, 32]
abbrev s_in_xcc76e : List UInt8 := [105, 110, 40]
abbrev s_sp : List UInt8 := [32]
abbrev s_sp_eq_sp : List UInt8 := [32, 61, 32]
abbrev s_raise_x7823e : List UInt8 := [114, 97, 105, 115, 101, 32]
abbrev s_send_xe0272 : List UInt8 := [115, 101, 110, 100, 32]
abbrev s_arm_x6c666 : List UInt8 := [97, 114, 109, 32]
abbrev s_cancel_x1c990 : List UInt8 := [99, 97, 110, 99, 101, 108, 32]
abbrev s_if_xec554 : List UInt8 := [105, 102, 32]
abbrev s_else_xf7d30 : List UInt8 := [32, 101, 108, 115, 101, 32]
abbrev s_loop_xf5f27 : List UInt8 := [108, 111, 111, 112, 32]
abbrev s_raise_e_1_loop_2_x18436 : List UInt8 := [123, 10, 32, 32, 114, 97, 105, 115, 101, 32, 101, 40, 49, 41, 59, 10, 32, 32, 108, 111, 111, 112, 32, 50, 32, 123, 125, 10, 125]
abbrev arr_xb6ce8 : List UInt8 × List UInt8 × List UInt8 × List UInt8 × List UInt8 × List UInt8 × List UInt8 := (s_minus_gt, s_eq_eq, s_bang_eq, s_lt_eq, s_gt_eq, s_amp_amp, s_bar_bar)
abbrev arr_x03b7b : List UInt8 × List UInt8 × List UInt8 × List UInt8 × List UInt8 × List UInt8 × List UInt8 × List UInt8 × List UInt8 × List UInt8 × List UInt8 × List UInt8 × List UInt8 := (s_bar_bar, s_amp_amp, s_lt, s_lt_eq, s_gt, s_gt_eq, s_eq_eq, s_bang_eq, s_plus, s_minus, s_star, s_slash, s_pct)
abbrev arr_x8304b : List UInt8 × List UInt8 × List UInt8 × List UInt8 × List UInt8 × List UInt8 × List UInt8 × List UInt8 × List UInt8 × List UInt8 × List UInt8 × List UInt8 × List UInt8 × List UInt8 × List UInt8 × List UInt8 × List UInt8 × List UInt8 × List UInt8 × List UInt8 × List UInt8 × List UInt8 × List UInt8 × List UInt8 × List UInt8 × List UInt8 × List UInt8 × List UInt8 × List UInt8 × List UInt8 × List UInt8 × List UInt8 × List UInt8 × List UInt8 × List UInt8 := (s_system, s_age, s_chart, s_steps, s_fuel, s_var, s_port, s_timer, s_state, s_parallel, s_history, s_deep, s_entry, s_exit, s_on, s_auto, s_raise, s_send, s_arm, s_cancel, s_if, s_else, s_loop, s_in, s_inst, s_quantum, s_ext, s_prio, s_chan, s_cap, s_cert, s_insts, s_chans, s_cell, s_off)
end Go.Sy.Ex
namespace Go.Sy.Ex
open Go.Sy Go.Proofs
theorem glob_I {w : World} {M : St} (h : Glob S w M) : (∃ m, w.cell? ⟨0, 0, none⟩ = some (.int .i64 m)) := by
 obtain ⟨_, _, v0, c0, m, rfl⟩ := h.1 (((0, 0), fun v => ∃ m, v = .int .i64 m)) (by simp)
 exact ⟨m, c0⟩
theorem glob_R {w : World} {M : St} (h : Glob S w M) : (∃ e, w.cell? ⟨2, 0, none⟩ = some e ∧ (e = .nilIface ∨ ∃ t p, e = .iface t p)) := by
 obtain ⟨_, _, v1, c1, p1⟩ := h.1 (((2, 0), fun v => v = .nilIface ∨ ∃ t p, v = .iface t p)) (by simp)
 exact ⟨v1, c1, p1⟩
theorem glob_S {w : World} {M : St} (h : Glob S w M) : (∃ e, w.cell? ⟨1, 0, none⟩ = some e ∧ (e = .nilIface ∨ ∃ t p, e = .iface t p)) := by
 obtain ⟨_, _, v1, c1, p1⟩ := h.1 (((1, 0), fun v => v = .nilIface ∨ ∃ t p, v = .iface t p)) (by simp)
 exact ⟨v1, c1, p1⟩
theorem glob_P {w : World} {M : St} (h : Glob S w M) : Lib.TabIs Tryz.prog w "internal/strconv.uint64pow10" .u64 Lib.pow10Tab := by
 obtain ⟨_, _, ob, c3, t, f, rfl⟩ := h.2 ((3, fun ob => ∃ t f, ob = .cells (Go.Lib.pow10Tab.map fun z => Value.int .u64 z).toArray t f)) (by simp)
 unfold Lib.TabIs World.var?
 rw [show Tryz.prog.globalNamed "internal/strconv.uint64pow10" = some 3 from by kernel_rfl]
 show (match w.heap[3]? with | some (.cells cs _ _) => some cs | _ => none) = _
 rw [c3]
theorem chg_of {w w' : World} {M : St} (h : RowKit.Below w.heap.size w w') : Chg w w' M := by
 obtain ⟨a, b, c, d, e⟩ := h
 exact ⟨a, b, c, d, fun k hk _ => e k hk, fun k o hk _ => cell_of_heap (e k hk), fun k o hk hs => by rw [cell_of_heap (e k hk)]; exact hs, fun k o hk _ => frz_of_heap (e k hk)⟩
theorem str_len (l : List UInt8) : (⟨l.toArray⟩ : ByteArray).size = l.length := by show l.toArray.size = _; simp
theorem below_grow (w : World) (k : Nat) (os : Array Obj) : RowKit.Below w.heap.size w (Go.Sort.grow (w.drewN k) os) :=
 ⟨rfl, rfl, rfl, by simp [Go.Sort.grow, World.drewN], fun j hj => by simp [Go.Sort.grow, World.drewN, Array.getElem?_append, hj]⟩
theorem str_res {w : World} {s M : St} (hM : NoSt M) (r : List UInt8) : KsRel Tryz.prog S w s M [.val (.data .str)] r [.string ⟨r.toArray⟩] :=
 ⟨_, _, _, _, splitL M, rfl, ⟨⟨hM, 1, rfl⟩, rfl⟩, fun _ _ h => h, rfl⟩
noncomputable def p_IndexByte (s : List UInt8) (c : Int) : Option Int := some (Lib.indexByte s c.toNat.toUInt8)
theorem p_IndexByte_snd69 : Snd Tryz.prog S ⟨69, [.val (.data .str), .val (.data (.int .u8))], [.val (.data (.int .i64))], fun x => p_IndexByte x.1 x.2⟩ := by
 refine ⟨⟨Tryz.f69, Tryz.func69, by kernel_rfl, by kernel_rfl⟩, fun w s M (x : List UInt8 × Int) args r hx hs hG hr => ?_⟩
 obtain ⟨x, y⟩ := x
 obtain ⟨M1, M2, v, rr, _, rfl, ⟨⟨_, n, h1⟩, h2⟩, M3, M4, v', rr', _, rfl, ⟨⟨_, n', h3⟩, h4⟩, _, rfl⟩ := hx
 have hv := RepV_str (w := w) (s := s) ⟨h2, n, h1⟩
 have hv' := RepV_int (w := w) (s := s) ⟨h4, n', h3⟩
 subst hv hv'
 cases hr
 refine (Tryz.strings_IndexByte _ _ w).mono ?_
 rintro e w' ⟨rfl, rfl⟩
 exact ⟨[.int .i64 _], fun _ _ => False, fun _ _ => False, rfl, Chg.refl _ _, ⟨_, _, _, _, noSplit', rfl, ⟨⟨fun _ _ h => h, 1, rfl⟩, rfl⟩, fun _ _ h => h, rfl⟩, fun _ _ h => h.elim, fun _ _ h => h.elim⟩
noncomputable def p_Contains (s sub : List UInt8) : Option Bool := if s.length < 4294967281 then some (Lib.contains s sub) else none
theorem p_Contains_snd100 : Snd Tryz.prog S ⟨100, [.val (.data .str), .val (.data .str)], [.val (.data .bool)], fun x => p_Contains x.1 x.2⟩ := by
 refine ⟨⟨Tryz.f100, Tryz.func100, by kernel_rfl, by kernel_rfl⟩, fun w s M (x : List UInt8 × List UInt8) args r hx hs hG hr => ?_⟩
 obtain ⟨x, y⟩ := x
 obtain ⟨M1, M2, v, rr, _, rfl, ⟨⟨_, n, h1⟩, h2⟩, M3, M4, v', rr', _, rfl, ⟨⟨_, n', h3⟩, h4⟩, _, rfl⟩ := hx
 have hv := RepV_str (w := w) (s := s) ⟨h2, n, h1⟩
 have hv' := RepV_str (w := w) (s := s) ⟨h4, n', h3⟩
 subst hv hv'
 obtain ⟨m, hm⟩ := glob_I hG
 replace hr : p_Contains x y = some r := hr
 unfold p_Contains at hr
 split at hr
 · rename_i hl
   cases hr
   refine (Tryz.strings_Contains ⟨x.toArray⟩ ⟨y.toArray⟩ m w (Nat.lt_of_le_of_lt (Nat.le_of_eq (str_len _)) hl) hm).mono ?_
   rintro e w' ⟨rfl, rfl⟩
   exact ⟨[.bool _], fun _ _ => False, fun _ _ => False, rfl, Chg.refl _ _, ⟨_, _, _, _, noSplit', rfl, ⟨⟨fun _ _ h => h, 1, rfl⟩, rfl⟩, fun _ _ h => h, rfl⟩, fun _ _ h => h.elim, fun _ _ h => h.elim⟩
 · cases hr
noncomputable def p_ParseInt (s : List UInt8) (b z : Int) : Option (Int × Bool) := if s.length ≤ 281474976710656 ∧ b = 10 ∧ z = 64 then some (match Lib.parseIntB 64 s with
 | .ok v => (v, true)
 | .range => (Lib.intSat 64 s, false)
 | _ => (0, false)) else none
theorem int_err {w : World} {s M : St} (hM : NoSt M) (v : Int) (b : Bool) (e : Value) (he : ErrRel b e) : KsRel Tryz.prog S w s M [.val (.data (.int .i64)), .err] (v, b) [.int .i64 v, e] :=
 ⟨_, _, _, _, splitL M, rfl, ⟨⟨hM, 1, rfl⟩, rfl⟩, _, _, _, _, noSplit', rfl, ⟨fun _ _ h => h, he⟩, fun _ _ h => h, rfl⟩
theorem p_ParseInt_snd99 : Snd Tryz.prog S ⟨99, [.val (.data .str), .val (.data (.int .i64)), .val (.data (.int .i64))], [.val (.data (.int .i64)), .err], fun x => p_ParseInt x.1 x.2.1 x.2.2⟩ := by
 refine ⟨⟨Tryz.f99, Tryz.func99, by kernel_rfl, by kernel_rfl⟩, fun w s M (x : List UInt8 × Int × Int) args r hx hs hG hr => ?_⟩
 obtain ⟨x, y, z⟩ := x
 obtain ⟨M1, M2, v, rr, _, rfl, ⟨⟨_, n, h1⟩, h2⟩, M3, M4, v', rr', _, rfl, ⟨⟨_, n', h3⟩, h4⟩, M5, M6, v'', rr'', _, rfl, ⟨⟨_, n'', h5⟩, h6⟩, _, rfl⟩ := hx
 have hv := RepV_str (w := w) (s := s) ⟨h2, n, h1⟩
 have hv' := RepV_int (w := w) (s := s) ⟨h4, n', h3⟩
 have hv'' := RepV_int (w := w) (s := s) ⟨h6, n'', h5⟩
 subst hv hv' hv''
 obtain ⟨e1, c1, k1⟩ := glob_R hG
 obtain ⟨e0, c0, k0⟩ := glob_S hG
 replace hr : p_ParseInt x y z = some r := hr
 unfold p_ParseInt at hr
 split at hr
 · rename_i hl
   obtain ⟨hl, rfl, rfl⟩ := hl
   have hsz : (⟨x.toArray⟩ : ByteArray).size ≤ 281474976710656 := Nat.le_trans (Nat.le_of_eq (str_len x)) hl
   have hfin : ∀ (r0 : Int × Bool) (e : Value) (w' : World), ErrRel r0.2 e → RowKit.Below w.heap.size w w' → ∃ us s' M', Ending.returned (Value.tuple #[.int .i64 r0.1, e]) = .returned (retV us) ∧ Chg w w' M ∧ KsRel Tryz.prog S w' s' M' [.val (.data (.int .i64)), .err] r0 (us ++ []) ∧
    (∀ b o, s' b o → b < w'.heap.size ∧ ¬ M' b o ∧ (s b o ∨ M b o ∨ w.heap.size ≤ b)) ∧ ∀ b o, M' b o → M b o ∨ w.heap.size ≤ b := fun r0 e w' he hb =>
    ⟨[.int .i64 r0.1, e], fun _ _ => False, fun _ _ => False, rfl, chg_of hb, int_err (fun _ _ h => h) _ _ _ he, fun _ _ h => h.elim, fun _ _ h => h.elim⟩
   cases hp : Lib.parseIntB 64 x with
   | ok v =>
    rw [hp] at hr
    cases hr
    refine (Tryz.strconv_ParseInt_10_at64_ok ⟨x.toArray⟩ (by omega) v hp w).mono ?_
    rintro e w' ⟨rfl, hw⟩
    refine hfin (v, true) .nilIface w' rfl ?_
    rcases hw with rfl | ⟨t, rfl⟩
    · exact RowKit.Below.refl _ _
    · exact ⟨rfl, rfl, rfl, by rw [Lib.bytesWorld_size]; omega, fun j hj => Lib.bytesWorld_at_old w 5 t j hj⟩
   | range =>
    rw [hp] at hr
    cases hr
    refine (Tryz.strconv_ParseInt_10_at64_range ⟨x.toArray⟩ hsz hp e1 w c1 k1).mono ?_
    rintro e w' ⟨N, rfl, _, _, hb⟩
    exact hfin (_, false) _ w' ⟨_, _, rfl⟩ hb
   | _ =>
    rw [hp] at hr
    cases hr
    refine (Any.strconv_ParseInt_10_at64_syntax Tryz.laysC174 ⟨x.toArray⟩ hsz hp e0 w c0 k0).mono ?_
    rintro e w' ⟨N, rfl, _, _, hb⟩
    exact hfin (0, false) _ w' ⟨_, _, rfl⟩ hb
 · cases hr
noncomputable def p_FormatInt (n b : Int) : Option (List UInt8) := if b = 10 ∧ -9223372036854775808 ≤ n ∧ n ≤ 9223372036854775807 then some (Lib.itoa n) else none
theorem p_FormatInt_snd145 : Snd Tryz.prog S ⟨145, [.val (.data (.int .i64)), .val (.data (.int .i64))], [.val (.data .str)], fun x => p_FormatInt x.1 x.2⟩ := by
 refine ⟨⟨Tryz.f145, Tryz.func145, by kernel_rfl, by kernel_rfl⟩, fun w s M (x : Int × Int) args r hx hs hG hr => ?_⟩
 obtain ⟨x, y⟩ := x
 obtain ⟨M1, M2, v, rr, _, rfl, ⟨⟨_, n, h1⟩, h2⟩, M3, M4, v', rr', _, rfl, ⟨⟨_, n', h3⟩, h4⟩, _, rfl⟩ := hx
 have hv := RepV_int (w := w) (s := s) ⟨h2, n, h1⟩
 have hv' := RepV_int (w := w) (s := s) ⟨h4, n', h3⟩
 subst hv hv'
 have ht := glob_P hG
 replace hr : p_FormatInt x y = some r := hr
 unfold p_FormatInt at hr
 split at hr
 · rename_i hl
   obtain ⟨rfl, hl⟩ := hl
   cases hr
   refine (Tryz.strconv_FormatInt_10 x hl.1 hl.2 w ht).mono ?_
   rintro e w' ⟨rfl, k, os, rfl⟩
   exact ⟨[.string _], fun _ _ => False, fun _ _ => False, rfl, chg_of (below_grow w k os), str_res (fun _ _ h => h) _, fun _ _ h => h.elim, fun _ _ h => h.elim⟩
 · cases hr
noncomputable def p_Itoa (n : Int) : Option (List UInt8) := if -9223372036854775808 ≤ n ∧ n ≤ 9223372036854775807 then some (Lib.itoa n) else none
theorem p_Itoa_snd110 : Snd Tryz.prog S ⟨110, [.val (.data (.int .i64))], [.val (.data .str)], fun x => p_Itoa x⟩ := by
 refine ⟨⟨Tryz.f110, Tryz.func110, by kernel_rfl, by kernel_rfl⟩, fun w s M (x : Int) args r hx hs hG hr => ?_⟩
 obtain ⟨M1, M2, v, rr, _, rfl, ⟨⟨_, n, h1⟩, h2⟩, _, rfl⟩ := hx
 have hv := RepV_int (w := w) (s := s) ⟨h2, n, h1⟩
 subst hv
 have ht := glob_P hG
 replace hr : p_Itoa x = some r := hr
 unfold p_Itoa at hr
 split at hr
 · rename_i hl
   cases hr
   refine (Tryz.strconv_Itoa x hl.1 hl.2 w ht).mono ?_
   rintro e w' ⟨rfl, k, os, rfl⟩
   exact ⟨[.string _], fun _ _ => False, fun _ _ => False, rfl, chg_of (below_grow w k os), str_res (fun _ _ h => h) _, fun _ _ h => h.elim, fun _ _ h => h.elim⟩
 · cases hr
noncomputable def p_Repeat (s : List UInt8) (c : Int) : Option (List UInt8) := if 0 ≤ c ∧ c ≤ 9223372036854775807 ∧ s.length * c.toNat ≤ 140737488355328 then some (Lib.repeatL s c.toNat) else none
theorem p_Repeat_snd79 : Snd Tryz.prog S ⟨79, [.val (.data .str), .val (.data (.int .i64))], [.val (.data .str)], fun x => p_Repeat x.1 x.2⟩ := by
 refine ⟨⟨Tryz.f79, Tryz.func79, by kernel_rfl, by kernel_rfl⟩, fun w s M (x : List UInt8 × Int) args r hx hs hG hr => ?_⟩
 obtain ⟨x, y⟩ := x
 obtain ⟨M1, M2, v, rr, _, rfl, ⟨⟨_, n, h1⟩, h2⟩, M3, M4, v', rr', _, rfl, ⟨⟨_, n', h3⟩, h4⟩, _, rfl⟩ := hx
 have hv := RepV_str (w := w) (s := s) ⟨h2, n, h1⟩
 have hv' := RepV_int (w := w) (s := s) ⟨h4, n', h3⟩
 subst hv hv'
 replace hr : p_Repeat x y = some r := hr
 unfold p_Repeat at hr
 split at hr
 · rename_i hl
   obtain ⟨h0, h1', h2'⟩ := hl
   cases hr
   have hc := Tryz.strings_Repeat ⟨x.toArray⟩ y.toNat w (by omega) h2'
   rw [Int.toNat_of_nonneg h0] at hc
   refine hc.mono ?_
   rintro e w' ⟨rfl, hb⟩
   exact ⟨[.string _], fun _ _ => False, fun _ _ => False, rfl, chg_of hb, str_res (fun _ _ h => h) _, fun _ _ h => h.elim, fun _ _ h => h.elim⟩
 · cases hr
theorem p_bldStr_snd78 : Snd Tryz.prog S ⟨78, [.bld, .val (.data .str)], [.val (.data (.int .i64)), .err], fun x => bldStr x.1 x.2⟩ :=
 bldStr_snd (ρ := Tryz.lays166_ren) Tryz.lays166 Tryz.Builder_Extra_166 rfl ⟨Tryz.f78, Tryz.func78, by kernel_rfl, by kernel_rfl⟩
theorem p_bldByte_snd81 : Snd Tryz.prog S ⟨81, [.bld, .val (.data (.int .u8))], [.err], fun x => bldByte x.1 x.2⟩ :=
 bldByte_snd (ρ := Tryz.lays167_ren) Tryz.lays167 Tryz.Builder_Extra_167 rfl ⟨Tryz.f81, Tryz.func81, by kernel_rfl, by kernel_rfl⟩
theorem p_bldByte_sndD81 : SndD Tryz.prog S ⟨81, [.bld, .val (.data (.int .u8))], [.err], fun x => bldByte x.1 x.2⟩ :=
 bldByte_sndD (ρ := Tryz.lays167_ren) Tryz.lays167 Tryz.Builder_Extra_167 rfl ⟨Tryz.f81, Tryz.func81, by kernel_rfl, by kernel_rfl⟩
noncomputable def bldRead (x : List UInt8) : Option (List UInt8 × List UInt8) := some (x, x)
theorem p_bldRead_snd42 : Snd Tryz.prog S ⟨42, [.bld], [.val (.data .str)], fun x => bldRead x⟩ :=
 bldRead_snd (ρ := Tryz.lays169_ren) Tryz.lays169 Tryz.Builder_Extra_169 rfl ⟨Tryz.f42, Tryz.func42, by kernel_rfl, by kernel_rfl⟩
end Go.Sy.Ex
