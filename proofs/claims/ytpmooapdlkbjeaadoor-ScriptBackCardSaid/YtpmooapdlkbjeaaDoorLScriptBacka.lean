import Derived.Shelf.Strings.Split
import Derived.Shelf.Strings.OnBuilder
import Derived.Shelf.Strings.Builder1
import Derived.Shelf.Strconv.ParseIntPublic10
import Derived.Shelf.Strconv.Itoa4
import Derived.Shelf.Strconv.Itoa3
import Derived.Ground.NamesProg
import Derived.Lib.SplitLaws
import Derived.Lib.ItoaMem
import Derived.Lib.ParseIntB
import Derived.Test.YtpmooapdlkbjeaaDoorProg
import Derived.Test.YtpmooapdlkbjeaaDoorSc
set_option linter.unusedVariables false
set_option linter.unusedSimpArgs false
/-! The library's contracts of strings.Split, Join, strconv.ParseInt, FormatInt, Itoa, strings.Builder, laid at this program. -/
namespace Go.Proofs
open Go.Shelf
def Tryd.lays146_ren : Go.Shelf.Ren := ⟨fun | 146 => 15 | 221 => 30 | 268 => 45 | 138 => 46 | 143 => 47 | 195 => 60 | 197 => 61 | 218 => 62 | 219 => 63 | 260 => 75 | 217 => 76 | 225 => 77 | 224 => 78 | 267 => 79 | 266 => 83 | 314 => 84 | n => n, fun | 9 => 9 | 31 => 27 | 3 => 3 | 4 => 4 | 0 => 0 | 105 => 123 | 21 => 21 | 5 => 5 | 46 => 110 | 119 => 145 | 139 => 148 | 138 => 147 | 146 => 149 | 51 => 134 | n => n, fun | 1 => 3 | 3 => 4 | 4 => 5 | n => n⟩
theorem Tryd.lays146 : Go.Proofs.Lays.n146 Tryd.prog Tryd.lays146_ren := {
  mixed := by kernel_rfl
  f138 := Tryd.func46.trans (congrArg some (by kernel_rfl))
  f143 := Tryd.func47.trans (congrArg some (by kernel_rfl))
  f146 := Tryd.func15.trans (congrArg some (by kernel_rfl))
  f195 := Tryd.func60.trans (congrArg some (by kernel_rfl))
  f197 := Tryd.func61.trans (congrArg some (by kernel_rfl))
  f217 := Tryd.func76.trans (congrArg some (by kernel_rfl))
  f218 := Tryd.func62.trans (congrArg some (by kernel_rfl))
  f219 := Tryd.func63.trans (congrArg some (by kernel_rfl))
  f221 := Tryd.func30.trans (congrArg some (by kernel_rfl))
  f224 := Tryd.func78.trans (congrArg some (by kernel_rfl))
  f225 := Tryd.func77.trans (congrArg some (by kernel_rfl))
  f260 := Tryd.func75.trans (congrArg some (by kernel_rfl))
  f266 := Tryd.func83.trans (congrArg some (by kernel_rfl))
  f267 := Tryd.func79.trans (congrArg some (by kernel_rfl))
  f268 := Tryd.func45.trans (congrArg some (by kernel_rfl))
  f314 := Tryd.func84.trans (congrArg some (by kernel_rfl))
  t0 := Tryd.underlying0
  a0 := Tryd.isAgg0
  z0 := Tryd.sizeOf0
  v0 := Tryd.zeroValue0
  t3 := Tryd.underlying3
  a3 := Tryd.isAgg3
  z3 := Tryd.sizeOf3
  v3 := Tryd.zeroValue3
  t4 := Tryd.underlying4
  a4 := Tryd.isAgg4
  z4 := Tryd.sizeOf4
  v4 := Tryd.zeroValue4
  t5 := Tryd.underlying5
  a5 := Tryd.isAgg5
  z5 := Tryd.sizeOf5
  v5 := Tryd.zeroValue5
  t9 := Tryd.underlying9
  a9 := Tryd.isAgg9
  z9 := Tryd.sizeOf9
  v9 := Tryd.zeroValue9
  t21 := Tryd.underlying21
  a21 := Tryd.isAgg21
  z21 := Tryd.sizeOf21
  v21 := Tryd.zeroValue21
  t31 := Tryd.underlying27
  a31 := Tryd.isAgg27
  z31 := Tryd.sizeOf27
  v31 := Tryd.zeroValue27
  t46 := Tryd.underlying110
  a46 := Tryd.isAgg110
  z46 := Tryd.sizeOf110
  v46 := Tryd.zeroValue110
  t51 := Tryd.underlying134
  a51 := Tryd.isAgg134
  z51 := Tryd.sizeOf134
  v51 := Tryd.zeroValue134
  t105 := Tryd.underlying123
  a105 := Tryd.isAgg123
  z105 := Tryd.sizeOf123
  v105 := Tryd.zeroValue123
  t119 := Tryd.underlying145
  a119 := Tryd.isAgg145
  z119 := Tryd.sizeOf145
  t138 := Tryd.underlying147
  a138 := Tryd.isAgg147
  z138 := Tryd.sizeOf147
  v138 := Tryd.zeroValue147
  t139 := Tryd.underlying148
  a139 := Tryd.isAgg148
  z139 := Tryd.sizeOf148
  v139 := Tryd.zeroValue148
  t146 := Tryd.underlying149
  a146 := Tryd.isAgg149
  z146 := Tryd.sizeOf149
  v146 := Tryd.zeroValue149
  g1 := by kernel_rfl
  g3 := by kernel_rfl
  g4 := by kernel_rfl }
open Go.RowKit Go.Lib in
theorem Tryd.strings_Split (s sep : ByteArray) (m : Int) (w : World) (hs : s.size < 4294967281) (hm : w.cell? ⟨3, 0, none⟩ = some (.int .i64 m)) (h1 : 1 ≤ sep.size) :
    Calls Tryd.prog 15 #[.string s, .string sep] w fun e w' =>
      e = .returned (.slice (some ⟨w.heap.size, 0, none⟩) (Lib.countB s sep + 1) (Lib.countB s sep + 1)) ∧ w' = w.alloc (.cells ((Lib.splitB sep 0 (Lib.countB s sep) s).map Value.string).toArray 9) := Any.strings_Split Tryd.lays146 (by kernel_rfl) s sep m w hs hm h1
def Tryd.lays156_ren : Go.Shelf.Ren := ⟨fun | 156 => 58 | 165 => 74 | 166 => 40 | 169 => 43 | 240 => 57 | 241 => 82 | 276 => 73 | 277 => 85 | n => n, fun | 31 => 27 | 9 => 9 | 3 => 3 | 4 => 4 | 0 => 0 | 20 => 20 | 72 => 93 | 76 => 94 | 70 => 91 | 37 => 22 | 75 => 68 | 127 => 121 | 164 => 138 | 5 => 5 | 80 => 103 | n => n, fun | n => n⟩
theorem Tryd.lays156 : Go.Proofs.Lays.n156 Tryd.prog Tryd.lays156_ren := {
  mixed := by kernel_rfl
  f156 := Tryd.func58.trans (congrArg some (by kernel_rfl))
  f165 := Tryd.func74.trans (congrArg some (by kernel_rfl))
  f166 := Tryd.func40.trans (congrArg some (by kernel_rfl))
  f169 := Tryd.func43.trans (congrArg some (by kernel_rfl))
  f240 := Tryd.func57.trans (congrArg some (by kernel_rfl))
  f241 := Tryd.func82.trans (congrArg some (by kernel_rfl))
  f276 := Tryd.func73.trans (congrArg some (by kernel_rfl))
  f277 := Tryd.func85.trans (congrArg some (by kernel_rfl))
  t0 := Tryd.underlying0
  a0 := Tryd.isAgg0
  z0 := Tryd.sizeOf0
  v0 := Tryd.zeroValue0
  t3 := Tryd.underlying3
  a3 := Tryd.isAgg3
  z3 := Tryd.sizeOf3
  v3 := Tryd.zeroValue3
  t4 := Tryd.underlying4
  a4 := Tryd.isAgg4
  z4 := Tryd.sizeOf4
  v4 := Tryd.zeroValue4
  t9 := Tryd.underlying9
  a9 := Tryd.isAgg9
  z9 := Tryd.sizeOf9
  v9 := Tryd.zeroValue9
  t20 := Tryd.underlying20
  a20 := Tryd.isAgg20
  z20 := Tryd.sizeOf20
  v20 := Tryd.zeroValue20
  t31 := Tryd.underlying27
  a31 := Tryd.isAgg27
  z31 := Tryd.sizeOf27
  v31 := Tryd.zeroValue27
  t37 := Tryd.underlying22
  a37 := Tryd.isAgg22
  z37 := Tryd.sizeOf22
  v37 := Tryd.zeroValue22
  t70 := Tryd.underlying91
  a70 := Tryd.isAgg91
  z70 := Tryd.sizeOf91
  v70 := Tryd.zeroValue91
  t72 := Tryd.underlying93
  a72 := Tryd.isAgg93
  z72 := Tryd.sizeOf93
  v72 := Tryd.zeroValue93
  t75 := Tryd.underlying68
  a75 := Tryd.isAgg68
  z75 := Tryd.sizeOf68
  v75 := Tryd.zeroValue68
  t76 := Tryd.underlying94
  a76 := Tryd.isAgg94
  z76 := Tryd.sizeOf94
  v76 := Tryd.zeroValue94
  t127 := Tryd.underlying121
  a127 := Tryd.isAgg121
  z127 := Tryd.sizeOf121
  v127 := Tryd.zeroValue121
  t164 := Tryd.underlying138
  a164 := Tryd.isAgg138
  z164 := Tryd.sizeOf138
  v164 := Tryd.zeroValue138 }
theorem Tryd.Builder_Extra_156 : Builder.Extra Tryd.prog Tryd.lays156_ren := {
  sizeBuilder := by kernel_rfl
  liesBuilder := by kernel_rfl
  t5 := Tryd.underlying5
  a5 := Tryd.isAgg5
  z5 := Tryd.sizeOf5
  v5 := Tryd.zeroValue5
  infoByte := by kernel_rfl
  cellsByte := by kernel_rfl
  sizeByte := by kernel_rfl
  neB5 := by decide }
open Go.RowKit in
theorem Tryd.strings_Join (bk o c : Nat) (xs : List ByteArray) (sep : ByteArray) (w : World) (hcells : ∀ (j : Nat) x, xs[j]? = some x → w.cell? ⟨bk, o + j, none⟩ = some (.string x)) (hbk : bk < w.heap.size) (hN : xs.length ≤ 140737488355328) (hcap : xs.length ≤ c) (hlen : (Lib.join (xs.map (·.data.toList)) sep.data.toList).length ≤ 140737488355328) :
    Calls Tryd.prog 58 #[.slice (some ⟨bk, o, none⟩) xs.length c, .string sep] w fun e w' => e = .returned (.string ⟨(Lib.join (xs.map (·.data.toList)) sep.data.toList).toArray⟩) ∧ Below w.heap.size w w' := Any.strings_Join Tryd.lays156 Tryd.Builder_Extra_156 bk o c xs sep w hcells hbk hN hcap hlen
open Go.RowKit in
theorem Tryd.strings_Join_none (a : Option Addr) (c : Nat) (sep : ByteArray) (w : World) :
    Calls Tryd.prog 58 #[.slice a 0 c, .string sep] w fun e w' => e = .returned (.string ⟨#[]⟩) ∧ w' = w := Any.strings_Join_none Tryd.lays156 Tryd.Builder_Extra_156 a c sep w
def Tryd.laysC174_ren : Go.Shelf.Ren := ⟨fun | 174 => 17 | 247 => 34 | 245 => 35 | 287 => 48 | 279 => 49 | 280 => 50 | 281 => 51 | 282 => 52 | 321 => 64 | 322 => 65 | 316 => 66 | 171 => 44 | 205 => 67 | 243 => 59 | 246 => 36 | 283 => 53 | 284 => 54 | 285 => 55 | 286 => 56 | 129 => 69 | 317 => 68 | 318 => 70 | 319 => 71 | 320 => 72 | 337 => 80 | 338 => 81 | n => n, fun | 9 => 9 | 3 => 3 | 2 => 2 | 75 => 68 | 85 => 69 | 4 => 4 | 167 => 106 | 5 => 5 | 53 => 107 | 175 => 108 | 46 => 110 | 168 => 111 | 37 => 22 | 0 => 0 | 210 => 129 | 21 => 21 | 127 => 121 | 145 => 143 | 143 => 141 | 171 => 114 | 173 => 117 | 212 => 133 | 51 => 134 | 20 => 20 | 213 => 135 | 232 => 151 | 233 => 152 | 80 => 103 | n => n, fun | 15 => 0 | 16 => 1 | 17 => 2 | 18 => 6 | 19 => 7 | n => n⟩
theorem Tryd.laysC174 : Go.Proofs.LaysC.n174 Tryd.prog Tryd.laysC174_ren := {
  mixed := by kernel_rfl
  f129 := Tryd.func69.trans (congrArg some (by kernel_rfl))
  f171 := Tryd.func44.trans (congrArg some (by kernel_rfl))
  f174 := Tryd.func17.trans (congrArg some (by kernel_rfl))
  f205 := Tryd.func67.trans (congrArg some (by kernel_rfl))
  f243 := Tryd.func59.trans (congrArg some (by kernel_rfl))
  f245 := Tryd.func35.trans (congrArg some (by kernel_rfl))
  f246 := Tryd.func36.trans (congrArg some (by kernel_rfl))
  f247 := Tryd.func34.trans (congrArg some (by kernel_rfl))
  f279 := Tryd.func49.trans (congrArg some (by kernel_rfl))
  f280 := Tryd.func50.trans (congrArg some (by kernel_rfl))
  f281 := Tryd.func51.trans (congrArg some (by kernel_rfl))
  f282 := Tryd.func52.trans (congrArg some (by kernel_rfl))
  f283 := Tryd.func53.trans (congrArg some (by kernel_rfl))
  f284 := Tryd.func54.trans (congrArg some (by kernel_rfl))
  f285 := Tryd.func55.trans (congrArg some (by kernel_rfl))
  f286 := Tryd.func56.trans (congrArg some (by kernel_rfl))
  f287 := Tryd.func48.trans (congrArg some (by kernel_rfl))
  f316 := Tryd.func66.trans (congrArg some (by kernel_rfl))
  f317 := Tryd.func68.trans (congrArg some (by kernel_rfl))
  f318 := Tryd.func70.trans (congrArg some (by kernel_rfl))
  f319 := Tryd.func71.trans (congrArg some (by kernel_rfl))
  f320 := Tryd.func72.trans (congrArg some (by kernel_rfl))
  f321 := Tryd.func64.trans (congrArg some (by kernel_rfl))
  f322 := Tryd.func65.trans (congrArg some (by kernel_rfl))
  f337 := Tryd.func80.trans (congrArg some (by kernel_rfl))
  f338 := Tryd.func81.trans (congrArg some (by kernel_rfl))
  t0 := Tryd.underlying0
  a0 := Tryd.isAgg0
  z0 := Tryd.sizeOf0
  v0 := Tryd.zeroValue0
  t2 := Tryd.underlying2
  a2 := Tryd.isAgg2
  z2 := Tryd.sizeOf2
  v2 := Tryd.zeroValue2
  t3 := Tryd.underlying3
  a3 := Tryd.isAgg3
  z3 := Tryd.sizeOf3
  v3 := Tryd.zeroValue3
  t4 := Tryd.underlying4
  a4 := Tryd.isAgg4
  z4 := Tryd.sizeOf4
  v4 := Tryd.zeroValue4
  t5 := Tryd.underlying5
  a5 := Tryd.isAgg5
  z5 := Tryd.sizeOf5
  v5 := Tryd.zeroValue5
  t9 := Tryd.underlying9
  a9 := Tryd.isAgg9
  z9 := Tryd.sizeOf9
  v9 := Tryd.zeroValue9
  t20 := Tryd.underlying20
  a20 := Tryd.isAgg20
  z20 := Tryd.sizeOf20
  v20 := Tryd.zeroValue20
  t21 := Tryd.underlying21
  a21 := Tryd.isAgg21
  z21 := Tryd.sizeOf21
  v21 := Tryd.zeroValue21
  t37 := Tryd.underlying22
  a37 := Tryd.isAgg22
  z37 := Tryd.sizeOf22
  v37 := Tryd.zeroValue22
  t46 := Tryd.underlying110
  a46 := Tryd.isAgg110
  z46 := Tryd.sizeOf110
  v46 := Tryd.zeroValue110
  t51 := Tryd.underlying134
  a51 := Tryd.isAgg134
  z51 := Tryd.sizeOf134
  v51 := Tryd.zeroValue134
  t53 := Tryd.underlying107
  a53 := Tryd.isAgg107
  z53 := Tryd.sizeOf107
  v53 := Tryd.zeroValue107
  t75 := Tryd.underlying68
  a75 := Tryd.isAgg68
  z75 := Tryd.sizeOf68
  v75 := Tryd.zeroValue68
  t85 := Tryd.underlying69
  a85 := Tryd.isAgg69
  z85 := Tryd.sizeOf69
  v85 := Tryd.zeroValue69
  t127 := Tryd.underlying121
  a127 := Tryd.isAgg121
  z127 := Tryd.sizeOf121
  v127 := Tryd.zeroValue121
  t143 := Tryd.underlying141
  a143 := Tryd.isAgg141
  z143 := Tryd.sizeOf141
  v143 := Tryd.zeroValue141
  t145 := Tryd.underlying143
  a145 := Tryd.isAgg143
  z145 := Tryd.sizeOf143
  v145 := Tryd.zeroValue143
  t167 := Tryd.underlying106
  a167 := Tryd.isAgg106
  z167 := Tryd.sizeOf106
  v167 := Tryd.zeroValue106
  t168 := Tryd.underlying111
  a168 := Tryd.isAgg111
  z168 := Tryd.sizeOf111
  v168 := Tryd.zeroValue111
  t171 := Tryd.underlying114
  a171 := Tryd.isAgg114
  z171 := Tryd.sizeOf114
  v171 := Tryd.zeroValue114
  t173 := Tryd.underlying117
  a173 := Tryd.isAgg117
  z173 := Tryd.sizeOf117
  v173 := Tryd.zeroValue117
  t175 := Tryd.underlying108
  a175 := Tryd.isAgg108
  z175 := Tryd.sizeOf108
  v175 := Tryd.zeroValue108
  t210 := Tryd.underlying129
  a210 := Tryd.isAgg129
  z210 := Tryd.sizeOf129
  v210 := Tryd.zeroValue129
  t212 := Tryd.underlying133
  a212 := Tryd.isAgg133
  z212 := Tryd.sizeOf133
  v212 := Tryd.zeroValue133
  t213 := Tryd.underlying135
  a213 := Tryd.isAgg135
  z213 := Tryd.sizeOf135
  t232 := Tryd.underlying151
  a232 := Tryd.isAgg151
  z232 := Tryd.sizeOf151
  v232 := Tryd.zeroValue151
  t233 := Tryd.underlying152
  a233 := Tryd.isAgg152
  z233 := Tryd.sizeOf152
  v233 := Tryd.zeroValue152
  g15 := by kernel_rfl
  g16 := by kernel_rfl
  g17 := by kernel_rfl
  g18 := by kernel_rfl
  g19 := by kernel_rfl
  t80 := Tryd.underlying103
  a80 := Tryd.isAgg103
  z80 := Tryd.sizeOf103
  v80 := Tryd.zeroValue103
  i0 := by kernel_rfl
  i2 := by kernel_rfl
  i3 := by kernel_rfl
  i4 := by kernel_rfl
  i5 := by kernel_rfl
  i9 := by kernel_rfl
  i20 := by kernel_rfl
  i21 := by kernel_rfl
  i37 := by kernel_rfl
  i46 := by kernel_rfl
  i51 := by kernel_rfl
  i53 := by kernel_rfl
  i75 := by kernel_rfl
  i80 := by kernel_rfl
  i85 := by kernel_rfl
  i127 := by kernel_rfl
  i143 := by kernel_rfl
  i145 := by kernel_rfl
  i167 := by kernel_rfl
  i168 := by kernel_rfl
  i171 := by kernel_rfl
  i173 := by kernel_rfl
  i175 := by kernel_rfl
  i210 := by kernel_rfl
  i212 := by kernel_rfl
  i232 := by kernel_rfl
  i233 := by kernel_rfl
  m15 := by kernel_rfl
  m16 := by kernel_rfl
  m17 := by kernel_rfl
  m18 := by kernel_rfl
  m19 := by kernel_rfl
  c0 := by kernel_rfl
  c2 := by kernel_rfl
  c3 := by kernel_rfl
  c4 := by kernel_rfl
  c5 := by kernel_rfl
  c9 := by kernel_rfl
  c20 := by kernel_rfl
  c21 := by kernel_rfl
  c37 := by kernel_rfl
  c46 := by kernel_rfl
  c51 := by kernel_rfl
  c53 := by kernel_rfl
  c75 := by kernel_rfl
  c80 := by kernel_rfl
  c85 := by kernel_rfl
  c127 := by kernel_rfl
  c143 := by kernel_rfl
  c145 := by kernel_rfl
  c167 := by kernel_rfl
  c168 := by kernel_rfl
  c171 := by kernel_rfl
  c173 := by kernel_rfl
  c175 := by kernel_rfl
  c210 := by kernel_rfl
  c212 := by kernel_rfl
  c213 := by kernel_rfl
  c232 := by kernel_rfl
  c233 := by kernel_rfl }
open Go.RowKit in
theorem Tryd.strconv_ParseInt_10_at64_ok (s : ByteArray) (hmax : s.size ≤ 9223372036854775806) (v : Int) (h : Lib.parseIntB 64 s.data.toList = .ok v) (w : World) :
    Calls Tryd.prog 17 #[.string s, .int .i64 10, .int .i64 64] w fun e w' => e = .returned (.tuple #[.int .i64 v, .nilIface]) ∧ (w' = w ∨ ∃ t, w' = Lib.bytesWorld w 5 t) := Any.strconv_ParseInt_10_at64_ok Tryd.laysC174 s hmax v h w
open Go.RowKit in
theorem Tryd.strconv_ParseInt_10_at64_range (s : ByteArray) (hlim : s.size ≤ 281474976710656) (h : Lib.parseIntB 64 s.data.toList = .range) (ev : Value) (w : World) (hv : w.cell? ⟨1, 0, none⟩ = some ev) (hev : ev = .nilIface ∨ ∃ te pe, ev = .iface te pe) :
    Calls Tryd.prog 17 #[.string s, .int .i64 10, .int .i64 64] w fun e w' => ∃ N, e = .returned (.tuple #[.int .i64 (Lib.intSat 64 s.data.toList), .iface 111 (.pointer (some ⟨N, 0, none⟩))]) ∧ w.heap.size ≤ N ∧ w'.heap[N]? = some (.cells #[.string ⟨#[80, 97, 114, 115, 101, 73, 110, 116]⟩, .string s, ev] 129 (0, 0)) ∧ Below w.heap.size w w' := Any.strconv_ParseInt_10_at64_range Tryd.laysC174 s hlim h ev w hv hev
def Tryd.laysM173_ren : Go.Shelf.Ren := ⟨fun | 173 => 18 | 246 => 36 | 283 => 53 | 284 => 54 | 285 => 55 | 286 => 56 | 129 => 69 | 317 => 68 | 318 => 70 | 319 => 71 | 320 => 72 | 337 => 80 | 338 => 81 | n => n, fun | 2 => 2 | 3 => 3 | 9 => 9 | 4 => 4 | 171 => 114 | 0 => 0 | 53 => 107 | 37 => 22 | 5 => 5 | 173 => 117 | 212 => 133 | 51 => 134 | 20 => 20 | 213 => 135 | 46 => 110 | 232 => 151 | 233 => 152 | n => n, fun | 17 => 2 | 18 => 6 | 19 => 7 | n => n⟩
theorem Tryd.laysM173 : Go.Proofs.LaysM.n173 Tryd.prog Tryd.laysM173_ren := {
  mixed := by kernel_rfl
  f129 := Tryd.func69.trans (congrArg some (by kernel_rfl))
  f173 := Tryd.func18.trans (congrArg some (by kernel_rfl))
  f246 := Tryd.func36.trans (congrArg some (by kernel_rfl))
  f283 := Tryd.func53.trans (congrArg some (by kernel_rfl))
  f284 := Tryd.func54.trans (congrArg some (by kernel_rfl))
  f285 := Tryd.func55.trans (congrArg some (by kernel_rfl))
  f286 := Tryd.func56.trans (congrArg some (by kernel_rfl))
  f317 := Tryd.func68.trans (congrArg some (by kernel_rfl))
  f318 := Tryd.func70.trans (congrArg some (by kernel_rfl))
  f319 := Tryd.func71.trans (congrArg some (by kernel_rfl))
  f320 := Tryd.func72.trans (congrArg some (by kernel_rfl))
  f337 := Tryd.func80.trans (congrArg some (by kernel_rfl))
  f338 := Tryd.func81.trans (congrArg some (by kernel_rfl))
  t0 := Tryd.underlying0
  a0 := Tryd.isAgg0
  z0 := Tryd.sizeOf0
  v0 := Tryd.zeroValue0
  t2 := Tryd.underlying2
  a2 := Tryd.isAgg2
  z2 := Tryd.sizeOf2
  v2 := Tryd.zeroValue2
  t3 := Tryd.underlying3
  a3 := Tryd.isAgg3
  z3 := Tryd.sizeOf3
  v3 := Tryd.zeroValue3
  t4 := Tryd.underlying4
  a4 := Tryd.isAgg4
  z4 := Tryd.sizeOf4
  v4 := Tryd.zeroValue4
  t5 := Tryd.underlying5
  a5 := Tryd.isAgg5
  z5 := Tryd.sizeOf5
  v5 := Tryd.zeroValue5
  t9 := Tryd.underlying9
  a9 := Tryd.isAgg9
  z9 := Tryd.sizeOf9
  v9 := Tryd.zeroValue9
  t20 := Tryd.underlying20
  a20 := Tryd.isAgg20
  z20 := Tryd.sizeOf20
  v20 := Tryd.zeroValue20
  t37 := Tryd.underlying22
  a37 := Tryd.isAgg22
  z37 := Tryd.sizeOf22
  v37 := Tryd.zeroValue22
  t46 := Tryd.underlying110
  a46 := Tryd.isAgg110
  z46 := Tryd.sizeOf110
  v46 := Tryd.zeroValue110
  t51 := Tryd.underlying134
  a51 := Tryd.isAgg134
  z51 := Tryd.sizeOf134
  v51 := Tryd.zeroValue134
  t53 := Tryd.underlying107
  a53 := Tryd.isAgg107
  z53 := Tryd.sizeOf107
  v53 := Tryd.zeroValue107
  t171 := Tryd.underlying114
  a171 := Tryd.isAgg114
  z171 := Tryd.sizeOf114
  v171 := Tryd.zeroValue114
  t173 := Tryd.underlying117
  a173 := Tryd.isAgg117
  z173 := Tryd.sizeOf117
  v173 := Tryd.zeroValue117
  t212 := Tryd.underlying133
  a212 := Tryd.isAgg133
  z212 := Tryd.sizeOf133
  v212 := Tryd.zeroValue133
  t213 := Tryd.underlying135
  a213 := Tryd.isAgg135
  z213 := Tryd.sizeOf135
  t232 := Tryd.underlying151
  a232 := Tryd.isAgg151
  z232 := Tryd.sizeOf151
  v232 := Tryd.zeroValue151
  t233 := Tryd.underlying152
  a233 := Tryd.isAgg152
  z233 := Tryd.sizeOf152
  v233 := Tryd.zeroValue152
  g17 := by kernel_rfl
  g18 := by kernel_rfl
  g19 := by kernel_rfl
  i0 := by kernel_rfl
  i2 := by kernel_rfl
  i3 := by kernel_rfl
  i4 := by kernel_rfl
  i5 := by kernel_rfl
  i9 := by kernel_rfl
  i20 := by kernel_rfl
  i37 := by kernel_rfl
  i46 := by kernel_rfl
  i51 := by kernel_rfl
  i53 := by kernel_rfl
  i171 := by kernel_rfl
  i173 := by kernel_rfl
  i212 := by kernel_rfl
  i232 := by kernel_rfl
  i233 := by kernel_rfl
  m17 := by kernel_rfl
  m18 := by kernel_rfl
  m19 := by kernel_rfl }
open Go.RowKit Go.Sort Go.Lib in
theorem Tryd.strconv_FormatInt_10 (n : Int) (h0 : -9223372036854775808 ≤ n) (h1 : n ≤ 9223372036854775807) (w : World) (htab : Lib.TabIs Tryd.prog w "internal/strconv.uint64pow10" .u64 Lib.pow10Tab) :
    Calls Tryd.prog 18 #[.int .i64 n, .int .i64 10] w fun e w' => e = .returned (.string ⟨(Lib.itoa n).toArray⟩) ∧ ∃ k os, w' = grow (w.drewN k) os := Any.strconv_FormatInt_10 Tryd.laysM173 n h0 h1 w htab
def Tryd.laysM171_ren : Go.Shelf.Ren := ⟨fun | 171 => 44 | 243 => 59 | 246 => 36 | 283 => 53 | 284 => 54 | 285 => 55 | 286 => 56 | 129 => 69 | 317 => 68 | 318 => 70 | 319 => 71 | 320 => 72 | 337 => 80 | 338 => 81 | n => n, fun | 3 => 3 | 9 => 9 | 2 => 2 | 4 => 4 | 171 => 114 | 0 => 0 | 53 => 107 | 37 => 22 | 5 => 5 | 173 => 117 | 212 => 133 | 51 => 134 | 20 => 20 | 213 => 135 | 46 => 110 | 232 => 151 | 233 => 152 | n => n, fun | 17 => 2 | 18 => 6 | 19 => 7 | n => n⟩
theorem Tryd.laysM171 : Go.Proofs.LaysM.n171 Tryd.prog Tryd.laysM171_ren := {
  mixed := by kernel_rfl
  f129 := Tryd.func69.trans (congrArg some (by kernel_rfl))
  f171 := Tryd.func44.trans (congrArg some (by kernel_rfl))
  f243 := Tryd.func59.trans (congrArg some (by kernel_rfl))
  f246 := Tryd.func36.trans (congrArg some (by kernel_rfl))
  f283 := Tryd.func53.trans (congrArg some (by kernel_rfl))
  f284 := Tryd.func54.trans (congrArg some (by kernel_rfl))
  f285 := Tryd.func55.trans (congrArg some (by kernel_rfl))
  f286 := Tryd.func56.trans (congrArg some (by kernel_rfl))
  f317 := Tryd.func68.trans (congrArg some (by kernel_rfl))
  f318 := Tryd.func70.trans (congrArg some (by kernel_rfl))
  f319 := Tryd.func71.trans (congrArg some (by kernel_rfl))
  f320 := Tryd.func72.trans (congrArg some (by kernel_rfl))
  f337 := Tryd.func80.trans (congrArg some (by kernel_rfl))
  f338 := Tryd.func81.trans (congrArg some (by kernel_rfl))
  t0 := Tryd.underlying0
  a0 := Tryd.isAgg0
  z0 := Tryd.sizeOf0
  v0 := Tryd.zeroValue0
  t2 := Tryd.underlying2
  a2 := Tryd.isAgg2
  z2 := Tryd.sizeOf2
  v2 := Tryd.zeroValue2
  t3 := Tryd.underlying3
  a3 := Tryd.isAgg3
  z3 := Tryd.sizeOf3
  v3 := Tryd.zeroValue3
  t4 := Tryd.underlying4
  a4 := Tryd.isAgg4
  z4 := Tryd.sizeOf4
  v4 := Tryd.zeroValue4
  t5 := Tryd.underlying5
  a5 := Tryd.isAgg5
  z5 := Tryd.sizeOf5
  v5 := Tryd.zeroValue5
  t9 := Tryd.underlying9
  a9 := Tryd.isAgg9
  z9 := Tryd.sizeOf9
  v9 := Tryd.zeroValue9
  t20 := Tryd.underlying20
  a20 := Tryd.isAgg20
  z20 := Tryd.sizeOf20
  v20 := Tryd.zeroValue20
  t37 := Tryd.underlying22
  a37 := Tryd.isAgg22
  z37 := Tryd.sizeOf22
  v37 := Tryd.zeroValue22
  t46 := Tryd.underlying110
  a46 := Tryd.isAgg110
  z46 := Tryd.sizeOf110
  v46 := Tryd.zeroValue110
  t51 := Tryd.underlying134
  a51 := Tryd.isAgg134
  z51 := Tryd.sizeOf134
  v51 := Tryd.zeroValue134
  t53 := Tryd.underlying107
  a53 := Tryd.isAgg107
  z53 := Tryd.sizeOf107
  v53 := Tryd.zeroValue107
  t171 := Tryd.underlying114
  a171 := Tryd.isAgg114
  z171 := Tryd.sizeOf114
  v171 := Tryd.zeroValue114
  t173 := Tryd.underlying117
  a173 := Tryd.isAgg117
  z173 := Tryd.sizeOf117
  v173 := Tryd.zeroValue117
  t212 := Tryd.underlying133
  a212 := Tryd.isAgg133
  z212 := Tryd.sizeOf133
  v212 := Tryd.zeroValue133
  t213 := Tryd.underlying135
  a213 := Tryd.isAgg135
  z213 := Tryd.sizeOf135
  t232 := Tryd.underlying151
  a232 := Tryd.isAgg151
  z232 := Tryd.sizeOf151
  v232 := Tryd.zeroValue151
  t233 := Tryd.underlying152
  a233 := Tryd.isAgg152
  z233 := Tryd.sizeOf152
  v233 := Tryd.zeroValue152
  g17 := by kernel_rfl
  g18 := by kernel_rfl
  g19 := by kernel_rfl
  i0 := by kernel_rfl
  i2 := by kernel_rfl
  i3 := by kernel_rfl
  i4 := by kernel_rfl
  i5 := by kernel_rfl
  i9 := by kernel_rfl
  i20 := by kernel_rfl
  i37 := by kernel_rfl
  i46 := by kernel_rfl
  i51 := by kernel_rfl
  i53 := by kernel_rfl
  i171 := by kernel_rfl
  i173 := by kernel_rfl
  i212 := by kernel_rfl
  i232 := by kernel_rfl
  i233 := by kernel_rfl
  m17 := by kernel_rfl
  m18 := by kernel_rfl
  m19 := by kernel_rfl }
open Go.RowKit Go.Sort Go.Lib in
theorem Tryd.strconv_Itoa (n : Int) (h0 : -9223372036854775808 ≤ n) (h1 : n ≤ 9223372036854775807) (w : World) (htab : Lib.TabIs Tryd.prog w "internal/strconv.uint64pow10" .u64 Lib.pow10Tab) :
    Calls Tryd.prog 44 #[.int .i64 n] w fun e w' => e = .returned (.string ⟨(Lib.itoa n).toArray⟩) ∧ ∃ k os, w' = grow (w.drewN k) os := Any.strconv_Itoa Tryd.laysM171 n h0 h1 w htab
def Tryd.lays169_ren : Go.Shelf.Ren := ⟨fun | 169 => 43 | n => n, fun | 70 => 91 | 9 => 9 | 0 => 0 | 72 => 93 | 37 => 22 | 127 => 121 | 3 => 3 | 5 => 5 | n => n, fun | n => n⟩
theorem Tryd.lays169 : Go.Proofs.Lays.n169 Tryd.prog Tryd.lays169_ren := {
  mixed := by kernel_rfl
  f169 := Tryd.func43.trans (congrArg some (by kernel_rfl))
  t0 := Tryd.underlying0
  a0 := Tryd.isAgg0
  z0 := Tryd.sizeOf0
  v0 := Tryd.zeroValue0
  t3 := Tryd.underlying3
  a3 := Tryd.isAgg3
  z3 := Tryd.sizeOf3
  v3 := Tryd.zeroValue3
  t9 := Tryd.underlying9
  a9 := Tryd.isAgg9
  z9 := Tryd.sizeOf9
  v9 := Tryd.zeroValue9
  t37 := Tryd.underlying22
  a37 := Tryd.isAgg22
  z37 := Tryd.sizeOf22
  v37 := Tryd.zeroValue22
  t70 := Tryd.underlying91
  a70 := Tryd.isAgg91
  z70 := Tryd.sizeOf91
  v70 := Tryd.zeroValue91
  t72 := Tryd.underlying93
  a72 := Tryd.isAgg93
  z72 := Tryd.sizeOf93
  v72 := Tryd.zeroValue93
  t127 := Tryd.underlying121
  a127 := Tryd.isAgg121
  z127 := Tryd.sizeOf121
  v127 := Tryd.zeroValue121 }
theorem Tryd.Builder_Extra_169 : Builder.Extra Tryd.prog Tryd.lays169_ren := {
  sizeBuilder := by kernel_rfl
  liesBuilder := by kernel_rfl
  t5 := Tryd.underlying5
  a5 := Tryd.isAgg5
  z5 := Tryd.sizeOf5
  v5 := Tryd.zeroValue5
  infoByte := by kernel_rfl
  cellsByte := by kernel_rfl
  sizeByte := by kernel_rfl
  neB5 := by decide }
open Go.RowKit in
theorem Tryd.Builder_String_any (B b : Nat) (l : List UInt8) (w : World) (h : Lib.IsBuilder 93 5 B b (Lib.byteCells l) w) (hBw : B ≤ w.heap.size) :
    Calls Tryd.prog 43 #[.pointer (some ⟨b, 0, none⟩)] w fun e w' => e = .returned (.string ⟨l.toArray⟩) ∧ Below B w w' := Any.Builder_String_any Tryd.lays169 Tryd.Builder_Extra_169 B b l w h hBw
end Go.Proofs
set_option maxRecDepth 100000
namespace Go.Sy.Sc
open Go.Sy Go.Proofs
structure api_Node where
  Kind : Int
  Parent : Int
  Last : Int
  Init : Int
  Entry : Int
  Exit : Int
  Name : List UInt8
  deriving DecidableEq
def api_Node.z : api_Node := ⟨0, 0, 0, 0, 0, 0, []⟩
structure api_Edge where
  From : Int
  To : Int
  Dom : Int
  Guard : Int
  Acts : Int
  Event : List UInt8
  deriving DecidableEq
def api_Edge.z : api_Edge := ⟨0, 0, 0, 0, 0, []⟩
structure api_Ins where
  Op : Int
  A : Int
  N : Int
  S : List UInt8
  deriving DecidableEq
def api_Ins.z : api_Ins := ⟨0, 0, 0, []⟩
structure api_Table where
  Name : List UInt8
  Steps : Int
  Fuel : Int
  Vars : List Int
  Ports : List (List UInt8)
  Timers : List (List UInt8)
  Nodes : List api_Node
  Edges : List api_Edge
  Codes : List (List api_Ins)
  deriving DecidableEq
def api_Table.z : api_Table := ⟨[], 0, 0, [], [], [], [], [], []⟩
structure api_Part where
  Chart : Int
  Quantum : Int
  Ext : Int
  Prio : Int
  Out : List Int
  In : List Int
  deriving DecidableEq
def api_Part.z : api_Part := ⟨0, 0, 0, 0, [], []⟩
structure api_Line where
  From : Int
  Port : Int
  To : Int
  Cap : Int
  Prio : Int
  deriving DecidableEq
def api_Line.z : api_Line := ⟨0, 0, 0, 0, 0⟩
structure api_Net where
  Age : Int
  Tables : List api_Table
  Parts : List api_Part
  Lines : List api_Line
  Insts : List (List UInt8)
  Chans : List (List UInt8)
  deriving DecidableEq
def api_Net.z : api_Net := ⟨0, [], [], [], [], []⟩
structure api_Msg where
  Event : List UInt8
  N : Int
  deriving DecidableEq
def api_Msg.z : api_Msg := ⟨[], 0⟩
structure api_Op where
  Kind : Int
  Inst : Int
  Msg : api_Msg
  deriving DecidableEq
def api_Op.z : api_Op := ⟨0, 0, api_Msg.z⟩
structure api_Effect where
  Kind : Int
  A : Int
  Msg : api_Msg
  deriving DecidableEq
def api_Effect.z : api_Effect := ⟨0, 0, api_Msg.z⟩
structure api_Gone where
  Where : Int
  Msg : api_Msg
  deriving DecidableEq
def api_Gone.z : api_Gone := ⟨0, api_Msg.z⟩
structure api_Fired where
  Inst : Int
  Timer : Int
  deriving DecidableEq
def api_Fired.z : api_Fired := ⟨0, 0⟩
structure api_Rec where
  Kind : Int
  Inst : Int
  Queue : Int
  Code : Int
  Msg : api_Msg
  Effects : List api_Effect
  Conf : List Int
  Vars : List Int
  Cost : Int
  Gone : List api_Gone
  Fired : List api_Fired
  deriving DecidableEq
def api_Rec.z : api_Rec := ⟨0, 0, 0, 0, api_Msg.z, [], [], [], 0, [], []⟩
structure api_Life where
  Conf : List Int
  Vars : List Int
  Hist : List (List Int)
  deriving DecidableEq
def api_Life.z : api_Life := ⟨[], [], []⟩
def C : Nat → Type
  | 0 => api_Net
  | 1 => api_Table
  | 2 => api_Node
  | 3 => api_Edge
  | 4 => api_Ins
  | 5 => api_Part
  | 6 => api_Line
  | 7 => api_Op
  | 8 => api_Msg
  | 9 => api_Rec
  | 10 => api_Effect
  | 11 => api_Gone
  | 12 => api_Fired
  | 13 => Unit
  | 14 => api_Life
  | 15 => List UInt8 × List UInt8 × List UInt8 × List UInt8 × List UInt8 × List UInt8 × List UInt8 × List UInt8 × List UInt8 × List UInt8 × List UInt8 × List UInt8 × List UInt8 × List UInt8 × List UInt8 × List UInt8
  | 16 => List UInt8 × List UInt8 × List UInt8
  | 17 => List UInt8 × List UInt8 × List UInt8 × List UInt8 × List UInt8 × List UInt8 × List UInt8 × List UInt8 × List UInt8 × List UInt8 × List UInt8 × List UInt8 × List UInt8 × List UInt8 × List UInt8 × List UInt8 × List UInt8 × List UInt8 × List UInt8 × List UInt8 × List UInt8 × List UInt8 × List UInt8 × List UInt8 × List UInt8 × List UInt8 × List UInt8 × List UInt8 × List UInt8 × List UInt8 × List UInt8 × List UInt8 × List UInt8 × List UInt8 × List UInt8
  | 18 => List UInt8 × List UInt8 × List UInt8 × List UInt8 × List UInt8 × List UInt8 × List UInt8 × List UInt8
  | 19 => Int × Int × List UInt8 × Int × Int × Int × List UInt8 × Int
  | _ + 20 => Unit
def F : Nat → List Ty
  | 0 => [.int .i64, .sl (.st 1), .sl (.st 5), .sl (.st 6), .sl .str, .sl .str]
  | 1 => [.str, .int .i64, .int .i64, .sl (.int .i64), .sl .str, .sl .str, .sl (.st 2), .sl (.st 3), .sl (.sl (.st 4))]
  | 2 => [.int .i64, .int .i64, .int .i64, .int .i64, .int .i64, .int .i64, .str]
  | 3 => [.int .i64, .int .i64, .int .i64, .int .i64, .int .i64, .str]
  | 4 => [.int .i64, .int .i64, .int .i64, .str]
  | 5 => [.int .i64, .int .i64, .int .i64, .int .i64, .sl (.int .i64), .sl (.int .i64)]
  | 6 => [.int .i64, .int .i64, .int .i64, .int .i64, .int .i64]
  | 7 => [.int .i64, .int .i64, .str, .int .i64]
  | 8 => [.str, .int .i64]
  | 9 => [.int .i64, .int .i64, .int .i64, .int .i64, .str, .int .i64, .sl (.st 10), .sl (.int .i64), .sl (.int .i64), .int .i64, .sl (.st 11), .sl (.st 12)]
  | 10 => [.int .i64, .int .i64, .str, .int .i64]
  | 11 => [.int .i64, .str, .int .i64]
  | 12 => [.int .i64, .int .i64]
  | 13 => []
  | 14 => [.sl (.int .i64), .sl (.int .i64), .sl (.sl (.int .i64))]
  | 15 => [.str, .str, .str, .str, .str, .str, .str, .str, .str, .str, .str, .str, .str, .str, .str, .str]
  | 16 => [.str, .str, .str]
  | 17 => [.str, .str, .str, .str, .str, .str, .str, .str, .str, .str, .str, .str, .str, .str, .str, .str, .str, .str, .str, .str, .str, .str, .str, .str, .str, .str, .str, .str, .str, .str, .str, .str, .str, .str, .str]
  | 18 => [.str, .str, .str, .str, .str, .str, .str, .str]
  | 19 => [.int .i64, .int .i64, .str, .int .i64, .int .i64, .int .i64, .str, .int .i64]
  | _ + 20 => []
def ex : (t : Nat) → C t → Tup C (F t)
  | 0, (x : api_Net) => (x.Age, x.Tables, x.Parts, x.Lines, x.Insts, x.Chans)
  | 1, (x : api_Table) => (x.Name, x.Steps, x.Fuel, x.Vars, x.Ports, x.Timers, x.Nodes, x.Edges, x.Codes)
  | 2, (x : api_Node) => (x.Kind, x.Parent, x.Last, x.Init, x.Entry, x.Exit, x.Name)
  | 3, (x : api_Edge) => (x.From, x.To, x.Dom, x.Guard, x.Acts, x.Event)
  | 4, (x : api_Ins) => (x.Op, x.A, x.N, x.S)
  | 5, (x : api_Part) => (x.Chart, x.Quantum, x.Ext, x.Prio, x.Out, x.In)
  | 6, (x : api_Line) => (x.From, x.Port, x.To, x.Cap, x.Prio)
  | 7, (x : api_Op) => (x.Kind, x.Inst, x.Msg.Event, x.Msg.N)
  | 8, (x : api_Msg) => (x.Event, x.N)
  | 9, (x : api_Rec) => (x.Kind, x.Inst, x.Queue, x.Code, x.Msg.Event, x.Msg.N, x.Effects, x.Conf, x.Vars, x.Cost, x.Gone, x.Fired)
  | 10, (x : api_Effect) => (x.Kind, x.A, x.Msg.Event, x.Msg.N)
  | 11, (x : api_Gone) => (x.Where, x.Msg.Event, x.Msg.N)
  | 12, (x : api_Fired) => (x.Inst, x.Timer)
  | 13, _ => ()
  | 14, (x : api_Life) => (x.Conf, x.Vars, x.Hist)
  | 15, (x : List UInt8 × List UInt8 × List UInt8 × List UInt8 × List UInt8 × List UInt8 × List UInt8 × List UInt8 × List UInt8 × List UInt8 × List UInt8 × List UInt8 × List UInt8 × List UInt8 × List UInt8 × List UInt8) => (x.1, x.2.1, x.2.2.1, x.2.2.2.1, x.2.2.2.2.1, x.2.2.2.2.2.1, x.2.2.2.2.2.2.1, x.2.2.2.2.2.2.2.1, x.2.2.2.2.2.2.2.2.1, x.2.2.2.2.2.2.2.2.2.1, x.2.2.2.2.2.2.2.2.2.2.1, x.2.2.2.2.2.2.2.2.2.2.2.1, x.2.2.2.2.2.2.2.2.2.2.2.2.1, x.2.2.2.2.2.2.2.2.2.2.2.2.2.1, x.2.2.2.2.2.2.2.2.2.2.2.2.2.2.1, x.2.2.2.2.2.2.2.2.2.2.2.2.2.2.2)
  | 16, (x : List UInt8 × List UInt8 × List UInt8) => (x.1, x.2.1, x.2.2)
  | 17, (x : List UInt8 × List UInt8 × List UInt8 × List UInt8 × List UInt8 × List UInt8 × List UInt8 × List UInt8 × List UInt8 × List UInt8 × List UInt8 × List UInt8 × List UInt8 × List UInt8 × List UInt8 × List UInt8 × List UInt8 × List UInt8 × List UInt8 × List UInt8 × List UInt8 × List UInt8 × List UInt8 × List UInt8 × List UInt8 × List UInt8 × List UInt8 × List UInt8 × List UInt8 × List UInt8 × List UInt8 × List UInt8 × List UInt8 × List UInt8 × List UInt8) => (x.1, x.2.1, x.2.2.1, x.2.2.2.1, x.2.2.2.2.1, x.2.2.2.2.2.1, x.2.2.2.2.2.2.1, x.2.2.2.2.2.2.2.1, x.2.2.2.2.2.2.2.2.1, x.2.2.2.2.2.2.2.2.2.1, x.2.2.2.2.2.2.2.2.2.2.1, x.2.2.2.2.2.2.2.2.2.2.2.1, x.2.2.2.2.2.2.2.2.2.2.2.2.1, x.2.2.2.2.2.2.2.2.2.2.2.2.2.1, x.2.2.2.2.2.2.2.2.2.2.2.2.2.2.1, x.2.2.2.2.2.2.2.2.2.2.2.2.2.2.2.1, x.2.2.2.2.2.2.2.2.2.2.2.2.2.2.2.2.1, x.2.2.2.2.2.2.2.2.2.2.2.2.2.2.2.2.2.1, x.2.2.2.2.2.2.2.2.2.2.2.2.2.2.2.2.2.2.1, x.2.2.2.2.2.2.2.2.2.2.2.2.2.2.2.2.2.2.2.1, x.2.2.2.2.2.2.2.2.2.2.2.2.2.2.2.2.2.2.2.2.1, x.2.2.2.2.2.2.2.2.2.2.2.2.2.2.2.2.2.2.2.2.2.1, x.2.2.2.2.2.2.2.2.2.2.2.2.2.2.2.2.2.2.2.2.2.2.1, x.2.2.2.2.2.2.2.2.2.2.2.2.2.2.2.2.2.2.2.2.2.2.2.1, x.2.2.2.2.2.2.2.2.2.2.2.2.2.2.2.2.2.2.2.2.2.2.2.2.1, x.2.2.2.2.2.2.2.2.2.2.2.2.2.2.2.2.2.2.2.2.2.2.2.2.2.1, x.2.2.2.2.2.2.2.2.2.2.2.2.2.2.2.2.2.2.2.2.2.2.2.2.2.2.1, x.2.2.2.2.2.2.2.2.2.2.2.2.2.2.2.2.2.2.2.2.2.2.2.2.2.2.2.1, x.2.2.2.2.2.2.2.2.2.2.2.2.2.2.2.2.2.2.2.2.2.2.2.2.2.2.2.2.1, x.2.2.2.2.2.2.2.2.2.2.2.2.2.2.2.2.2.2.2.2.2.2.2.2.2.2.2.2.2.1, x.2.2.2.2.2.2.2.2.2.2.2.2.2.2.2.2.2.2.2.2.2.2.2.2.2.2.2.2.2.2.1, x.2.2.2.2.2.2.2.2.2.2.2.2.2.2.2.2.2.2.2.2.2.2.2.2.2.2.2.2.2.2.2.1, x.2.2.2.2.2.2.2.2.2.2.2.2.2.2.2.2.2.2.2.2.2.2.2.2.2.2.2.2.2.2.2.2.1, x.2.2.2.2.2.2.2.2.2.2.2.2.2.2.2.2.2.2.2.2.2.2.2.2.2.2.2.2.2.2.2.2.2.1, x.2.2.2.2.2.2.2.2.2.2.2.2.2.2.2.2.2.2.2.2.2.2.2.2.2.2.2.2.2.2.2.2.2.2)
  | 18, (x : List UInt8 × List UInt8 × List UInt8 × List UInt8 × List UInt8 × List UInt8 × List UInt8 × List UInt8) => (x.1, x.2.1, x.2.2.1, x.2.2.2.1, x.2.2.2.2.1, x.2.2.2.2.2.1, x.2.2.2.2.2.2.1, x.2.2.2.2.2.2.2)
  | 19, (x : Int × Int × List UInt8 × Int × Int × Int × List UInt8 × Int) => (x.1, x.2.1, x.2.2.1, x.2.2.2.1, x.2.2.2.2.1, x.2.2.2.2.2.1, x.2.2.2.2.2.2.1, x.2.2.2.2.2.2.2)
  | _ + 20, _ => ()
def im : (t : Nat) → Tup C (F t) → C t
  | 0, (a0, a1, a2, a3, a4, a5) => api_Net.mk a0 a1 a2 a3 a4 a5
  | 1, (a0, a1, a2, a3, a4, a5, a6, a7, a8) => api_Table.mk a0 a1 a2 a3 a4 a5 a6 a7 a8
  | 2, (a0, a1, a2, a3, a4, a5, a6) => api_Node.mk a0 a1 a2 a3 a4 a5 a6
  | 3, (a0, a1, a2, a3, a4, a5) => api_Edge.mk a0 a1 a2 a3 a4 a5
  | 4, (a0, a1, a2, a3) => api_Ins.mk a0 a1 a2 a3
  | 5, (a0, a1, a2, a3, a4, a5) => api_Part.mk a0 a1 a2 a3 a4 a5
  | 6, (a0, a1, a2, a3, a4) => api_Line.mk a0 a1 a2 a3 a4
  | 7, (a0, a1, a2, a3) => api_Op.mk a0 a1 (api_Msg.mk a2 a3)
  | 8, (a0, a1) => api_Msg.mk a0 a1
  | 9, (a0, a1, a2, a3, a4, a5, a6, a7, a8, a9, a10, a11) => api_Rec.mk a0 a1 a2 a3 (api_Msg.mk a4 a5) a6 a7 a8 a9 a10 a11
  | 10, (a0, a1, a2, a3) => api_Effect.mk a0 a1 (api_Msg.mk a2 a3)
  | 11, (a0, a1, a2) => api_Gone.mk a0 (api_Msg.mk a1 a2)
  | 12, (a0, a1) => api_Fired.mk a0 a1
  | 13, _ => ()
  | 14, (a0, a1, a2) => api_Life.mk a0 a1 a2
  | 15, (a0, a1, a2, a3, a4, a5, a6, a7, a8, a9, a10, a11, a12, a13, a14, a15) => (a0, a1, a2, a3, a4, a5, a6, a7, a8, a9, a10, a11, a12, a13, a14, a15)
  | 16, (a0, a1, a2) => (a0, a1, a2)
  | 17, (a0, a1, a2, a3, a4, a5, a6, a7, a8, a9, a10, a11, a12, a13, a14, a15, a16, a17, a18, a19, a20, a21, a22, a23, a24, a25, a26, a27, a28, a29, a30, a31, a32, a33, a34) => (a0, a1, a2, a3, a4, a5, a6, a7, a8, a9, a10, a11, a12, a13, a14, a15, a16, a17, a18, a19, a20, a21, a22, a23, a24, a25, a26, a27, a28, a29, a30, a31, a32, a33, a34)
  | 18, (a0, a1, a2, a3, a4, a5, a6, a7) => (a0, a1, a2, a3, a4, a5, a6, a7)
  | 19, (a0, a1, a2, a3, a4, a5, a6, a7) => (a0, a1, a2, a3, a4, a5, a6, a7)
  | _ + 20, _ => ()
def fldT : Nat → List (Nat × Ty)
  | 0 => [(0, .int .i64), (1, .sl (.st 1)), (2, .sl (.st 5)), (3, .sl (.st 6)), (4, .sl .str), (5, .sl .str)]
  | 1 => [(0, .str), (1, .int .i64), (2, .int .i64), (3, .sl (.int .i64)), (4, .sl .str), (5, .sl .str), (6, .sl (.st 2)), (7, .sl (.st 3)), (8, .sl (.sl (.st 4)))]
  | 2 => [(0, .int .i64), (1, .int .i64), (2, .int .i64), (3, .int .i64), (4, .int .i64), (5, .int .i64), (6, .str)]
  | 3 => [(0, .int .i64), (1, .int .i64), (2, .int .i64), (3, .int .i64), (4, .int .i64), (5, .str)]
  | 4 => [(0, .int .i64), (1, .int .i64), (2, .int .i64), (3, .str)]
  | 5 => [(0, .int .i64), (1, .int .i64), (2, .int .i64), (3, .int .i64), (4, .sl (.int .i64)), (5, .sl (.int .i64))]
  | 6 => [(0, .int .i64), (1, .int .i64), (2, .int .i64), (3, .int .i64), (4, .int .i64)]
  | 7 => [(0, .int .i64), (1, .int .i64), (2, .st 8)]
  | 8 => [(0, .str), (1, .int .i64)]
  | 9 => [(0, .int .i64), (1, .int .i64), (2, .int .i64), (3, .int .i64), (4, .st 8), (6, .sl (.st 10)), (7, .sl (.int .i64)), (8, .sl (.int .i64)), (9, .int .i64), (10, .sl (.st 11)), (11, .sl (.st 12))]
  | 10 => [(0, .int .i64), (1, .int .i64), (2, .st 8)]
  | 11 => [(0, .int .i64), (1, .st 8)]
  | 12 => [(0, .int .i64), (1, .int .i64)]
  | 13 => []
  | 14 => [(0, .sl (.int .i64)), (1, .sl (.int .i64)), (2, .sl (.sl (.int .i64)))]
  | 15 => rowFlds (.str) 16 0
  | 16 => rowFlds (.str) 3 0
  | 17 => rowFlds (.str) 35 0
  | 18 => rowFlds (.str) 8 0
  | 19 => rowFldS (.st 7) 4 2 0
  | _ + 20 => []
def z : (t : Nat) → C t
  | 0 => api_Net.z
  | 1 => api_Table.z
  | 2 => api_Node.z
  | 3 => api_Edge.z
  | 4 => api_Ins.z
  | 5 => api_Part.z
  | 6 => api_Line.z
  | 7 => api_Op.z
  | 8 => api_Msg.z
  | 9 => api_Rec.z
  | 10 => api_Effect.z
  | 11 => api_Gone.z
  | 12 => api_Fired.z
  | 13 => ()
  | 14 => api_Life.z
  | 15 => ([], [], [], [], [], [], [], [], [], [], [], [], [], [], [], [])
  | 16 => ([], [], [])
  | 17 => ([], [], [], [], [], [], [], [], [], [], [], [], [], [], [], [], [], [], [], [], [], [], [], [], [], [], [], [], [], [], [], [], [], [], [])
  | 18 => ([], [], [], [], [], [], [], [])
  | 19 => (0, 0, [], 0, 0, 0, [], 0)
  | _ + 20 => ()
def tyT : List (Nat × Ty) := [(2, .int .i64), (3, .int .i64), (5, .int .u8), (9, .str), (22, .sl (.int .u8)), (24, .sl (.st 1)), (25, .sl (.st 5)), (26, .sl (.st 6)), (27, .sl .str), (29, .st 0), (31, .st 15), (33, .st 16), (35, .st 8), (37, .st 7), (38, .int .i64), (44, .st 19), (49, .sl (.int .i64)), (50, .sl (.st 10)), (51, .sl (.int .i64)), (52, .sl (.st 11)), (53, .sl (.st 12)), (55, .st 9), (57, .st 2), (58, .sl (.st 2)), (59, .sl (.st 3)), (60, .sl (.sl (.st 4))), (62, .st 1), (64, .st 5), (77, .st 18), (81, .st 11), (83, .st 12), (97, .sl (.sl (.int .i64))), (99, .st 14), (101, .st 10), (119, .st 17), (168, .st 6), (170, .st 3), (171, .sl (.st 4)), (173, .st 4)]
def arT : List (Nat × (Nat × Ty)) := [(31, 16, .str), (33, 3, .str), (44, 2, .st 7), (77, 8, .str), (119, 35, .str)]
def eqT : List (Nat × Unit) := [(37, ())]
def ifcT : List (Nat × Unit) := [(68, ())]
def ptT : List (Nat × Unit) := []
abbrev S : Sen := ⟨C, F, ex, im, fun u f => (fldT u)[f]?, z, look tyT, fun t => (look ptT t).isSome, look arT, fun t => (look eqT t).isSome, fun t => (look ifcT t).isSome, [((3, 0), fun v => ∃ m, v = .int .i64 m), ((1, 0), fun v => v = .nilIface ∨ ∃ t p, v = .iface t p), ((0, 0), fun v => v = .nilIface ∨ ∃ t p, v = .iface t p)], [(2, fun ob => ∃ t f, ob = .cells (Go.Lib.pow10Tab.map fun z => Value.int .u64 z).toArray t f)], some (93, 5)⟩
def bytT : List (Nat × Nat) := [(22, 1), (24, 176), (25, 80), (26, 40), (27, 16), (49, 8), (50, 40), (51, 8), (52, 32), (53, 16), (58, 64), (59, 56), (60, 24), (97, 24), (171, 40)]
def byt (t : Nat) : Nat := (look bytT t).getD 1
theorem senOk : SenOk S := ⟨fun | 0 => rfl | 1 => rfl | 2 => rfl | 3 => rfl | 4 => rfl | 5 => rfl | 6 => rfl | 7 => rfl | 8 => rfl | 9 => rfl | 10 => rfl | 11 => rfl | 12 => rfl | 13 => rfl | 14 => rfl | 15 => rfl | 16 => rfl | 17 => rfl | 18 => rfl | 19 => rfl | _ + 20 => rfl, fun | 0, _ => rfl | 1, _ => rfl | 2, _ => rfl | 3, _ => rfl | 4, _ => rfl | 5, _ => rfl | 6, _ => rfl | 7, _ => rfl | 8, _ => rfl | 9, _ => rfl | 10, _ => rfl | 11, _ => rfl | 12, _ => rfl | 13, _ => rfl | 14, _ => rfl | 15, _ => rfl | 16, _ => rfl | 17, _ => rfl | 18, _ => rfl | 19, _ => rfl | _ + 20, _ => rfl⟩
theorem ty2 : TyAt Tryd.prog S byt 2 (.int .i64) := tyAt_int rfl (by kernel_rfl) (by kernel_rfl) (by kernel_rfl)
theorem ty3 : TyAt Tryd.prog S byt 3 (.int .i64) := tyAt_int rfl (by kernel_rfl) (by kernel_rfl) (by kernel_rfl)
theorem ty5 : TyAt Tryd.prog S byt 5 (.int .u8) := tyAt_int rfl (by kernel_rfl) (by kernel_rfl) (by kernel_rfl)
theorem ty9 : TyAt Tryd.prog S byt 9 (.str) := tyAt_str rfl (by kernel_rfl) (by kernel_rfl) (by kernel_rfl)
theorem ty22 : TyAt Tryd.prog S byt 22 (.sl (.int .u8)) := tyAt_sl rfl (by kernel_rfl) (by kernel_rfl) Tryd.underlying22 rfl rfl (by kernel_rfl) (by kernel_rfl)
theorem ty24 : TyAt Tryd.prog S byt 24 (.sl (.st 1)) := tyAt_sl rfl (by kernel_rfl) (by kernel_rfl) Tryd.underlying24 rfl rfl (by kernel_rfl) (by kernel_rfl)
theorem ty25 : TyAt Tryd.prog S byt 25 (.sl (.st 5)) := tyAt_sl rfl (by kernel_rfl) (by kernel_rfl) Tryd.underlying25 rfl rfl (by kernel_rfl) (by kernel_rfl)
theorem ty26 : TyAt Tryd.prog S byt 26 (.sl (.st 6)) := tyAt_sl rfl (by kernel_rfl) (by kernel_rfl) Tryd.underlying26 rfl rfl (by kernel_rfl) (by kernel_rfl)
theorem ty27 : TyAt Tryd.prog S byt 27 (.sl .str) := tyAt_sl rfl (by kernel_rfl) (by kernel_rfl) Tryd.underlying27 rfl rfl (by kernel_rfl) (by kernel_rfl)
theorem ty29 : TyAt Tryd.prog S byt 29 (.st 0) := tyAt_st (l := fldT 0) rfl (by kernel_rfl) rfl (by kernel_rfl) (by kernel_rfl) rfl (by kernel_rfl) Tryd.underlying29 (by kernel_rfl) (fun _ => rfl) rfl
theorem ty31 : TyAt Tryd.prog S byt 31 (.st 15) := tyAt_ar rfl (by kernel_rfl) rfl (by kernel_rfl) (by kernel_rfl) rfl (by kernel_rfl) Tryd.underlying31 rfl rfl rfl (by kernel_rfl) (fun _ => rfl) rfl
theorem ty33 : TyAt Tryd.prog S byt 33 (.st 16) := tyAt_ar rfl (by kernel_rfl) rfl (by kernel_rfl) (by kernel_rfl) rfl (by kernel_rfl) Tryd.underlying33 rfl rfl rfl (by kernel_rfl) (fun _ => rfl) rfl
theorem ty35 : TyAt Tryd.prog S byt 35 (.st 8) := tyAt_st (l := fldT 8) rfl (by kernel_rfl) rfl (by kernel_rfl) (by kernel_rfl) rfl (by kernel_rfl) Tryd.underlying35 (by kernel_rfl) (fun _ => rfl) rfl
theorem ty37 : TyAt Tryd.prog S byt 37 (.st 7) := tyAt_st (l := fldT 7) rfl (by kernel_rfl) rfl (by kernel_rfl) (by kernel_rfl) rfl (by kernel_rfl) Tryd.underlying37 (by kernel_rfl) (fun _ => rfl) rfl
theorem ty38 : TyAt Tryd.prog S byt 38 (.int .i64) := tyAt_int rfl (by kernel_rfl) (by kernel_rfl) (by kernel_rfl)
theorem ty44 : TyAt Tryd.prog S byt 44 (.st 19) := tyAt_ars rfl (by kernel_rfl) rfl (by kernel_rfl) (by kernel_rfl) rfl (by kernel_rfl) Tryd.underlying44 rfl rfl (fun _ => rfl) rfl
theorem ty49 : TyAt Tryd.prog S byt 49 (.sl (.int .i64)) := tyAt_sl rfl (by kernel_rfl) (by kernel_rfl) Tryd.underlying49 rfl rfl (by kernel_rfl) (by kernel_rfl)
theorem ty50 : TyAt Tryd.prog S byt 50 (.sl (.st 10)) := tyAt_sl rfl (by kernel_rfl) (by kernel_rfl) Tryd.underlying50 rfl rfl (by kernel_rfl) (by kernel_rfl)
theorem ty51 : TyAt Tryd.prog S byt 51 (.sl (.int .i64)) := tyAt_sl rfl (by kernel_rfl) (by kernel_rfl) Tryd.underlying51 rfl rfl (by kernel_rfl) (by kernel_rfl)
theorem ty52 : TyAt Tryd.prog S byt 52 (.sl (.st 11)) := tyAt_sl rfl (by kernel_rfl) (by kernel_rfl) Tryd.underlying52 rfl rfl (by kernel_rfl) (by kernel_rfl)
theorem ty53 : TyAt Tryd.prog S byt 53 (.sl (.st 12)) := tyAt_sl rfl (by kernel_rfl) (by kernel_rfl) Tryd.underlying53 rfl rfl (by kernel_rfl) (by kernel_rfl)
theorem ty55 : TyAt Tryd.prog S byt 55 (.st 9) := tyAt_st (l := fldT 9) rfl (by kernel_rfl) rfl (by kernel_rfl) (by kernel_rfl) rfl (by kernel_rfl) Tryd.underlying55 (by kernel_rfl) (fun _ => rfl) rfl
theorem ty57 : TyAt Tryd.prog S byt 57 (.st 2) := tyAt_st (l := fldT 2) rfl (by kernel_rfl) rfl (by kernel_rfl) (by kernel_rfl) rfl (by kernel_rfl) Tryd.underlying57 (by kernel_rfl) (fun _ => rfl) rfl
theorem ty58 : TyAt Tryd.prog S byt 58 (.sl (.st 2)) := tyAt_sl rfl (by kernel_rfl) (by kernel_rfl) Tryd.underlying58 rfl rfl (by kernel_rfl) (by kernel_rfl)
theorem ty59 : TyAt Tryd.prog S byt 59 (.sl (.st 3)) := tyAt_sl rfl (by kernel_rfl) (by kernel_rfl) Tryd.underlying59 rfl rfl (by kernel_rfl) (by kernel_rfl)
theorem ty60 : TyAt Tryd.prog S byt 60 (.sl (.sl (.st 4))) := tyAt_sl rfl (by kernel_rfl) (by kernel_rfl) Tryd.underlying60 rfl rfl (by kernel_rfl) (by kernel_rfl)
theorem ty62 : TyAt Tryd.prog S byt 62 (.st 1) := tyAt_st (l := fldT 1) rfl (by kernel_rfl) rfl (by kernel_rfl) (by kernel_rfl) rfl (by kernel_rfl) Tryd.underlying62 (by kernel_rfl) (fun _ => rfl) rfl
theorem ty64 : TyAt Tryd.prog S byt 64 (.st 5) := tyAt_st (l := fldT 5) rfl (by kernel_rfl) rfl (by kernel_rfl) (by kernel_rfl) rfl (by kernel_rfl) Tryd.underlying64 (by kernel_rfl) (fun _ => rfl) rfl
theorem ty77 : TyAt Tryd.prog S byt 77 (.st 18) := tyAt_ar rfl (by kernel_rfl) rfl (by kernel_rfl) (by kernel_rfl) rfl (by kernel_rfl) Tryd.underlying77 rfl rfl rfl (by kernel_rfl) (fun _ => rfl) rfl
theorem ty81 : TyAt Tryd.prog S byt 81 (.st 11) := tyAt_st (l := fldT 11) rfl (by kernel_rfl) rfl (by kernel_rfl) (by kernel_rfl) rfl (by kernel_rfl) Tryd.underlying81 (by kernel_rfl) (fun _ => rfl) rfl
theorem ty83 : TyAt Tryd.prog S byt 83 (.st 12) := tyAt_st (l := fldT 12) rfl (by kernel_rfl) rfl (by kernel_rfl) (by kernel_rfl) rfl (by kernel_rfl) Tryd.underlying83 (by kernel_rfl) (fun _ => rfl) rfl
theorem ty97 : TyAt Tryd.prog S byt 97 (.sl (.sl (.int .i64))) := tyAt_sl rfl (by kernel_rfl) (by kernel_rfl) Tryd.underlying97 rfl rfl (by kernel_rfl) (by kernel_rfl)
theorem ty99 : TyAt Tryd.prog S byt 99 (.st 14) := tyAt_st (l := fldT 14) rfl (by kernel_rfl) rfl (by kernel_rfl) (by kernel_rfl) rfl (by kernel_rfl) Tryd.underlying99 (by kernel_rfl) (fun _ => rfl) rfl
theorem ty101 : TyAt Tryd.prog S byt 101 (.st 10) := tyAt_st (l := fldT 10) rfl (by kernel_rfl) rfl (by kernel_rfl) (by kernel_rfl) rfl (by kernel_rfl) Tryd.underlying101 (by kernel_rfl) (fun _ => rfl) rfl
theorem ty119 : TyAt Tryd.prog S byt 119 (.st 17) := tyAt_ar rfl (by kernel_rfl) rfl (by kernel_rfl) (by kernel_rfl) rfl (by kernel_rfl) Tryd.underlying119 rfl rfl rfl (by kernel_rfl) (fun _ => rfl) rfl
theorem ty168 : TyAt Tryd.prog S byt 168 (.st 6) := tyAt_st (l := fldT 6) rfl (by kernel_rfl) rfl (by kernel_rfl) (by kernel_rfl) rfl (by kernel_rfl) Tryd.underlying168 (by kernel_rfl) (fun _ => rfl) rfl
theorem ty170 : TyAt Tryd.prog S byt 170 (.st 3) := tyAt_st (l := fldT 3) rfl (by kernel_rfl) rfl (by kernel_rfl) (by kernel_rfl) rfl (by kernel_rfl) Tryd.underlying170 (by kernel_rfl) (fun _ => rfl) rfl
theorem ty171 : TyAt Tryd.prog S byt 171 (.sl (.st 4)) := tyAt_sl rfl (by kernel_rfl) (by kernel_rfl) Tryd.underlying171 rfl rfl (by kernel_rfl) (by kernel_rfl)
theorem ty173 : TyAt Tryd.prog S byt 173 (.st 4) := tyAt_st (l := fldT 4) rfl (by kernel_rfl) rfl (by kernel_rfl) (by kernel_rfl) rfl (by kernel_rfl) Tryd.underlying173 (by kernel_rfl) (fun _ => rfl) rfl
theorem progOk : ProgOk Tryd.prog S byt := ⟨senOk, fun t T h0 => by
  have h := look_mem (show look tyT t = some T from h0)
  simp only [tyT, List.mem_cons, Prod.mk.injEq, List.not_mem_nil, or_false] at h
  rcases h with ⟨rfl, rfl⟩ | ⟨rfl, rfl⟩ | ⟨rfl, rfl⟩ | ⟨rfl, rfl⟩ | ⟨rfl, rfl⟩ | ⟨rfl, rfl⟩ | ⟨rfl, rfl⟩ | ⟨rfl, rfl⟩ | ⟨rfl, rfl⟩ | ⟨rfl, rfl⟩ | ⟨rfl, rfl⟩ | ⟨rfl, rfl⟩ | ⟨rfl, rfl⟩ | ⟨rfl, rfl⟩ | ⟨rfl, rfl⟩ | ⟨rfl, rfl⟩ | ⟨rfl, rfl⟩ | ⟨rfl, rfl⟩ | ⟨rfl, rfl⟩ | ⟨rfl, rfl⟩ | ⟨rfl, rfl⟩ | ⟨rfl, rfl⟩ | ⟨rfl, rfl⟩ | ⟨rfl, rfl⟩ | ⟨rfl, rfl⟩ | ⟨rfl, rfl⟩ | ⟨rfl, rfl⟩ | ⟨rfl, rfl⟩ | ⟨rfl, rfl⟩ | ⟨rfl, rfl⟩ | ⟨rfl, rfl⟩ | ⟨rfl, rfl⟩ | ⟨rfl, rfl⟩ | ⟨rfl, rfl⟩ | ⟨rfl, rfl⟩ | ⟨rfl, rfl⟩ | ⟨rfl, rfl⟩ | ⟨rfl, rfl⟩ | ⟨rfl, rfl⟩
  · exact ty2
  · exact ty3
  · exact ty5
  · exact ty9
  · exact ty22
  · exact ty24
  · exact ty25
  · exact ty26
  · exact ty27
  · exact ty29
  · exact ty31
  · exact ty33
  · exact ty35
  · exact ty37
  · exact ty38
  · exact ty44
  · exact ty49
  · exact ty50
  · exact ty51
  · exact ty52
  · exact ty53
  · exact ty55
  · exact ty57
  · exact ty58
  · exact ty59
  · exact ty60
  · exact ty62
  · exact ty64
  · exact ty77
  · exact ty81
  · exact ty83
  · exact ty97
  · exact ty99
  · exact ty101
  · exact ty119
  · exact ty168
  · exact ty170
  · exact ty171
  · exact ty173, fun t h => by
  have h2 : ∃ u, look ptT t = some u := Option.isSome_iff_exists.1 h
  obtain ⟨u, h2⟩ := h2
  have h := look_mem h2
  simp [ptT] at h, fun t h => by
  have h2 : ∃ u, look eqT t = some u := Option.isSome_iff_exists.1 h
  obtain ⟨u, h2⟩ := h2
  have h := look_mem h2
  simp only [eqT, List.mem_cons, Prod.mk.injEq, List.not_mem_nil, or_false] at h
  rcases h with ⟨rfl, _⟩
  · exact ⟨7, rfl, ⟨_, Tryd.underlying37, eqFlds_of (by kernel_rfl)⟩, by kernel_rfl, by kernel_rfl⟩, fun t h => by
  have h2 : ∃ u, look ifcT t = some u := Option.isSome_iff_exists.1 h
  obtain ⟨u, h2⟩ := h2
  have h := look_mem h2
  simp only [ifcT, List.mem_cons, Prod.mk.injEq, List.not_mem_nil, or_false] at h
  rcases h with ⟨rfl, _⟩
  · exact ⟨_, Tryd.underlying68⟩, bt_of (by kernel_rfl) (by decide)⟩
theorem mixed : Tryd.prog.follows .mixedOrders = true := by kernel_rfl
def bz (e : Ty) : Nat := if e = .int .u8 then 1 else 1
def tyA : List (Nat × Ty) := [(2, .int .i64), (3, .int .i64), (5, .int .u8), (9, .str), (22, .sl (.int .u8)), (35, .st 8), (37, .st 7)]
/-- The arguments' types alone. -/
def arA : List (Nat × (Nat × Ty)) := []
abbrev SA : Sen := S.withT (look tyA) (fun _ => false) (look arA) (fun _ => false)
theorem tyA2 : TyAt Tryd.prog SA byt 2 (.int .i64) := tyAt_int rfl (by kernel_rfl) (by kernel_rfl) (by kernel_rfl)
theorem tyA3 : TyAt Tryd.prog SA byt 3 (.int .i64) := tyAt_int rfl (by kernel_rfl) (by kernel_rfl) (by kernel_rfl)
theorem tyA5 : TyAt Tryd.prog SA byt 5 (.int .u8) := tyAt_int rfl (by kernel_rfl) (by kernel_rfl) (by kernel_rfl)
theorem tyA9 : TyAt Tryd.prog SA byt 9 (.str) := tyAt_str rfl (by kernel_rfl) (by kernel_rfl) (by kernel_rfl)
theorem tyA22 : TyAt Tryd.prog SA byt 22 (.sl (.int .u8)) := tyAt_sl rfl (by kernel_rfl) (by kernel_rfl) Tryd.underlying22 rfl rfl (by kernel_rfl) (by kernel_rfl)
theorem tyA35 : TyAt Tryd.prog SA byt 35 (.st 8) := tyAt_st (l := fldT 8) rfl (by kernel_rfl) rfl (by kernel_rfl) (by kernel_rfl) rfl (by kernel_rfl) Tryd.underlying35 (by kernel_rfl) (fun _ => rfl) rfl
theorem tyA37 : TyAt Tryd.prog SA byt 37 (.st 7) := tyAt_st (l := fldT 7) rfl (by kernel_rfl) rfl (by kernel_rfl) (by kernel_rfl) rfl (by kernel_rfl) Tryd.underlying37 (by kernel_rfl) (fun _ => rfl) rfl
theorem senOkA : SenOk SA := ⟨senOk.flat, senOk.exim⟩
theorem progOkA : ProgOk Tryd.prog SA byt := ⟨senOkA, fun t e h0 => by
  have h := look_mem (show look tyA t = some (e) from h0)
  simp only [tyA, List.mem_cons, Prod.mk.injEq, List.not_mem_nil, or_false] at h
  rcases h with ⟨rfl, h⟩ | ⟨rfl, h⟩ | ⟨rfl, h⟩ | ⟨rfl, h⟩ | ⟨rfl, h⟩ | ⟨rfl, h⟩ | ⟨rfl, h⟩
  · subst h; exact tyA2
  · subst h; exact tyA3
  · subst h; exact tyA5
  · subst h; exact tyA9
  · subst h; exact tyA22
  · subst h; exact tyA35
  · subst h; exact tyA37, fun t h => (nomatch h), fun t h => (nomatch h), progOk.ifc, progOk.bt⟩
theorem hbz : ∀ t e, SA.ty t = some (.sl e) → byt t = bz e := fun t e h0 => by
  have h := look_mem (show look tyA t = some (.sl e) from h0)
  simp only [tyA, List.mem_cons, Prod.mk.injEq, List.not_mem_nil, or_false] at h
  rcases h with ⟨rfl, h⟩ | ⟨rfl, h⟩ | ⟨rfl, h⟩ | ⟨rfl, h⟩ | ⟨rfl, h⟩ | ⟨rfl, h⟩ | ⟨rfl, h⟩
  · cases h
  · cases h
  · cases h
  · cases h
  · cases h; decide
  · cases h
  · cases h
theorem slOk : SlOk SA := fun t e h0 => by
  have h := look_mem (show look tyA t = some (.sl e) from h0)
  simp only [tyA, List.mem_cons, Prod.mk.injEq, List.not_mem_nil, or_false] at h
  rcases h with ⟨rfl, h⟩ | ⟨rfl, h⟩ | ⟨rfl, h⟩ | ⟨rfl, h⟩ | ⟨rfl, h⟩ | ⟨rfl, h⟩ | ⟨rfl, h⟩
  · cases h
  · cases h
  · cases h
  · cases h
  · cases h; decide
  · cases h
  · cases h
theorem stOk : StOk Tryd.prog SA := fun t e h0 => by
  have h := look_mem (show look tyA t = some (.st e) from h0)
  simp only [tyA, List.mem_cons, Prod.mk.injEq, List.not_mem_nil, or_false] at h
  rcases h with ⟨rfl, h⟩ | ⟨rfl, h⟩ | ⟨rfl, h⟩ | ⟨rfl, h⟩ | ⟨rfl, h⟩ | ⟨rfl, h⟩ | ⟨rfl, h⟩
  · cases h
  · cases h
  · cases h
  · cases h
  · cases h
  · cases h; exact stOk_of Tryd.underlying35 (by kernel_rfl)
  · cases h; exact stOk_of Tryd.underlying37 (by kernel_rfl)
abbrev s_x : List UInt8 := [120]
abbrev s_c : List UInt8 := [99]
abbrev s_a : List UInt8 := [97]
abbrev s_b2 : List UInt8 := [98, 50]
abbrev s_post_a_go_3 : List UInt8 := [112, 111, 115, 116, 32, 97, 32, 103, 111, 32, 45, 51]
abbrev s_v : List UInt8 := [32]
abbrev s_tick : List UInt8 := [116, 105, 99, 107]
abbrev s_run : List UInt8 := [114, 117, 110]
abbrev s_start : List UInt8 := [115, 116, 97, 114, 116]
abbrev s_stop : List UInt8 := [115, 116, 111, 112]
abbrev s_post : List UInt8 := [112, 111, 115, 116]
abbrev s_system : List UInt8 := [115, 121, 115, 116, 101, 109]
abbrev s_age : List UInt8 := [97, 103, 101]
abbrev s_chart : List UInt8 := [99, 104, 97, 114, 116]
abbrev s_steps : List UInt8 := [115, 116, 101, 112, 115]
abbrev s_fuel : List UInt8 := [102, 117, 101, 108]
abbrev s_var : List UInt8 := [118, 97, 114]
abbrev s_port : List UInt8 := [112, 111, 114, 116]
abbrev s_timer : List UInt8 := [116, 105, 109, 101, 114]
abbrev s_state : List UInt8 := [115, 116, 97, 116, 101]
abbrev s_parallel : List UInt8 := [112, 97, 114, 97, 108, 108, 101, 108]
abbrev s_history : List UInt8 := [104, 105, 115, 116, 111, 114, 121]
abbrev s_deep : List UInt8 := [100, 101, 101, 112]
abbrev s_entry : List UInt8 := [101, 110, 116, 114, 121]
abbrev s_exit : List UInt8 := [101, 120, 105, 116]
abbrev s_on : List UInt8 := [111, 110]
abbrev s_auto : List UInt8 := [97, 117, 116, 111]
abbrev s_raise : List UInt8 := [114, 97, 105, 115, 101]
abbrev s_send : List UInt8 := [115, 101, 110, 100]
abbrev s_arm : List UInt8 := [97, 114, 109]
abbrev s_cancel : List UInt8 := [99, 97, 110, 99, 101, 108]
abbrev s_v_if : List UInt8 := [105, 102]
abbrev s_v_else : List UInt8 := [101, 108, 115, 101]
abbrev s_loop : List UInt8 := [108, 111, 111, 112]
abbrev s_v_in : List UInt8 := [105, 110]
abbrev s_inst : List UInt8 := [105, 110, 115, 116]
abbrev s_quantum : List UInt8 := [113, 117, 97, 110, 116, 117, 109]
abbrev s_ext : List UInt8 := [101, 120, 116]
abbrev s_prio : List UInt8 := [112, 114, 105, 111]
abbrev s_chan : List UInt8 := [99, 104, 97, 110]
abbrev s_cap : List UInt8 := [99, 97, 112]
abbrev s_cert : List UInt8 := [99, 101, 114, 116]
abbrev s_insts : List UInt8 := [105, 110, 115, 116, 115]
abbrev s_chans : List UInt8 := [99, 104, 97, 110, 115]
abbrev s_cell : List UInt8 := [99, 101, 108, 108]
abbrev s_off : List UInt8 := [111, 102, 102]
abbrev s_post_a_go_03 : List UInt8 := [112, 111, 115, 116, 32, 97, 32, 103, 111, 32, 48, 51]
abbrev s_start_ : List UInt8 := [115, 116, 97, 114, 116, 32]
abbrev s_stop_ : List UInt8 := [115, 116, 111, 112, 32]
abbrev s_post_ : List UInt8 := [112, 111, 115, 116, 32]
abbrev s_started : List UInt8 := [115, 116, 97, 114, 116, 101, 100]
abbrev s_v_ : List UInt8 := [43]
abbrev s_v_in_ : List UInt8 := [32, 105, 110, 32]
abbrev s_v__ : List UInt8 := [44]
abbrev s_v_with : List UInt8 := [32, 119, 105, 116, 104, 32]
abbrev s_cost : List UInt8 := [32, 99, 111, 115, 116, 32]
abbrev s_sent : List UInt8 := [32, 115, 101, 110, 116]
abbrev s_armed : List UInt8 := [32, 97, 114, 109, 101, 100]
abbrev s_stopped : List UInt8 := [32, 115, 116, 111, 112, 112, 101, 100]
abbrev s_gone : List UInt8 := [32, 103, 111, 110, 101]
abbrev s_refused : List UInt8 := [114, 101, 102, 117, 115, 101, 100, 32]
abbrev s_stopped_ : List UInt8 := [115, 116, 111, 112, 112, 101, 100]
abbrev s_accepted : List UInt8 := [97, 99, 99, 101, 112, 116, 101, 100]
abbrev s_rejected : List UInt8 := [114, 101, 106, 101, 99, 116, 101, 100]
abbrev s_ticked : List UInt8 := [116, 105, 99, 107, 101, 100]
abbrev s_ran : List UInt8 := [114, 97, 110]
abbrev s_idle : List UInt8 := [105, 100, 108, 101]
abbrev s_stuck : List UInt8 := [115, 116, 117, 99, 107]
abbrev s_gone_ : List UInt8 := [32, 103, 111, 110, 101, 32]
abbrev s_go : List UInt8 := [103, 111]
abbrev s_stop_b2 : List UInt8 := [115, 116, 111, 112, 32, 98, 50]
abbrev s_started_a_in_x_cost_1 : List UInt8 := [115, 116, 97, 114, 116, 101, 100, 32, 97, 32, 105, 110, 32, 120, 32, 99, 111, 115, 116, 32, 49]
abbrev s_v_0 : List UInt8 := [48]
abbrev s_v_0_ : List UInt8 := [45, 48]
abbrev s_v_007 : List UInt8 := [48, 48, 55]
abbrev s_v_9223372036854775808 : List UInt8 := [57, 50, 50, 51, 51, 55, 50, 48, 51, 54, 56, 53, 52, 55, 55, 53, 56, 48, 56]
abbrev s_v_9223372036854775808_ : List UInt8 := [45, 57, 50, 50, 51, 51, 55, 50, 48, 51, 54, 56, 53, 52, 55, 55, 53, 56, 48, 56]
abbrev s_v_0123456789 : List UInt8 := [48, 49, 50, 51, 52, 53, 54, 55, 56, 57]
abbrev s_v___ : List UInt8 := [45]
abbrev s_post_a_go : List UInt8 := [112, 111, 115, 116, 32, 97, 32, 103, 111, 32]
abbrev s_ping : List UInt8 := [112, 105, 110, 103]
abbrev s_pong : List UInt8 := [112, 111, 110, 103]
abbrev s_error : List UInt8 := [101, 114, 114, 111, 114]
abbrev s_t0 : List UInt8 := [116, 48]
abbrev s_ball : List UInt8 := [98, 97, 108, 108]
abbrev arr_0 : List UInt8 × List UInt8 × List UInt8 × List UInt8 × List UInt8 × List UInt8 × List UInt8 × List UInt8 × List UInt8 × List UInt8 × List UInt8 × List UInt8 × List UInt8 × List UInt8 × List UInt8 × List UInt8 := (s_start, s_stop, s_post, s_tick, s_run, s_a, s_b2, s_c, s_go, s_state, [], s_v_0, s_v_0_, s_v_007, s_v_9223372036854775808, s_v_9223372036854775808_)
abbrev arr_1 : List UInt8 × List UInt8 × List UInt8 × List UInt8 × List UInt8 × List UInt8 × List UInt8 × List UInt8 × List UInt8 × List UInt8 × List UInt8 × List UInt8 × List UInt8 × List UInt8 × List UInt8 × List UInt8 × List UInt8 × List UInt8 × List UInt8 × List UInt8 × List UInt8 × List UInt8 × List UInt8 × List UInt8 × List UInt8 × List UInt8 × List UInt8 × List UInt8 × List UInt8 × List UInt8 × List UInt8 × List UInt8 × List UInt8 × List UInt8 × List UInt8 := (s_system, s_age, s_chart, s_steps, s_fuel, s_var, s_port, s_timer, s_state, s_parallel, s_history, s_deep, s_entry, s_exit, s_on, s_auto, s_raise, s_send, s_arm, s_cancel, s_v_if, s_v_else, s_loop, s_v_in, s_inst, s_quantum, s_ext, s_prio, s_chan, s_cap, s_cert, s_insts, s_chans, s_cell, s_off)
abbrev row_0 : List (List UInt8) := [s_go, s_ping, s_pong, s_error, s_t0, s_ball, s_go, s_ping]
end Go.Sy.Sc
/-! script: words and decimal numerals, with no program in sight. -/
namespace Go.Sy.Sc
open Go.Sy
/-- The words of a line, parted at each blank. -/
def wordsP : List UInt8 → List (List UInt8)
  | [] => [[]]
  | b :: t => if b = 32 then [] :: wordsP t else match wordsP t with
    | w :: r => (b :: w) :: r
    | [] => [[b]]
theorem wordsP_ne (l : List UInt8) : wordsP l ≠ [] := by
  cases l with
  | nil => simp [wordsP]
  | cons b t =>
    simp only [wordsP]
    split
    · simp
    · split <;> simp
theorem index_one (b : UInt8) (t : List UInt8) (h : b ≠ 32) : Lib.index (b :: t) [32] = if Lib.index t [32] == -1 then -1 else Lib.index t [32] + 1 := by
  have hp : ([32] : List UInt8).isPrefixOf (b :: t) = false := by simp [List.isPrefixOf, Ne.symm h]
  rw [Lib.index, hp]; simp
theorem splitK_words : ∀ l : List UInt8, Lib.splitK [32] 0 (l.count 32) l = wordsP l := by
  intro l
  induction l with
  | nil => rfl
  | cons b t ih =>
    by_cases h : b = 32
    · subst h
      have hix : Lib.index (32 :: t) [32] = 0 := by rw [Lib.index]; simp [List.isPrefixOf]
      rw [List.count_cons_self, Lib.splitK, hix]
      simp only [wordsP, if_true]
      rw [← ih]
      rfl
    · rw [List.count_cons_of_ne (by simpa using h)]
      simp only [wordsP]
      rw [if_neg h, ← ih]
      have hix := index_one b t h
      have hge := Lib.index_ge t [32]
      by_cases hm : Lib.index t [32] = -1
      · rw [hm] at hix
        have hix : Lib.index (b :: t) [32] = -1 := hix
        cases hc : t.count 32 with
        | zero => rfl
        | succ k =>
          rw [Lib.splitK, hix, Lib.splitK, hm]
          rfl
      · obtain ⟨j, hj⟩ : ∃ j : Nat, Lib.index t [32] = j := ⟨(Lib.index t [32]).toNat, by omega⟩
        have hix' : Lib.index (b :: t) [32] = ((j + 1 : Nat) : Int) := by
          rw [hix, if_neg (by simpa using hm), hj]; omega
        cases hc : t.count 32 with
        | zero =>
          exfalso
          have h0 : (32 : UInt8) ∉ t := List.count_eq_zero.1 hc
          rcases Lib.index_spec t [32] with ⟨q, _⟩ | ⟨i, _, _, q, _⟩
          · exact hm q
          · have : t.drop i ≠ [] ∧ 32 ∈ t.drop i := by
              unfold Lib.occAt at q
              cases hd : t.drop i with
              | nil => rw [hd] at q; cases q
              | cons a r =>
                rw [hd] at q
                simp [List.isPrefixOf] at q
                subst q
                exact ⟨by simp, by simp⟩
            exact h0 (List.mem_of_mem_drop this.2)
        | succ k =>
          rw [Lib.splitK, hix', Lib.splitK, hj]
          have n1 : ¬ (((j + 1 : Nat) : Int) == -1) = true := fun e => by have := beq_iff_eq.1 e; omega
          have n2 : ¬ (((j : Nat) : Int) == -1) = true := fun e => by have := beq_iff_eq.1 e; omega
          rw [if_neg n1, if_neg n2]
          simp only [Int.toNat_natCast]
          rfl
/-! Numerals. -/
/-- Digits as a number no greater than M. -/
def valU (M acc : Nat) : List UInt8 → Option Nat
  | [] => some acc
  | c :: r => if 48 ≤ c.toNat ∧ c.toNat ≤ 57 then (if (M - (c.toNat - 48)) / 10 < acc then none else valU M (10 * acc + (c.toNat - 48)) r) else none
theorem valU_append (M : Nat) : ∀ (l : List UInt8) (acc : Nat) (c : UInt8), valU M acc (l ++ [c]) = (valU M acc l).bind fun a => if 48 ≤ c.toNat ∧ c.toNat ≤ 57 then (if (M - (c.toNat - 48)) / 10 < a then none else some (10 * a + (c.toNat - 48))) else none := by
  intro l
  induction l with
  | nil => intro acc c; simp only [List.nil_append, valU, bind_some_eq]
  | cons b l ih =>
    intro acc c
    simp only [List.cons_append, valU]
    split
    · split
      · rfl
      · exact ih _ c
    · rfl
theorem digit_of (d : Nat) (h : d < 10) : (UInt8.ofNat (48 + d)).toNat = 48 + d := by
  have : ∀ d, d < 10 → (UInt8.ofNat (48 + d)).toNat = 48 + d := by decide +kernel
  exact this d h
theorem dec_small {u : Nat} (h : u < 10) : Lib.decDigits u = [UInt8.ofNat (48 + u)] := by rw [Lib.decDigits, dif_pos h]
theorem dec_big {u : Nat} (h : ¬ u < 10) : Lib.decDigits u = Lib.decDigits (u / 10) ++ [UInt8.ofNat (48 + u % 10)] := by rw [Lib.decDigits, dif_neg h]
theorem valU_dec (M : Nat) (hM : 9 ≤ M) : ∀ (n u : Nat), u ≤ n → u ≤ M → valU M 0 (Lib.decDigits u) = some u := by
  intro n
  induction n with
  | zero =>
    intro u h hu
    have : u = 0 := by omega
    subst this
    rw [dec_small (by decide)]
    rfl
  | succ n ih =>
    intro u h hu
    by_cases hs : u < 10
    · rw [dec_small hs]
      simp only [valU]
      rw [digit_of u hs, if_pos (by omega), if_neg (by omega)]
      congr 1; omega
    · rw [dec_big hs, valU_append, ih (u / 10) (by omega) (by omega), bind_some_eq, digit_of (u % 10) (by omega), if_pos (by omega), if_neg (by omega)]
      congr 1; omega
theorem valU_le (M : Nat) (hM : 9 ≤ M) : ∀ (l : List UInt8) (acc v : Nat), acc ≤ M → valU M acc l = some v → v ≤ M := by
  intro l
  induction l with
  | nil => intro acc v h hv; cases hv; exact h
  | cons c r ih =>
    intro acc v h hv
    simp only [valU] at hv
    split at hv
    · split at hv
      · cases hv
      · exact ih _ v (by omega) hv
    · cases hv
theorem dec_digits : ∀ (n u : Nat), u ≤ n → ∀ c ∈ Lib.decDigits u, 48 ≤ c.toNat ∧ c.toNat ≤ 57 := by
  intro n
  induction n with
  | zero =>
    intro u h c hc
    have : u = 0 := by omega
    subst this
    rw [dec_small (by decide), List.mem_singleton] at hc
    subst hc; decide
  | succ n ih =>
    intro u h c hc
    by_cases hs : u < 10
    · rw [dec_small hs, List.mem_singleton] at hc
      subst hc; rw [digit_of u hs]; omega
    · rw [dec_big hs, List.mem_append, List.mem_singleton] at hc
      rcases hc with hc | rfl
      · exact ih (u / 10) (by omega) c hc
      · rw [digit_of _ (by omega)]; omega
theorem dec_ne : ∀ u, Lib.decDigits u ≠ [] := fun u => by
  by_cases hs : u < 10
  · rw [dec_small hs]; simp
  · rw [dec_big hs]; simp
theorem dec_len : ∀ (k u : Nat), u < 10 ^ (k + 1) → (Lib.decDigits u).length ≤ k + 1 := by
  intro k
  induction k with
  | zero => intro u h; rw [dec_small (by omega)]; simp
  | succ k ih =>
    intro u h
    by_cases hs : u < 10
    · rw [dec_small hs]; simp
    · rw [dec_big hs, List.length_append, List.length_singleton]
      have := ih (u / 10) (by rw [Nat.pow_succ] at h; omega)
      omega
/-- strconv's reading of digits, where it succeeds. -/
theorem parseM_ok (M : Nat) (hM : M ≤ 18446744073709551615) : ∀ (l : List UInt8) (acc u : Nat), Lib.parseUintM (2 ^ 64 - 1) acc l = .ok u → (∀ c ∈ l, 48 ≤ c.toNat ∧ c.toNat ≤ 57) := by
  intro l
  induction l with
  | nil => intro acc u _ c hc; cases hc
  | cons b l ih =>
    intro acc u h c hc
    unfold Lib.parseUintM at h
    split at h
    · rename_i hb
      split at h
      · cases h
      · split at h
        · cases h
        · rcases List.mem_cons.1 hc with rfl | hc
          · exact hb
          · exact ih _ _ h c hc
    · cases h
theorem parseM_append : ∀ (l : List UInt8) (acc a : Nat) (c : UInt8), Lib.parseUintM (2 ^ 64 - 1) acc l = .ok a → Lib.parseUintM (2 ^ 64 - 1) acc (l ++ [c]) = Lib.parseUintM (2 ^ 64 - 1) a [c] := by
  intro l
  induction l with
  | nil => intro acc a c h; cases h; rfl
  | cons b l ih =>
    intro acc a c h
    rw [List.cons_append]
    unfold Lib.parseUintM at h ⊢
    split at h
    · rename_i hb
      rw [if_pos hb]
      split at h
      · cases h
      · rename_i h1
        rw [if_neg h1]
        split at h
        · cases h
        · rename_i h2
          rw [if_neg h2]
          have := ih _ _ c h
          rw [this]
          rfl
    · cases h
theorem parseM_dec : ∀ (n u : Nat), u ≤ n → u ≤ 9223372036854775808 → Lib.parseUintM (2 ^ 64 - 1) 0 (Lib.decDigits u) = .ok u := by
  intro n
  induction n with
  | zero =>
    intro u h hu
    have : u = 0 := by omega
    subst this
    rw [dec_small (by decide)]
    rfl
  | succ n ih =>
    intro u h hu
    by_cases hs : u < 10
    · rw [dec_small hs]
      unfold Lib.parseUintM
      rw [digit_of u hs, if_pos (by omega), if_neg (by omega), if_neg (by omega)]
      unfold Lib.parseUintM
      congr 1; omega
    · rw [dec_big hs, parseM_append _ _ _ _ (ih (u / 10) (by omega) (by omega))]
      unfold Lib.parseUintM
      rw [digit_of _ (by omega), if_pos (by omega), if_neg (by omega), if_neg (by omega)]
      unfold Lib.parseUintM
      congr 1; omega
theorem parse_itoa (v : Int) (h0 : -9223372036854775808 ≤ v) (h1 : v ≤ 9223372036854775807) : Lib.parseIntB 64 (Lib.itoa v) = .ok v := by
  unfold Lib.itoa
  by_cases hv : v < 0
  · rw [if_pos hv]
    have hu : v.natAbs ≤ 9223372036854775808 := by omega
    unfold Lib.parseIntB Lib.parseUintB
    simp only []
    have hif : (if (45 : UInt8).toNat = 43 ∨ (45 : UInt8).toNat = 45 then Lib.decDigits v.natAbs else 45 :: Lib.decDigits v.natAbs) = Lib.decDigits v.natAbs := if_pos (.inr rfl)
    rw [hif, if_neg (dec_ne _), parseM_dec _ _ (Nat.le_refl _) hu]
    have h45 : (45 : UInt8).toNat = 45 := rfl
    simp only [h45, not_true_eq_false, false_and, if_false, true_and, if_true]
    rw [if_neg (by omega)]
    congr 1; omega
  · rw [if_neg hv]
    have hu : v.toNat ≤ 9223372036854775807 := by omega
    have hne := dec_ne v.toNat
    obtain ⟨c, r, hcr⟩ : ∃ c r, Lib.decDigits v.toNat = c :: r := by
      cases hd : Lib.decDigits v.toNat with
      | nil => exact absurd hd hne
      | cons c r => exact ⟨c, r, rfl⟩
    have hc := dec_digits _ _ (Nat.le_refl v.toNat) c (by rw [hcr]; simp)
    have hp := parseM_dec _ _ (Nat.le_refl v.toNat) (by omega)
    rw [hcr] at hp ⊢
    unfold Lib.parseIntB Lib.parseUintB
    simp only []
    rw [if_neg (show ¬ (c.toNat = 43 ∨ c.toNat = 45) by omega), if_neg (by simp), hp]
    simp only [show ¬ c.toNat = 45 by omega, not_false_eq_true, true_and, false_and, if_false]
    rw [if_neg (by omega)]
    congr 1; omega
theorem parse_range (l : List UInt8) (v : Int) (h : Lib.parseIntB 64 l = .ok v) : -9223372036854775808 ≤ v ∧ v ≤ 9223372036854775807 := by
  unfold Lib.parseIntB at h
  cases l with
  | nil => cases h
  | cons c r =>
    simp only [] at h
    split at h
    · cases h
    · cases h
    · rename_i u _
      split at h
      · cases h
      · rename_i q1
        split at h
        · cases h
        · rename_i q2
          split at h
          · rename_i q3
            cases h
            have : ¬ 9223372036854775808 < u := fun q => q2 ⟨q3, q⟩
            omega
          · rename_i q3
            cases h
            have : ¬ 9223372036854775808 ≤ u := fun q => q1 ⟨q3, q⟩
            omega
theorem itoa_inj {v u : Int} (hv : -9223372036854775808 ≤ v ∧ v ≤ 9223372036854775807) (hu : -9223372036854775808 ≤ u ∧ u ≤ 9223372036854775807) (h : Lib.itoa v = Lib.itoa u) : v = u := by
  have h1 := parse_itoa v hv.1 hv.2
  have h2 := parse_itoa u hu.1 hu.2
  rw [h, h2] at h1
  cases h1
  rfl
end Go.Sy.Sc
/-! Callees of script by their contracts. -/
namespace Go.Sy.Sc
open Go.Sy Go.Proofs
theorem glob_at {w : World} {M : St} (h : Glob S w M) : (∃ m, w.cell? ⟨3, 0, none⟩ = some (.int .i64 m)) ∧ (∃ e, w.cell? ⟨1, 0, none⟩ = some e ∧ (e = .nilIface ∨ ∃ t p, e = .iface t p)) ∧ (∃ e, w.cell? ⟨0, 0, none⟩ = some e ∧ (e = .nilIface ∨ ∃ t p, e = .iface t p)) ∧ Lib.TabIs Tryd.prog w "internal/strconv.uint64pow10" .u64 Lib.pow10Tab := by
  obtain ⟨_, _, v0, c0, m, rfl⟩ := h.1 ((3, 0), fun v => ∃ m, v = .int .i64 m) (by simp)
  obtain ⟨_, _, v1, c1, p1⟩ := h.1 ((1, 0), fun v => v = .nilIface ∨ ∃ t p, v = .iface t p) (by simp)
  obtain ⟨_, _, v2, c2, p2⟩ := h.1 ((0, 0), fun v => v = .nilIface ∨ ∃ t p, v = .iface t p) (by simp)
  obtain ⟨_, _, ob, c3, t, f, rfl⟩ := h.2 (2, fun ob => ∃ t f, ob = .cells (Go.Lib.pow10Tab.map fun z => Value.int .u64 z).toArray t f) (by simp)
  refine ⟨⟨m, c0⟩, ⟨v1, c1, p1⟩, ⟨v2, c2, p2⟩, ?_⟩
  unfold Lib.TabIs World.var?
  rw [show Tryd.prog.globalNamed "internal/strconv.uint64pow10" = some 2 from by kernel_rfl]
  show (match w.heap[2]? with | some (.cells cs _ _) => some cs | _ => none) = _
  rw [c3]
noncomputable def p_Split (s sep : List UInt8) : Option (List (List UInt8)) := if s.length < 4294967281 ∧ sep = [32] then some (wordsP s) else none
noncomputable def p_Join (l : List (List UInt8)) (sep : List UInt8) : Option (List UInt8) := if l.length ≤ 140737488355328 ∧ (Lib.join l sep).length ≤ 140737488355328 then some (Lib.join l sep) else none
noncomputable def p_ParseInt (s : List UInt8) (b z : Int) : Option (Int × Bool) := if s.length ≤ 281474976710656 ∧ b = 10 ∧ z = 64 then some (match Lib.parseIntB 64 s with
  | .ok v => (v, true)
  | .range => (Lib.intSat 64 s, false)
  | _ => (0, false)) else none
noncomputable def p_FormatInt (n b : Int) : Option (List UInt8) := if b = 10 ∧ -9223372036854775808 ≤ n ∧ n ≤ 9223372036854775807 then some (Lib.itoa n) else none
noncomputable def p_Itoa (n : Int) : Option (List UInt8) := if -9223372036854775808 ≤ n ∧ n ≤ 9223372036854775807 then some (Lib.itoa n) else none
noncomputable def bldRead (x : List UInt8) : Option (List UInt8 × List UInt8) := some (x, x)
theorem fnOk (f : Nat) (fn : Func) (h : Tryd.prog.funcs[f]? = some fn) (h1 : (fn.name == "runtime.NumGoroutine") = false) (h2 : fn.body.isNone = false) : FnOk Tryd.prog f := ⟨fn, h, h1, h2⟩
theorem p_bldStr_snd40 : Snd Tryd.prog S ⟨40, [.bld, .val (.data .str)], [.val (.data (.int .i64)), .err], fun x => bldStr x.1 x.2⟩ :=
  bldStr_snd (ρ := Tryd.lays156_ren) { Tryd.lays156 with } Tryd.Builder_Extra_156 rfl ⟨Tryd.f40, Tryd.func40, by kernel_rfl, by kernel_rfl⟩
theorem p_bldRead_snd43 : Snd Tryd.prog S ⟨43, [.bld], [.val (.data .str)], fun x => bldRead x⟩ :=
  bldRead_snd (ρ := Tryd.lays169_ren) { Tryd.lays169 with } Tryd.Builder_Extra_169 rfl ⟨Tryd.f43, Tryd.func43, by kernel_rfl, by kernel_rfl⟩
theorem chg_of {w w' : World} {M : St} (h : RowKit.Below w.heap.size w w') : Chg w w' M := by
  obtain ⟨a, b, c, d, e⟩ := h
  exact ⟨a, b, c, d, fun k hk _ => e k hk, fun k o hk _ => cell_of_heap (e k hk), fun k o hk hs => by rw [cell_of_heap (e k hk)]; exact hs, fun k o hk _ => frz_of_heap (e k hk)⟩
theorem str_len (l : List UInt8) : (⟨l.toArray⟩ : ByteArray).size = l.length := by show l.toArray.size = _; simp
theorem below_grow (w : World) (k : Nat) (os : Array Obj) : RowKit.Below w.heap.size w (Go.Sort.grow (w.drewN k) os) :=
  ⟨rfl, rfl, rfl, by simp [Go.Sort.grow, World.drewN], fun j hj => by simp [Go.Sort.grow, World.drewN, Array.getElem?_append, hj]⟩
theorem str_res {w : World} {s M : St} (hM : NoSt M) (r : List UInt8) : KsRel Tryd.prog S w s M [.val (.data .str)] r [.string ⟨r.toArray⟩] :=
  ⟨_, _, _, _, splitL M, rfl, ⟨⟨hM, 1, rfl⟩, rfl⟩, fun _ _ h => h, rfl⟩
theorem p_Itoa_snd44 : Snd Tryd.prog S ⟨44, [.val (.data (.int .i64))], [.val (.data .str)], fun x => p_Itoa x⟩ := by
  refine ⟨⟨Tryd.f44, Tryd.func44, by kernel_rfl, by kernel_rfl⟩, fun w s M (x : Int) args r hx hs hG hr => ?_⟩
  obtain ⟨M1, M2, v, rr, _, rfl, ⟨⟨_, n, h1⟩, h2⟩, _, rfl⟩ := hx
  have hv := RepV_int (w := w) (s := s) ⟨h2, n, h1⟩
  subst hv
  obtain ⟨-, -, -, ht⟩ := glob_at hG
  replace hr : p_Itoa x = some r := hr
  unfold p_Itoa at hr
  split at hr
  · rename_i hl
    cases hr
    refine (Tryd.strconv_Itoa x hl.1 hl.2 w ht).mono ?_
    rintro e w' ⟨rfl, k, os, rfl⟩
    exact ⟨[.string _], fun _ _ => False, fun _ _ => False, rfl, chg_of (below_grow w k os), str_res (fun _ _ h => h) _, fun _ _ h => h.elim, fun _ _ h => h.elim⟩
  · cases hr
theorem p_FormatInt_snd18 : Snd Tryd.prog S ⟨18, [.val (.data (.int .i64)), .val (.data (.int .i64))], [.val (.data .str)], fun x => p_FormatInt x.1 x.2⟩ := by
  refine ⟨⟨Tryd.f18, Tryd.func18, by kernel_rfl, by kernel_rfl⟩, fun w s M (x : Int × Int) args r hx hs hG hr => ?_⟩
  obtain ⟨x, y⟩ := x
  obtain ⟨M1, M2, v, rr, _, rfl, ⟨⟨_, n, h1⟩, h2⟩, M3, M4, v', rr', _, rfl, ⟨⟨_, n', h3⟩, h4⟩, _, rfl⟩ := hx
  have hv := RepV_int (w := w) (s := s) ⟨h2, n, h1⟩
  have hv' := RepV_int (w := w) (s := s) ⟨h4, n', h3⟩
  subst hv hv'
  obtain ⟨-, -, -, ht⟩ := glob_at hG
  replace hr : p_FormatInt x y = some r := hr
  unfold p_FormatInt at hr
  split at hr
  · rename_i hl
    obtain ⟨rfl, hl⟩ := hl
    cases hr
    refine (Tryd.strconv_FormatInt_10 x hl.1 hl.2 w ht).mono ?_
    rintro e w' ⟨rfl, k, os, rfl⟩
    exact ⟨[.string _], fun _ _ => False, fun _ _ => False, rfl, chg_of (below_grow w k os), str_res (fun _ _ h => h) _, fun _ _ h => h.elim, fun _ _ h => h.elim⟩
  · cases hr
theorem int_err {w : World} {s M : St} (hM : NoSt M) (v : Int) (b : Bool) (e : Value) (he : ErrRel b e) : KsRel Tryd.prog S w s M [.val (.data (.int .i64)), .err] (v, b) [.int .i64 v, e] :=
  ⟨_, _, _, _, splitL M, rfl, ⟨⟨hM, 1, rfl⟩, rfl⟩, _, _, _, _, noSplit', rfl, ⟨fun _ _ h => h, he⟩, fun _ _ h => h, rfl⟩
theorem p_ParseInt_snd17 : Snd Tryd.prog S ⟨17, [.val (.data .str), .val (.data (.int .i64)), .val (.data (.int .i64))], [.val (.data (.int .i64)), .err], fun x => p_ParseInt x.1 x.2.1 x.2.2⟩ := by
  refine ⟨⟨Tryd.f17, Tryd.func17, by kernel_rfl, by kernel_rfl⟩, fun w s M (x : List UInt8 × Int × Int) args r hx hs hG hr => ?_⟩
  obtain ⟨x, y, z⟩ := x
  obtain ⟨M1, M2, v, rr, _, rfl, ⟨⟨_, n, h1⟩, h2⟩, M3, M4, v', rr', _, rfl, ⟨⟨_, n', h3⟩, h4⟩, M5, M6, v'', rr'', _, rfl, ⟨⟨_, n'', h5⟩, h6⟩, _, rfl⟩ := hx
  have hv := RepV_str (w := w) (s := s) ⟨h2, n, h1⟩
  have hv' := RepV_int (w := w) (s := s) ⟨h4, n', h3⟩
  have hv'' := RepV_int (w := w) (s := s) ⟨h6, n'', h5⟩
  subst hv hv' hv''
  obtain ⟨-, ⟨e1, c1, k1⟩, ⟨e0, c0, k0⟩, -⟩ := glob_at hG
  replace hr : p_ParseInt x y z = some r := hr
  unfold p_ParseInt at hr
  split at hr
  · rename_i hl
    obtain ⟨hl, rfl, rfl⟩ := hl
    have hsz : (⟨x.toArray⟩ : ByteArray).size ≤ 281474976710656 := Nat.le_trans (Nat.le_of_eq (str_len x)) hl
    have hfin : ∀ (r0 : Int × Bool) (e : Value) (w' : World), ErrRel r0.2 e → RowKit.Below w.heap.size w w' → ∃ us s' M', Ending.returned (Value.tuple #[.int .i64 r0.1, e]) = .returned (retV us) ∧ Chg w w' M ∧ KsRel Tryd.prog S w' s' M' [.val (.data (.int .i64)), .err] r0 (us ++ []) ∧
        (∀ b o, s' b o → b < w'.heap.size ∧ ¬ M' b o ∧ (s b o ∨ M b o ∨ w.heap.size ≤ b)) ∧ ∀ b o, M' b o → M b o ∨ w.heap.size ≤ b := fun r0 e w' he hb =>
      ⟨[.int .i64 r0.1, e], fun _ _ => False, fun _ _ => False, rfl, chg_of hb, int_err (fun _ _ h => h) _ _ _ he, fun _ _ h => h.elim, fun _ _ h => h.elim⟩
    cases hp : Lib.parseIntB 64 x with
    | ok v =>
      rw [hp] at hr
      cases hr
      refine (Tryd.strconv_ParseInt_10_at64_ok ⟨x.toArray⟩ (by omega) v hp w).mono ?_
      rintro e w' ⟨rfl, hw⟩
      refine hfin (v, true) .nilIface w' rfl ?_
      rcases hw with rfl | ⟨t, rfl⟩
      · exact RowKit.Below.refl _ _
      · exact ⟨rfl, rfl, rfl, by rw [Lib.bytesWorld_size]; omega, fun j hj => Lib.bytesWorld_at_old w 5 t j hj⟩
    | range =>
      rw [hp] at hr
      cases hr
      refine (Tryd.strconv_ParseInt_10_at64_range ⟨x.toArray⟩ hsz hp e1 w c1 k1).mono ?_
      rintro e w' ⟨N, rfl, _, _, hb⟩
      exact hfin (_, false) _ w' ⟨_, _, rfl⟩ hb
    | _ =>
      rw [hp] at hr
      cases hr
      refine (Any.strconv_ParseInt_10_at64_syntax Tryd.laysC174 ⟨x.toArray⟩ hsz hp e0 w c0 k0).mono ?_
      rintro e w' ⟨N, rfl, _, _, hb⟩
      exact hfin (0, false) _ w' ⟨_, _, rfl⟩ hb
  · cases hr
theorem p_Join_snd58 : Snd Tryd.prog S ⟨58, [.val (.data (.sl .str)), .val (.data .str)], [.val (.data .str)], fun x => p_Join x.1 x.2⟩ := by
  refine ⟨⟨Tryd.f58, Tryd.func58, by kernel_rfl, by kernel_rfl⟩, fun w s M (x : List (List UInt8) × List UInt8) args r hx hs hG hr => ?_⟩
  obtain ⟨x, y⟩ := x
  obtain ⟨M1, M2, v, rr, _, rfl, ⟨⟨_, n, h1⟩, h2⟩, M3, M4, v', rr', _, rfl, ⟨⟨_, n', h3⟩, h4⟩, _, rfl⟩ := hx
  have hv' := RepV_str (w := w) (s := s) ⟨h4, n', h3⟩
  subst hv'
  obtain ⟨ad, cap, rfl, hc, hel⟩ := RepV_sl (w := w) (s := s) ⟨h2, n, h1⟩
  replace hr : p_Join x y = some r := hr
  unfold p_Join at hr
  split at hr
  · rename_i hl
    cases hr
    have fin : ∀ w', RowKit.Below w.heap.size w w' → ∃ us s' M', Ending.returned (Value.string ⟨(Lib.join x y).toArray⟩) = .returned (retV us) ∧ Chg w w' M ∧ KsRel Tryd.prog S w' s' M' [.val (.data .str)] (Lib.join x y) (us ++ []) ∧
        (∀ b o, s' b o → b < w'.heap.size ∧ ¬ M' b o ∧ (s b o ∨ M b o ∨ w.heap.size ≤ b)) ∧ ∀ b o, M' b o → M b o ∨ w.heap.size ≤ b := fun w' hb =>
      ⟨[.string _], fun _ _ => False, fun _ _ => False, rfl, chg_of hb, str_res (fun _ _ h => h) _, fun _ _ h => h.elim, fun _ _ h => h.elim⟩
    have key : x ≠ [] → ∃ b o, ad = some ⟨b, o, none⟩ ∧ b < w.heap.size ∧ ∀ (j : Nat) z, x[j]? = some z → w.cell? ⟨b, o + j, none⟩ = some (.string ⟨z.toArray⟩) := by
      intro hne
      rcases hel with hel | ⟨b, o, m, rfl, hel⟩
      · exact absurd (List.length_eq_zero_iff.1 hel) hne
      · have hat : ∀ (j : Nat) z, x[j]? = some z → w.cell? ⟨b, o + j, none⟩ = some (.string ⟨z.toArray⟩) ∧ s b (o + j) := by
          intro j z hj
          obtain ⟨ds, d1, d2, d3⟩ := hel j z hj
          have d4 : ds = [.string ⟨z.toArray⟩] := by
            cases m with
            | zero => exact d3.elim
            | succ m => exact d3
          subst d4
          have := d2 0 _ rfl
          simpa [Ty.sz] using this
        refine ⟨b, o, rfl, ?_, fun j z hj => (hat j z hj).1⟩
        obtain ⟨z, hz⟩ : ∃ z, x[0]? = some z := by
          cases x with
          | nil => exact absurd rfl hne
          | cons z _ => exact ⟨z, rfl⟩
        exact (hs b (o + 0) (hat 0 z hz).2).1
    by_cases hne : x = []
    · subst hne
      refine (Tryd.strings_Join_none ad cap ⟨y.toArray⟩ w).mono ?_
      rintro e w' ⟨rfl, rfl⟩
      exact fin _ (RowKit.Below.refl _ _)
    · obtain ⟨b, o, rfl, hb, hat⟩ := key hne
      have hmap : (x.map fun z => (⟨z.toArray⟩ : ByteArray)).map (·.data.toList) = x := by
        rw [List.map_map]
        conv => rhs; rw [← List.map_id x]
        congr 1
      have hc := Tryd.strings_Join b o cap (x.map fun z => (⟨z.toArray⟩ : ByteArray)) ⟨y.toArray⟩ w (fun j z hj => by
        rw [List.getElem?_map, Option.map_eq_some_iff] at hj
        obtain ⟨q, hq, rfl⟩ := hj
        exact hat j q hq) hb (by simpa using hl.1) (by rw [List.length_map]; exact hc) (by rw [hmap]; exact hl.2)
      rw [hmap, List.length_map] at hc
      refine hc.mono ?_
      rintro e w' ⟨rfl, hb'⟩
      exact fin _ hb'
  · cases hr
theorem splitB_words (l : List UInt8) : (Lib.splitB ⟨#[32]⟩ 0 (Lib.countB ⟨l.toArray⟩ ⟨#[32]⟩) ⟨l.toArray⟩).map (·.data.toList) = wordsP l := by
  rw [Lib.splitB_data, ← splitK_words l]
  rw [show Lib.countB ⟨l.toArray⟩ ⟨#[32]⟩ = l.count 32 from Lib.count_one 32 l]
theorem p_Split_snd15 : Snd Tryd.prog S ⟨15, [.val (.data .str), .val (.data .str)], [.val (.data (.sl .str))], fun x => p_Split x.1 x.2⟩ := by
  refine ⟨⟨Tryd.f15, Tryd.func15, by kernel_rfl, by kernel_rfl⟩, fun w s M (x : List UInt8 × List UInt8) args r hx hs hG hr => ?_⟩
  obtain ⟨x, y⟩ := x
  obtain ⟨M1, M2, v, rr, _, rfl, ⟨⟨_, n, h1⟩, h2⟩, M3, M4, v', rr', _, rfl, ⟨⟨_, n', h3⟩, h4⟩, _, rfl⟩ := hx
  have hv := RepV_str (w := w) (s := s) ⟨h2, n, h1⟩
  have hv' := RepV_str (w := w) (s := s) ⟨h4, n', h3⟩
  subst hv hv'
  obtain ⟨⟨m, hm⟩, -⟩ := glob_at hG
  replace hr : p_Split x y = some r := hr
  unfold p_Split at hr
  split at hr
  · rename_i hl
    obtain ⟨hl, rfl⟩ := hl
    cases hr
    have hw := splitB_words x
    have hlen := Lib.splitB_all ⟨#[32]⟩ (by decide) 0 (Lib.countB ⟨x.toArray⟩ ⟨#[32]⟩) ⟨x.toArray⟩ rfl
    refine (Tryd.strings_Split ⟨x.toArray⟩ ⟨#[32]⟩ m w (Nat.lt_of_le_of_lt (Nat.le_of_eq (str_len _)) hl) hm (by decide)).mono ?_
    rintro e w' ⟨rfl, rfl⟩
    generalize hR : Lib.splitB ⟨#[32]⟩ 0 (Lib.countB ⟨x.toArray⟩ ⟨#[32]⟩) ⟨x.toArray⟩ = R at *
    have hl2 : (wordsP x).length = Lib.countB ⟨x.toArray⟩ ⟨#[32]⟩ + 1 := by rw [← hw, List.length_map, hlen]
    refine ⟨[.slice (some ⟨w.heap.size, 0, none⟩) (Lib.countB ⟨x.toArray⟩ ⟨#[32]⟩ + 1) (Lib.countB ⟨x.toArray⟩ ⟨#[32]⟩ + 1)], fun b o => b = w.heap.size, fun _ _ => False, rfl, Chg.alloc w _ _, ⟨_, _, _, _, noSplit', rfl, ⟨⟨fun _ _ h => h, 2, ?_⟩, rfl⟩, fun _ _ h => h, rfl⟩, fun b o h => ⟨by subst h; simp, id, .inr (.inr (Nat.le_of_eq h.symm))⟩, fun _ _ h => h.elim⟩
    rw [← hl2]
    refine ⟨_, _, rfl, Nat.le_refl _, .inr ⟨w.heap.size, 0, rfl, fun i z hz => ?_⟩⟩
    refine ⟨[.string ⟨z.toArray⟩], rfl, fun j u hj => ?_, rfl⟩
    match j, hj with
    | 0, hj =>
      simp at hj
      subst hj
      refine ⟨?_, rfl⟩
      have hz : (wordsP x)[i]? = some z := hz
      rw [← hw, List.getElem?_map] at hz
      obtain ⟨q, hq, rfl⟩ : ∃ q, R[i]? = some q ∧ q.data.toList = z := Option.map_eq_some_iff.1 hz
      have h0 : (w.alloc (.cells (R.map Value.string).toArray 9)).heap[w.heap.size]? = some (.cells (R.map Value.string).toArray 9) := by show (w.heap.push _)[w.heap.size]? = _; simp
      rw [show 0 + i * Ty.sz S .str + 0 = i from by simp [Ty.sz], Lib.cell_of_heap h0]
      rw [List.getElem?_toArray, List.getElem?_map, hq]
      rfl
  · cases hr
end Go.Sy.Sc
set_option maxRecDepth 100000
namespace Go.Sy.Sc
open Go.Sy Go.Proofs
/-! ### 6 cotillion/cotillionlaw34.small -/
noncomputable def law34_small  : Option api_Net := some (api_Net.mk 1 [api_Table.mk s_c 2 9 [] [] [] [api_Node.mk 2 (-1) 1 1 (-1) (-1) [], api_Node.mk 1 0 1 (-1) (-1) (-1) s_x] [] []] [api_Part.mk 0 1 1 0 [] [], api_Part.mk 0 1 0 0 [] []] [] [s_a, s_b2] [])
noncomputable abbrev law34_small_T : Tab S := ⟨[], [], false, false⟩
noncomputable def law34_small_L (k : Nat) : Nat → List (Lab S api_Net)
  | _ => []
theorem law34_small_eq (k : Nat) : law34_small = exec S (law34_small_T) byt (labs S (law34_small_T) (law34_small_L k)) (ac [] Tryd.f6) (frame0 S [] ()) (retK S (law34_small_T) Tryd.f6 [] [.val (.data (.st 0))]) := by kernel_rfl
theorem law34_small_vc (k : Nat) : VC S (law34_small_T) byt (law34_small_L k) (law34_small_L (k + 1)) (ac [] Tryd.f6) (retK S (law34_small_T) Tryd.f6 [] [.val (.data (.st 0))]) = [] := by kernel_rfl
theorem law34_small_snd : Snd Tryd.prog S ⟨6, [], [.val (.data (.st 0))], fun x => law34_small⟩ :=
  fn_ok progOk (T := (law34_small_T)) (all_nil) (all_nil) mixed Tryd.func6 rfl (by kernel_rfl) (ac_code [] Tryd.f6 rfl) (L := law34_small_L)
    (fun n l h x => by cases h) (fun k n l h => by cases h)
    (fun k => All.mem (law34_small_vc k) trivial) (fun x r h => ⟨0, (law34_small_eq 0).symm.trans h⟩) (by kernel_rfl) (by kernel_rfl) (Nat.le_of_ble_eq_true (by kernel_rfl))
/-! ### 31 cotillion/lex.Reserved -/
noncomputable def lex_Reserved  (s : List UInt8) : Option Bool := if s = s_system then
    if s = s_system then
    some true else
    some false else
    if s = s_age then
    if s = s_age then
    some true else
    some false else
    if s = s_chart then
    if s = s_chart then
    some true else
    some false else
    if s = s_steps then
    if s = s_steps then
    some true else
    some false else
    if s = s_fuel then
    if s = s_fuel then
    some true else
    some false else
    if s = s_var then
    if s = s_var then
    some true else
    some false else
    if s = s_port then
    if s = s_port then
    some true else
    some false else
    if s = s_timer then
    if s = s_timer then
    some true else
    some false else
    if s = s_state then
    if s = s_state then
    some true else
    some false else
    if s = s_parallel then
    if s = s_parallel then
    some true else
    some false else
    if s = s_history then
    if s = s_history then
    some true else
    some false else
    if s = s_deep then
    if s = s_deep then
    some true else
    some false else
    if s = s_entry then
    if s = s_entry then
    some true else
    some false else
    if s = s_exit then
    if s = s_exit then
    some true else
    some false else
    if s = s_on then
    if s = s_on then
    some true else
    some false else
    if s = s_auto then
    if s = s_auto then
    some true else
    some false else
    if s = s_raise then
    if s = s_raise then
    some true else
    some false else
    if s = s_send then
    if s = s_send then
    some true else
    some false else
    if s = s_arm then
    if s = s_arm then
    some true else
    some false else
    if s = s_cancel then
    if s = s_cancel then
    some true else
    some false else
    if s = s_v_if then
    if s = s_v_if then
    some true else
    some false else
    if s = s_v_else then
    if s = s_v_else then
    some true else
    some false else
    if s = s_loop then
    if s = s_loop then
    some true else
    some false else
    if s = s_v_in then
    if s = s_v_in then
    some true else
    some false else
    if s = s_inst then
    if s = s_inst then
    some true else
    some false else
    if s = s_quantum then
    if s = s_quantum then
    some true else
    some false else
    if s = s_ext then
    if s = s_ext then
    some true else
    some false else
    if s = s_prio then
    if s = s_prio then
    some true else
    some false else
    if s = s_chan then
    if s = s_chan then
    some true else
    some false else
    if s = s_cap then
    if s = s_cap then
    some true else
    some false else
    if s = s_cert then
    if s = s_cert then
    some true else
    some false else
    if s = s_insts then
    if s = s_insts then
    some true else
    some false else
    if s = s_chans then
    if s = s_chans then
    some true else
    some false else
    if s = s_cell then
    if s = s_cell then
    some true else
    some false else
    if s = s_off then
    some true else
    some false
noncomputable abbrev lex_Reserved_T : Tab S := ⟨[], [], false, false⟩
noncomputable def lex_Reserved_L (k : Nat) : Nat → List (Lab S Bool)
  | _ => []
theorem lex_Reserved_eq (k : Nat) (s : List UInt8) : lex_Reserved s = exec S (lex_Reserved_T) byt (labs S (lex_Reserved_T) (lex_Reserved_L k)) (ac [] Tryd.f31) (frame0 S [.val (.data .str)] s) (retK S (lex_Reserved_T) Tryd.f31 [.val (.data .str)] [.val (.data .bool)]) := by kernel_rfl
theorem lex_Reserved_vc (k : Nat) : VC S (lex_Reserved_T) byt (lex_Reserved_L k) (lex_Reserved_L (k + 1)) (ac [] Tryd.f31) (retK S (lex_Reserved_T) Tryd.f31 [.val (.data .str)] [.val (.data .bool)]) = [] := by kernel_rfl
theorem lex_Reserved_snd : Snd Tryd.prog S ⟨31, [.val (.data .str)], [.val (.data .bool)], fun x => lex_Reserved x⟩ :=
  fn_ok progOk (T := (lex_Reserved_T)) (all_nil) (all_nil) mixed Tryd.func31 rfl (by kernel_rfl) (ac_code [] Tryd.f31 rfl) (L := lex_Reserved_L)
    (fun n l h x => by cases h) (fun k n l h => by cases h)
    (fun k => All.mem (lex_Reserved_vc k) trivial) (fun x r h => ⟨0, (lex_Reserved_eq 0 x).symm.trans h⟩) (by kernel_rfl) (by kernel_rfl) (Nat.le_of_ble_eq_true (by kernel_rfl))
/-! ### 32 cotillion/lex.kind -/
noncomputable def lex_kind  (c : Int) : Option (Bool × Bool) := if 48 ≤ c then
    if c ≤ 57 then
    some (true, true) else
    if 97 ≤ c then
    if c ≤ 122 then
    if c ≤ 122 then
    some (true, false) else
    some (false, false) else
    if 65 ≤ c then
    if c ≤ 90 then
    if c ≤ 90 then
    some (true, false) else
    some (false, false) else
    if c = 95 then
    some (true, false) else
    some (false, false) else
    if c = 95 then
    some (true, false) else
    some (false, false) else
    if 65 ≤ c then
    if c ≤ 90 then
    if c ≤ 90 then
    some (true, false) else
    some (false, false) else
    if c = 95 then
    some (true, false) else
    some (false, false) else
    if c = 95 then
    some (true, false) else
    some (false, false) else
    if 97 ≤ c then
    if c ≤ 122 then
    if c ≤ 122 then
    some (true, false) else
    some (false, false) else
    if 65 ≤ c then
    if c ≤ 90 then
    if c ≤ 90 then
    some (true, false) else
    some (false, false) else
    if c = 95 then
    some (true, false) else
    some (false, false) else
    if c = 95 then
    some (true, false) else
    some (false, false) else
    if 65 ≤ c then
    if c ≤ 90 then
    if c ≤ 90 then
    some (true, false) else
    some (false, false) else
    if c = 95 then
    some (true, false) else
    some (false, false) else
    if c = 95 then
    some (true, false) else
    some (false, false)
noncomputable abbrev lex_kind_T : Tab S := ⟨[], [], false, false⟩
noncomputable def lex_kind_L (k : Nat) : Nat → List (Lab S (Bool × Bool))
  | _ => []
theorem lex_kind_eq (k : Nat) (c : Int) : lex_kind c = exec S (lex_kind_T) byt (labs S (lex_kind_T) (lex_kind_L k)) (ac [] Tryd.f32) (frame0 S [.val (.data (.int .u8))] c) (retK S (lex_kind_T) Tryd.f32 [.val (.data (.int .u8))] [.val (.data .bool), .val (.data .bool)]) := by kernel_rfl
theorem lex_kind_vc (k : Nat) : VC S (lex_kind_T) byt (lex_kind_L k) (lex_kind_L (k + 1)) (ac [] Tryd.f32) (retK S (lex_kind_T) Tryd.f32 [.val (.data (.int .u8))] [.val (.data .bool), .val (.data .bool)]) = [] := by kernel_rfl
theorem lex_kind_snd : Snd Tryd.prog S ⟨32, [.val (.data (.int .u8))], [.val (.data .bool), .val (.data .bool)], fun x => lex_kind x⟩ :=
  fn_ok progOk (T := (lex_kind_T)) (all_nil) (all_nil) mixed Tryd.func32 rfl (by kernel_rfl) (ac_code [] Tryd.f32 rfl) (L := lex_kind_L)
    (fun n l h x => by cases h) (fun k n l h => by cases h)
    (fun k => All.mem (lex_kind_vc k) trivial) (fun x r h => ⟨0, (lex_kind_eq 0 x).symm.trans h⟩) (by kernel_rfl) (by kernel_rfl) (Nat.le_of_ble_eq_true (by kernel_rfl))
/-! ### 33 cotillion/lex.end -/
noncomputable def lex_end_l0 : Nat → (List UInt8) → Int → Bool → Option Int
  | 0, _, _, _ => none
  | k + 1, text, v_at, number => if v_at < (text.length : Int) then
    if 0 ≤ v_at then
    if v_at < (text.length : Int) then
    (lex_kind ((text.getD v_at.toNat 0).toNat : Int)).bind fun r2 =>
    bif !r2.1 then
    some v_at else
    bif number then
    bif !r2.2 then
    some v_at else
    lex_end_l0 k text (w64 (v_at + 1)) number else
    lex_end_l0 k text (w64 (v_at + 1)) number else none else none else
    some v_at
noncomputable def lex_end_f (k : Nat) (text : List UInt8) (v_at : Int) : Option Int := if 0 ≤ v_at then
    if v_at < (text.length : Int) then
    (lex_kind ((text.getD v_at.toNat 0).toNat : Int)).bind fun r1 =>
    lex_end_l0 k text v_at r1.2 else none else none
noncomputable def lex_end  (text : List UInt8) (v_at : Int) : Option Int := lim (fun k (x : List UInt8 × Int) => lex_end_f k x.1 x.2) (text, v_at)
noncomputable abbrev lex_end_T : Tab S := ⟨[⟨32, [.val (.data (.int .u8))], [.val (.data .bool), .val (.data .bool)], fun x => lex_kind x⟩], [], false, false⟩
noncomputable def lex_end_L (k : Nat) : Nat → List (Lab S Int)
  | 0 => [⟨[0, 1, 6], [.val (.data .str), .val (.data (.int .i64)), .val (.data .bool)], fun x => lex_end_l0 k x.1 x.2.1 x.2.2⟩]
  | _ + 1 => []
theorem lex_end_eq (k : Nat) (text : List UInt8) (v_at : Int) : lex_end_f k text v_at = exec S (lex_end_T) byt (labs S (lex_end_T) (lex_end_L k)) (ac [] Tryd.f33) (frame0 S [.val (.data .str), .val (.data (.int .i64))] (text, v_at)) (retK S (lex_end_T) Tryd.f33 [.val (.data .str), .val (.data (.int .i64))] [.val (.data (.int .i64))]) := by kernel_rfl
theorem lex_end_vc (k : Nat) : VC S (lex_end_T) byt (lex_end_L k) (lex_end_L (k + 1)) (ac [] Tryd.f33) (retK S (lex_end_T) Tryd.f33 [.val (.data .str), .val (.data (.int .i64))] [.val (.data (.int .i64))]) = [∀ x : List UInt8 × Int × Bool, lex_end_l0 (k + 1) x.1 x.2.1 x.2.2 = lex_end_l0 (k + 1) x.1 x.2.1 x.2.2] := by kernel_rfl
theorem lex_end_sndk (k : Nat) : Snd Tryd.prog S ⟨33, [.val (.data .str), .val (.data (.int .i64))], [.val (.data (.int .i64))], fun x => lex_end_f k x.1 x.2⟩ :=
  fn_ok progOk (T := (lex_end_T)) (all_cons lex_kind_snd (all_nil)) (all_nil) mixed Tryd.func33 rfl (by kernel_rfl) (ac_code [] Tryd.f33 rfl) (L := lex_end_L)
    (fun n l h x => by match n, h with
        | 0, h => 
          rcases List.mem_cons.1 h with rfl | h
          · rfl
          cases h
        | _ + 1, h => cases h) (fun k n l h => by match n, h with
        | 0, h => 
          rcases List.mem_cons.1 h with rfl | h
          · rfl
          cases h
        | _ + 1, h => cases h)
    (fun k => All.mem (lex_end_vc k) ⟨fun _ => rfl, trivial⟩) (fun x r h => ⟨k, (lex_end_eq k x.1 x.2).symm.trans h⟩) (by kernel_rfl) (by kernel_rfl) (Nat.le_of_ble_eq_true (by kernel_rfl))
theorem lex_end_snd : Snd Tryd.prog S ⟨33, [.val (.data .str), .val (.data (.int .i64))], [.val (.data (.int .i64))], fun x => lex_end x.1 x.2⟩ := Snd.lim (lex_end_sndk)
/-! ### 16 cotillion/lex.Name -/
noncomputable def lex_Name  (s : List UInt8) : Option Bool := if s = [] then
    some false else
    if 24 < (s.length : Int) then
    some false else
    (lex_Reserved s).bind fun r1 =>
    bif r1 then
    some false else
    if (0 : Int) ≤ 0 then
    if 0 < (s.length : Int) then
    (lex_kind ((s.getD (0 : Int).toNat 0).toNat : Int)).bind fun r2 =>
    bif !r2.2 then
    (lex_end s 0).bind fun r3 =>
    some (decide (r3 = (s.length : Int))) else
    some false else none else none
noncomputable abbrev lex_Name_T : Tab S := ⟨[⟨31, [.val (.data .str)], [.val (.data .bool)], fun x => lex_Reserved x⟩, ⟨32, [.val (.data (.int .u8))], [.val (.data .bool), .val (.data .bool)], fun x => lex_kind x⟩, ⟨33, [.val (.data .str), .val (.data (.int .i64))], [.val (.data (.int .i64))], fun x => lex_end x.1 x.2⟩], [], false, false⟩
noncomputable def lex_Name_L (k : Nat) : Nat → List (Lab S Bool)
  | _ => []
theorem lex_Name_eq (k : Nat) (s : List UInt8) : lex_Name s = exec S (lex_Name_T) byt (labs S (lex_Name_T) (lex_Name_L k)) (ac [] Tryd.f16) (frame0 S [.val (.data .str)] s) (retK S (lex_Name_T) Tryd.f16 [.val (.data .str)] [.val (.data .bool)]) := by kernel_rfl
theorem lex_Name_vc (k : Nat) : VC S (lex_Name_T) byt (lex_Name_L k) (lex_Name_L (k + 1)) (ac [] Tryd.f16) (retK S (lex_Name_T) Tryd.f16 [.val (.data .str)] [.val (.data .bool)]) = [] := by kernel_rfl
theorem lex_Name_snd : Snd Tryd.prog S ⟨16, [.val (.data .str)], [.val (.data .bool)], fun x => lex_Name x⟩ :=
  fn_ok progOk (T := (lex_Name_T)) (all_cons lex_Reserved_snd (all_cons lex_kind_snd (all_cons lex_end_snd (all_nil)))) (all_nil) mixed Tryd.func16 rfl (by kernel_rfl) (ac_code [] Tryd.f16 rfl) (L := lex_Name_L)
    (fun n l h x => by cases h) (fun k n l h => by cases h)
    (fun k => All.mem (lex_Name_vc k) trivial) (fun x r h => ⟨0, (lex_Name_eq 0 x).symm.trans h⟩) (by kernel_rfl) (by kernel_rfl) (Nat.le_of_ble_eq_true (by kernel_rfl))
/-! ### 19 slices.Index[[]string,string] -/
noncomputable def slices_Index_string_string_l0 : Nat → (List (List UInt8)) → (List UInt8) → Int → Int → Option Int
  | 0, _, _, _, _ => none
  | k + 1, s, v, x7, x8 => if x8 < x7 then
    if 0 ≤ x8 then
    if x8 < (s.length : Int) then
    if v = (s.getD x8.toNat []) then
    some x8 else
    slices_Index_string_string_l0 k s v x7 (w64 (x8 + 1)) else none else none else
    some (-1)
noncomputable def slices_Index_string_string_f (k : Nat) (s : List (List UInt8)) (v : List UInt8) : Option Int := slices_Index_string_string_l0 k s v (s.length : Int) 0
noncomputable def slices_Index_string_string  (s : List (List UInt8)) (v : List UInt8) : Option Int := lim (fun k (x : List (List UInt8) × List UInt8) => slices_Index_string_string_f k x.1 x.2) (s, v)
noncomputable abbrev slices_Index_string_string_T : Tab S := ⟨[], [], false, false⟩
noncomputable def slices_Index_string_string_L (k : Nat) : Nat → List (Lab S Int)
  | 0 => [⟨[0, 1, 7, 8], [.val (.data (.sl .str)), .val (.data .str), .val (.data (.int .i64)), .val (.data (.int .i64))], fun x => slices_Index_string_string_l0 k x.1 x.2.1 x.2.2.1 x.2.2.2⟩]
  | _ + 1 => []
theorem slices_Index_string_string_eq (k : Nat) (s : List (List UInt8)) (v : List UInt8) : slices_Index_string_string_f k s v = exec S (slices_Index_string_string_T) byt (labs S (slices_Index_string_string_T) (slices_Index_string_string_L k)) (ac [] Tryd.f19) (frame0 S [.val (.data (.sl .str)), .val (.data .str)] (s, v)) (retK S (slices_Index_string_string_T) Tryd.f19 [.val (.data (.sl .str)), .val (.data .str)] [.val (.data (.int .i64))]) := by kernel_rfl
theorem slices_Index_string_string_vc (k : Nat) : VC S (slices_Index_string_string_T) byt (slices_Index_string_string_L k) (slices_Index_string_string_L (k + 1)) (ac [] Tryd.f19) (retK S (slices_Index_string_string_T) Tryd.f19 [.val (.data (.sl .str)), .val (.data .str)] [.val (.data (.int .i64))]) = [∀ x : List (List UInt8) × List UInt8 × Int × Int, slices_Index_string_string_l0 (k + 1) x.1 x.2.1 x.2.2.1 x.2.2.2 = slices_Index_string_string_l0 (k + 1) x.1 x.2.1 x.2.2.1 x.2.2.2] := by kernel_rfl
theorem slices_Index_string_string_sndk (k : Nat) : Snd Tryd.prog S ⟨19, [.val (.data (.sl .str)), .val (.data .str)], [.val (.data (.int .i64))], fun x => slices_Index_string_string_f k x.1 x.2⟩ :=
  fn_ok progOk (T := (slices_Index_string_string_T)) (all_nil) (all_nil) mixed Tryd.func19 rfl (by kernel_rfl) (ac_code [] Tryd.f19 rfl) (L := slices_Index_string_string_L)
    (fun n l h x => by match n, h with
        | 0, h => 
          rcases List.mem_cons.1 h with rfl | h
          · rfl
          cases h
        | _ + 1, h => cases h) (fun k n l h => by match n, h with
        | 0, h => 
          rcases List.mem_cons.1 h with rfl | h
          · rfl
          cases h
        | _ + 1, h => cases h)
    (fun k => All.mem (slices_Index_string_string_vc k) ⟨fun _ => rfl, trivial⟩) (fun x r h => ⟨k, (slices_Index_string_string_eq k x.1 x.2).symm.trans h⟩) (by kernel_rfl) (by kernel_rfl) (Nat.le_of_ble_eq_true (by kernel_rfl))
theorem slices_Index_string_string_snd : Snd Tryd.prog S ⟨19, [.val (.data (.sl .str)), .val (.data .str)], [.val (.data (.int .i64))], fun x => slices_Index_string_string x.1 x.2⟩ := Snd.lim (slices_Index_string_string_sndk)
/-! ### 8 cotillion/script.Parse -/
noncomputable def script_Parse_c0 : Nat → Int → (List api_Table) → (List api_Part) → (List api_Line) → (List (List UInt8)) → (List (List UInt8)) → Int → Int → (List UInt8) → Int → (List (List UInt8)) → Int → Int → (List UInt8) → Int → Option (api_Op × Int)
  | 0, _, _, _, _, _, _, _, _, _, _, _, _, _, _, _ => none
  | k + 1, n_Age, n_Tables, n_Parts, n_Lines, n_Insts, n_Chans, x4_Kind, x4_Inst, x4_Msg_Event, x4_Msg_N, w, o_Kind, o_Inst, o_Msg_Event, o_Msg_N => if (0 : Int) ≤ 1 then
    if 1 < (w.length : Int) then
    (slices_Index_string_string n_Insts (w.getD (1 : Int).toNat [])).bind fun r8 =>
    if r8 < 0 then
    some (api_Op.mk 0 0 (api_Msg.mk [] 0), 22) else
    some (api_Op.mk o_Kind r8 (api_Msg.mk o_Msg_Event o_Msg_N), 0) else none else none
noncomputable def script_Parse_c1 : Nat → Int → (List api_Table) → (List api_Part) → (List api_Line) → (List (List UInt8)) → (List (List UInt8)) → Int → Int → (List UInt8) → Int → (List (List UInt8)) → Int → Int → (List UInt8) → Int → Bool → Option (api_Op × Int)
  | 0, _, _, _, _, _, _, _, _, _, _, _, _, _, _, _, _ => none
  | k + 1, n_Age, n_Tables, n_Parts, n_Lines, n_Insts, n_Chans, x4_Kind, x4_Inst, x4_Msg_Event, x4_Msg_N, w, o_Kind, o_Inst, o_Msg_Event, o_Msg_N, x44 => bif x44 then
    if (0 : Int) ≤ 3 then
    if 3 < (w.length : Int) then
    (p_ParseInt (w.getD (3 : Int).toNat []) 10 64).bind fun r6 =>
    bif !r6.2 then
    some (api_Op.mk 0 0 (api_Msg.mk [] 0), 22) else
    (p_FormatInt r6.1 10).bind fun r7 =>
    if (0 : Int) ≤ 3 then
    if 3 < (w.length : Int) then
    if r7 ≠ (w.getD (3 : Int).toNat []) then
    some (api_Op.mk 0 0 (api_Msg.mk [] 0), 22) else
    if (0 : Int) ≤ 2 then
    if 2 < (w.length : Int) then
    script_Parse_c0 k n_Age n_Tables n_Parts n_Lines n_Insts n_Chans x4_Kind x4_Inst x4_Msg_Event x4_Msg_N w 3 o_Inst (w.getD (2 : Int).toNat []) r6.1 else none else none else none else none else none else none else
    some (api_Op.mk 0 0 (api_Msg.mk [] 0), 22)
noncomputable def script_Parse_f (k : Nat) (n : api_Net) (line : List UInt8) : Option (api_Op × Int) := (p_Split line s_v).bind fun r1 =>
    if line = s_tick then
    some (api_Op.mk 4 0 (api_Msg.mk [] 0), 0) else
    if line = s_run then
    some (api_Op.mk 5 0 (api_Msg.mk [] 0), 0) else
    if (r1.length : Int) = 2 then
    if (0 : Int) ≤ 0 then
    if 0 < (r1.length : Int) then
    if (r1.getD (0 : Int).toNat []) = s_start then
    script_Parse_c0 k n.Age n.Tables n.Parts n.Lines n.Insts n.Chans 0 0 [] 0 r1 1 0 [] 0 else
    if (r1.length : Int) = 2 then
    if (0 : Int) ≤ 0 then
    if 0 < (r1.length : Int) then
    if (r1.getD (0 : Int).toNat []) = s_stop then
    script_Parse_c0 k n.Age n.Tables n.Parts n.Lines n.Insts n.Chans 0 0 [] 0 r1 2 0 [] 0 else
    if (r1.length : Int) = 4 then
    if (0 : Int) ≤ 0 then
    if 0 < (r1.length : Int) then
    if (r1.getD (0 : Int).toNat []) = s_post then
    if (0 : Int) ≤ 2 then
    if 2 < (r1.length : Int) then
    (lex_Name (r1.getD (2 : Int).toNat [])).bind fun r2 =>
    script_Parse_c1 k n.Age n.Tables n.Parts n.Lines n.Insts n.Chans 0 0 [] 0 r1 0 0 [] 0 r2 else none else none else
    script_Parse_c1 k n.Age n.Tables n.Parts n.Lines n.Insts n.Chans 0 0 [] 0 r1 0 0 [] 0 false else none else none else
    script_Parse_c1 k n.Age n.Tables n.Parts n.Lines n.Insts n.Chans 0 0 [] 0 r1 0 0 [] 0 false else none else none else
    if (r1.length : Int) = 4 then
    if (0 : Int) ≤ 0 then
    if 0 < (r1.length : Int) then
    if (r1.getD (0 : Int).toNat []) = s_post then
    if (0 : Int) ≤ 2 then
    if 2 < (r1.length : Int) then
    (lex_Name (r1.getD (2 : Int).toNat [])).bind fun r3 =>
    script_Parse_c1 k n.Age n.Tables n.Parts n.Lines n.Insts n.Chans 0 0 [] 0 r1 0 0 [] 0 r3 else none else none else
    script_Parse_c1 k n.Age n.Tables n.Parts n.Lines n.Insts n.Chans 0 0 [] 0 r1 0 0 [] 0 false else none else none else
    script_Parse_c1 k n.Age n.Tables n.Parts n.Lines n.Insts n.Chans 0 0 [] 0 r1 0 0 [] 0 false else none else none else
    if (r1.length : Int) = 2 then
    if (0 : Int) ≤ 0 then
    if 0 < (r1.length : Int) then
    if (r1.getD (0 : Int).toNat []) = s_stop then
    script_Parse_c0 k n.Age n.Tables n.Parts n.Lines n.Insts n.Chans 0 0 [] 0 r1 2 0 [] 0 else
    if (r1.length : Int) = 4 then
    if (0 : Int) ≤ 0 then
    if 0 < (r1.length : Int) then
    if (r1.getD (0 : Int).toNat []) = s_post then
    if (0 : Int) ≤ 2 then
    if 2 < (r1.length : Int) then
    (lex_Name (r1.getD (2 : Int).toNat [])).bind fun r4 =>
    script_Parse_c1 k n.Age n.Tables n.Parts n.Lines n.Insts n.Chans 0 0 [] 0 r1 0 0 [] 0 r4 else none else none else
    script_Parse_c1 k n.Age n.Tables n.Parts n.Lines n.Insts n.Chans 0 0 [] 0 r1 0 0 [] 0 false else none else none else
    script_Parse_c1 k n.Age n.Tables n.Parts n.Lines n.Insts n.Chans 0 0 [] 0 r1 0 0 [] 0 false else none else none else
    if (r1.length : Int) = 4 then
    if (0 : Int) ≤ 0 then
    if 0 < (r1.length : Int) then
    if (r1.getD (0 : Int).toNat []) = s_post then
    if (0 : Int) ≤ 2 then
    if 2 < (r1.length : Int) then
    (lex_Name (r1.getD (2 : Int).toNat [])).bind fun r5 =>
    script_Parse_c1 k n.Age n.Tables n.Parts n.Lines n.Insts n.Chans 0 0 [] 0 r1 0 0 [] 0 r5 else none else none else
    script_Parse_c1 k n.Age n.Tables n.Parts n.Lines n.Insts n.Chans 0 0 [] 0 r1 0 0 [] 0 false else none else none else
    script_Parse_c1 k n.Age n.Tables n.Parts n.Lines n.Insts n.Chans 0 0 [] 0 r1 0 0 [] 0 false
noncomputable def script_Parse  (n : api_Net) (line : List UInt8) : Option (api_Op × Int) := lim (fun k (x : api_Net × List UInt8) => script_Parse_f k x.1 x.2) (n, line)
noncomputable abbrev script_Parse_T : Tab S := ⟨[⟨15, [.val (.data .str), .val (.data .str)], [.val (.data (.sl .str))], fun x => p_Split x.1 x.2⟩, ⟨16, [.val (.data .str)], [.val (.data .bool)], fun x => lex_Name x⟩, ⟨17, [.val (.data .str), .val (.data (.int .i64)), .val (.data (.int .i64))], [.val (.data (.int .i64)), .err], fun x => p_ParseInt x.1 x.2.1 x.2.2⟩, ⟨18, [.val (.data (.int .i64)), .val (.data (.int .i64))], [.val (.data .str)], fun x => p_FormatInt x.1 x.2⟩, ⟨19, [.val (.data (.sl .str)), .val (.data .str)], [.val (.data (.int .i64))], fun x => slices_Index_string_string x.1 x.2⟩], [], false, false⟩
noncomputable def script_Parse_L (k : Nat) : Nat → List (Lab S (api_Op × Int))
  | 0 => []
  | 1 => [⟨[2, 4, 6, 7], [.obj [.data (.int .i64), .data (.sl (.st 1)), .data (.sl (.st 5)), .data (.sl (.st 6)), .data (.sl .str), .data (.sl .str)], .obj [.data (.int .i64), .data (.int .i64), .data .str, .data (.int .i64)], .val (.data (.sl .str)), .obj [.data (.int .i64), .data (.int .i64), .data .str, .data (.int .i64)]], fun x => script_Parse_c0 k x.1.1 x.1.2.1 x.1.2.2.1 x.1.2.2.2.1 x.1.2.2.2.2.1 x.1.2.2.2.2.2 x.2.1.1 x.2.1.2.1 x.2.1.2.2.1 x.2.1.2.2.2 x.2.2.1 x.2.2.2.1 x.2.2.2.2.1 x.2.2.2.2.2.1 x.2.2.2.2.2.2⟩]
  | 2 => []
  | 3 => [⟨[2, 4, 6, 7, 44], [.obj [.data (.int .i64), .data (.sl (.st 1)), .data (.sl (.st 5)), .data (.sl (.st 6)), .data (.sl .str), .data (.sl .str)], .obj [.data (.int .i64), .data (.int .i64), .data .str, .data (.int .i64)], .val (.data (.sl .str)), .obj [.data (.int .i64), .data (.int .i64), .data .str, .data (.int .i64)], .val (.data .bool)], fun x => script_Parse_c1 k x.1.1 x.1.2.1 x.1.2.2.1 x.1.2.2.2.1 x.1.2.2.2.2.1 x.1.2.2.2.2.2 x.2.1.1 x.2.1.2.1 x.2.1.2.2.1 x.2.1.2.2.2 x.2.2.1 x.2.2.2.1.1 x.2.2.2.1.2.1 x.2.2.2.1.2.2.1 x.2.2.2.1.2.2.2 x.2.2.2.2⟩]
  | _ + 4 => []
theorem script_Parse_eq (k : Nat) (n : api_Net) (line : List UInt8) : script_Parse_f k n line = exec S (script_Parse_T) byt (labs S (script_Parse_T) (script_Parse_L k)) (ac [3, 10] Tryd.f8) (frame0 S [.val (.data (.st 0)), .val (.data .str)] (n, line)) (retK S (script_Parse_T) Tryd.f8 [.val (.data (.st 0)), .val (.data .str)] [.val (.data (.st 7)), .val (.data (.int .i64))]) := by kernel_rfl
theorem script_Parse_vc (k : Nat) : VC S (script_Parse_T) byt (script_Parse_L k) (script_Parse_L (k + 1)) (ac [3, 10] Tryd.f8) (retK S (script_Parse_T) Tryd.f8 [.val (.data (.st 0)), .val (.data .str)] [.val (.data (.st 7)), .val (.data (.int .i64))]) = [∀ x : (Int × List api_Table × List api_Part × List api_Line × List (List UInt8) × List (List UInt8)) × (Int × Int × List UInt8 × Int) × List (List UInt8) × (Int × Int × List UInt8 × Int) × Bool, script_Parse_c1 (k + 1) x.1.1 x.1.2.1 x.1.2.2.1 x.1.2.2.2.1 x.1.2.2.2.2.1 x.1.2.2.2.2.2 x.2.1.1 x.2.1.2.1 x.2.1.2.2.1 x.2.1.2.2.2 x.2.2.1 x.2.2.2.1.1 x.2.2.2.1.2.1 x.2.2.2.1.2.2.1 x.2.2.2.1.2.2.2 x.2.2.2.2 = script_Parse_c1 (k + 1) x.1.1 x.1.2.1 x.1.2.2.1 x.1.2.2.2.1 x.1.2.2.2.2.1 x.1.2.2.2.2.2 x.2.1.1 x.2.1.2.1 x.2.1.2.2.1 x.2.1.2.2.2 x.2.2.1 x.2.2.2.1.1 x.2.2.2.1.2.1 x.2.2.2.1.2.2.1 x.2.2.2.1.2.2.2 x.2.2.2.2, ∀ x : (Int × List api_Table × List api_Part × List api_Line × List (List UInt8) × List (List UInt8)) × (Int × Int × List UInt8 × Int) × List (List UInt8) × (Int × Int × List UInt8 × Int), script_Parse_c0 (k + 1) x.1.1 x.1.2.1 x.1.2.2.1 x.1.2.2.2.1 x.1.2.2.2.2.1 x.1.2.2.2.2.2 x.2.1.1 x.2.1.2.1 x.2.1.2.2.1 x.2.1.2.2.2 x.2.2.1 x.2.2.2.1 x.2.2.2.2.1 x.2.2.2.2.2.1 x.2.2.2.2.2.2 = script_Parse_c0 (k + 1) x.1.1 x.1.2.1 x.1.2.2.1 x.1.2.2.2.1 x.1.2.2.2.2.1 x.1.2.2.2.2.2 x.2.1.1 x.2.1.2.1 x.2.1.2.2.1 x.2.1.2.2.2 x.2.2.1 x.2.2.2.1 x.2.2.2.2.1 x.2.2.2.2.2.1 x.2.2.2.2.2.2] := by kernel_rfl
theorem script_Parse_sndk (k : Nat) : Snd Tryd.prog S ⟨8, [.val (.data (.st 0)), .val (.data .str)], [.val (.data (.st 7)), .val (.data (.int .i64))], fun x => script_Parse_f k x.1 x.2⟩ :=
  fn_ok progOk (T := (script_Parse_T)) (all_cons p_Split_snd15 (all_cons lex_Name_snd (all_cons p_ParseInt_snd17 (all_cons p_FormatInt_snd18 (all_cons slices_Index_string_string_snd (all_nil)))))) (all_nil) mixed Tryd.func8 rfl (by kernel_rfl) (ac_code [3, 10] Tryd.f8 rfl) (L := script_Parse_L)
    (fun n l h x => by match n, h with
        | 0, h => cases h
        | 1, h => 
          rcases List.mem_cons.1 h with rfl | h
          · rfl
          cases h
        | 2, h => cases h
        | 3, h => 
          rcases List.mem_cons.1 h with rfl | h
          · rfl
          cases h
        | _ + 4, h => cases h) (fun k n l h => by match n, h with
        | 0, h => cases h
        | 1, h => 
          rcases List.mem_cons.1 h with rfl | h
          · rfl
          cases h
        | 2, h => cases h
        | 3, h => 
          rcases List.mem_cons.1 h with rfl | h
          · rfl
          cases h
        | _ + 4, h => cases h)
    (fun k => All.mem (script_Parse_vc k) ⟨fun _ => rfl, ⟨fun _ => rfl, trivial⟩⟩) (fun x r h => ⟨k, (script_Parse_eq k x.1 x.2).symm.trans h⟩) (by kernel_rfl) (by kernel_rfl) (Nat.le_of_ble_eq_true (by kernel_rfl))
theorem script_Parse_snd : Snd Tryd.prog S ⟨8, [.val (.data (.st 0)), .val (.data .str)], [.val (.data (.st 7)), .val (.data (.int .i64))], fun x => script_Parse x.1 x.2⟩ := Snd.lim (script_Parse_sndk)
/-! ### 24 cotillion/script.message -/
noncomputable def script_message  (m : api_Msg) : Option (List UInt8) := if s_v.length + m.Event.length ≤ 9223372036854775807 then
    if (s_v ++ m.Event).length + s_v.length ≤ 9223372036854775807 then
    (p_FormatInt m.N 10).bind fun r1 =>
    if ((s_v ++ m.Event) ++ s_v).length + r1.length ≤ 9223372036854775807 then
    some (((s_v ++ m.Event) ++ s_v) ++ r1) else none else none else none
noncomputable abbrev script_message_T : Tab S := ⟨[⟨18, [.val (.data (.int .i64)), .val (.data (.int .i64))], [.val (.data .str)], fun x => p_FormatInt x.1 x.2⟩], [], false, false⟩
noncomputable def script_message_L (k : Nat) : Nat → List (Lab S (List UInt8))
  | _ => []
theorem script_message_eq (k : Nat) (m : api_Msg) : script_message m = exec S (script_message_T) byt (labs S (script_message_T) (script_message_L k)) (ac [] Tryd.f24) (frame0 S [.val (.data (.st 8))] m) (retK S (script_message_T) Tryd.f24 [.val (.data (.st 8))] [.val (.data .str)]) := by kernel_rfl
theorem script_message_vc (k : Nat) : VC S (script_message_T) byt (script_message_L k) (script_message_L (k + 1)) (ac [] Tryd.f24) (retK S (script_message_T) Tryd.f24 [.val (.data (.st 8))] [.val (.data .str)]) = [] := by kernel_rfl
theorem script_message_snd : Snd Tryd.prog S ⟨24, [.val (.data (.st 8))], [.val (.data .str)], fun x => script_message x⟩ :=
  fn_ok progOk (T := (script_message_T)) (all_cons p_FormatInt_snd18 (all_nil)) (all_nil) mixed Tryd.func24 rfl (by kernel_rfl) (ac_code [] Tryd.f24 rfl) (L := script_message_L)
    (fun n l h x => by cases h) (fun k n l h => by cases h)
    (fun k => All.mem (script_message_vc k) trivial) (fun x r h => ⟨0, (script_message_eq 0 x).symm.trans h⟩) (by kernel_rfl) (by kernel_rfl) (Nat.le_of_ble_eq_true (by kernel_rfl))
/-! ### 12 cotillion/script.Print -/
noncomputable def script_Print_c1 : Nat → Int → (List api_Table) → (List api_Part) → (List api_Line) → (List (List UInt8)) → (List (List UInt8)) → Int → Int → (List UInt8) → Int → (List UInt8) → Option (List UInt8 × Int)
  | 0, _, _, _, _, _, _, _, _, _, _, _ => none
  | k + 1, n_Age, n_Tables, n_Parts, n_Lines, n_Insts, n_Chans, o_Kind, o_Inst, o_Msg_Event, o_Msg_N, line => (script_Parse (api_Net.mk n_Age n_Tables n_Parts n_Lines n_Insts n_Chans) line).bind fun r2 =>
    if r2.2 ≠ 0 then
    some ([], 1) else
    if ¬ (r2.1.Kind = o_Kind ∧ r2.1.Inst = o_Inst ∧ r2.1.Msg.Event = o_Msg_Event ∧ r2.1.Msg.N = o_Msg_N) then
    some ([], 1) else
    some (line, 0)
noncomputable def script_Print_c0 : Nat → Int → (List api_Table) → (List api_Part) → (List api_Line) → (List (List UInt8)) → (List (List UInt8)) → Int → Int → (List UInt8) → Int → (List UInt8) → Option (List UInt8 × Int)
  | 0, _, _, _, _, _, _, _, _, _, _, _ => none
  | k + 1, n_Age, n_Tables, n_Parts, n_Lines, n_Insts, n_Chans, o_Kind, o_Inst, o_Msg_Event, o_Msg_N, inst => if o_Kind = 1 then
    if s_start_.length + inst.length ≤ 9223372036854775807 then
    script_Print_c1 k n_Age n_Tables n_Parts n_Lines n_Insts n_Chans o_Kind o_Inst o_Msg_Event o_Msg_N (s_start_ ++ inst) else none else
    if o_Kind = 2 then
    if s_stop_.length + inst.length ≤ 9223372036854775807 then
    script_Print_c1 k n_Age n_Tables n_Parts n_Lines n_Insts n_Chans o_Kind o_Inst o_Msg_Event o_Msg_N (s_stop_ ++ inst) else none else
    if o_Kind = 3 then
    if s_post_.length + inst.length ≤ 9223372036854775807 then
    (script_message (api_Msg.mk o_Msg_Event o_Msg_N)).bind fun r1 =>
    if (s_post_ ++ inst).length + r1.length ≤ 9223372036854775807 then
    script_Print_c1 k n_Age n_Tables n_Parts n_Lines n_Insts n_Chans o_Kind o_Inst o_Msg_Event o_Msg_N ((s_post_ ++ inst) ++ r1) else none else none else
    if o_Kind = 4 then
    script_Print_c1 k n_Age n_Tables n_Parts n_Lines n_Insts n_Chans o_Kind o_Inst o_Msg_Event o_Msg_N s_tick else
    if o_Kind = 5 then
    script_Print_c1 k n_Age n_Tables n_Parts n_Lines n_Insts n_Chans o_Kind o_Inst o_Msg_Event o_Msg_N s_run else
    script_Print_c1 k n_Age n_Tables n_Parts n_Lines n_Insts n_Chans o_Kind o_Inst o_Msg_Event o_Msg_N []
noncomputable def script_Print_f (k : Nat) (n : api_Net) (o : api_Op) : Option (List UInt8 × Int) := if 0 ≤ o.Inst then
    if o.Inst < (n.Insts.length : Int) then
    if 0 ≤ o.Inst then
    if o.Inst < (n.Insts.length : Int) then
    script_Print_c0 k n.Age n.Tables n.Parts n.Lines n.Insts n.Chans o.Kind o.Inst o.Msg.Event o.Msg.N (n.Insts.getD o.Inst.toNat []) else none else none else
    script_Print_c0 k n.Age n.Tables n.Parts n.Lines n.Insts n.Chans o.Kind o.Inst o.Msg.Event o.Msg.N [] else
    script_Print_c0 k n.Age n.Tables n.Parts n.Lines n.Insts n.Chans o.Kind o.Inst o.Msg.Event o.Msg.N []
noncomputable def script_Print  (n : api_Net) (o : api_Op) : Option (List UInt8 × Int) := lim (fun k (x : api_Net × api_Op) => script_Print_f k x.1 x.2) (n, o)
noncomputable abbrev script_Print_T : Tab S := ⟨[⟨24, [.val (.data (.st 8))], [.val (.data .str)], fun x => script_message x⟩, ⟨8, [.val (.data (.st 0)), .val (.data .str)], [.val (.data (.st 7)), .val (.data (.int .i64))], fun x => script_Parse x.1 x.2⟩], [], false, false⟩
noncomputable def script_Print_L (k : Nat) : Nat → List (Lab S (List UInt8 × Int))
  | 0 => []
  | 1 => [⟨[2, 3, 6], [.obj [.data (.int .i64), .data (.sl (.st 1)), .data (.sl (.st 5)), .data (.sl (.st 6)), .data (.sl .str), .data (.sl .str)], .obj [.data (.int .i64), .data (.int .i64), .data .str, .data (.int .i64)], .val (.data .str)], fun x => script_Print_c0 k x.1.1 x.1.2.1 x.1.2.2.1 x.1.2.2.2.1 x.1.2.2.2.2.1 x.1.2.2.2.2.2 x.2.1.1 x.2.1.2.1 x.2.1.2.2.1 x.2.1.2.2.2 x.2.2⟩]
  | 2 => []
  | 3 => [⟨[2, 3, 7], [.obj [.data (.int .i64), .data (.sl (.st 1)), .data (.sl (.st 5)), .data (.sl (.st 6)), .data (.sl .str), .data (.sl .str)], .obj [.data (.int .i64), .data (.int .i64), .data .str, .data (.int .i64)], .val (.data .str)], fun x => script_Print_c1 k x.1.1 x.1.2.1 x.1.2.2.1 x.1.2.2.2.1 x.1.2.2.2.2.1 x.1.2.2.2.2.2 x.2.1.1 x.2.1.2.1 x.2.1.2.2.1 x.2.1.2.2.2 x.2.2⟩]
  | _ + 4 => []
theorem script_Print_eq (k : Nat) (n : api_Net) (o : api_Op) : script_Print_f k n o = exec S (script_Print_T) byt (labs S (script_Print_T) (script_Print_L k)) (ac [2, 5] Tryd.f12) (frame0 S [.val (.data (.st 0)), .val (.data (.st 7))] (n, o)) (retK S (script_Print_T) Tryd.f12 [.val (.data (.st 0)), .val (.data (.st 7))] [.val (.data .str), .val (.data (.int .i64))]) := by kernel_rfl
theorem script_Print_vc (k : Nat) : VC S (script_Print_T) byt (script_Print_L k) (script_Print_L (k + 1)) (ac [2, 5] Tryd.f12) (retK S (script_Print_T) Tryd.f12 [.val (.data (.st 0)), .val (.data (.st 7))] [.val (.data .str), .val (.data (.int .i64))]) = [∀ x : (Int × List api_Table × List api_Part × List api_Line × List (List UInt8) × List (List UInt8)) × (Int × Int × List UInt8 × Int) × List UInt8, script_Print_c1 (k + 1) x.1.1 x.1.2.1 x.1.2.2.1 x.1.2.2.2.1 x.1.2.2.2.2.1 x.1.2.2.2.2.2 x.2.1.1 x.2.1.2.1 x.2.1.2.2.1 x.2.1.2.2.2 x.2.2 = script_Print_c1 (k + 1) x.1.1 x.1.2.1 x.1.2.2.1 x.1.2.2.2.1 x.1.2.2.2.2.1 x.1.2.2.2.2.2 x.2.1.1 x.2.1.2.1 x.2.1.2.2.1 x.2.1.2.2.2 x.2.2, ∀ x : (Int × List api_Table × List api_Part × List api_Line × List (List UInt8) × List (List UInt8)) × (Int × Int × List UInt8 × Int) × List UInt8, script_Print_c0 (k + 1) x.1.1 x.1.2.1 x.1.2.2.1 x.1.2.2.2.1 x.1.2.2.2.2.1 x.1.2.2.2.2.2 x.2.1.1 x.2.1.2.1 x.2.1.2.2.1 x.2.1.2.2.2 x.2.2 = script_Print_c0 (k + 1) x.1.1 x.1.2.1 x.1.2.2.1 x.1.2.2.2.1 x.1.2.2.2.2.1 x.1.2.2.2.2.2 x.2.1.1 x.2.1.2.1 x.2.1.2.2.1 x.2.1.2.2.2 x.2.2] := by kernel_rfl
theorem script_Print_sndk (k : Nat) : Snd Tryd.prog S ⟨12, [.val (.data (.st 0)), .val (.data (.st 7))], [.val (.data .str), .val (.data (.int .i64))], fun x => script_Print_f k x.1 x.2⟩ :=
  fn_ok progOk (T := (script_Print_T)) (all_cons script_message_snd (all_cons script_Parse_snd (all_nil))) (all_nil) mixed Tryd.func12 rfl (by kernel_rfl) (ac_code [2, 5] Tryd.f12 rfl) (L := script_Print_L)
    (fun n l h x => by match n, h with
        | 0, h => cases h
        | 1, h => 
          rcases List.mem_cons.1 h with rfl | h
          · rfl
          cases h
        | 2, h => cases h
        | 3, h => 
          rcases List.mem_cons.1 h with rfl | h
          · rfl
          cases h
        | _ + 4, h => cases h) (fun k n l h => by match n, h with
        | 0, h => cases h
        | 1, h => 
          rcases List.mem_cons.1 h with rfl | h
          · rfl
          cases h
        | 2, h => cases h
        | 3, h => 
          rcases List.mem_cons.1 h with rfl | h
          · rfl
          cases h
        | _ + 4, h => cases h)
    (fun k => All.mem (script_Print_vc k) ⟨fun _ => rfl, ⟨fun _ => rfl, trivial⟩⟩) (fun x r h => ⟨k, (script_Print_eq k x.1 x.2).symm.trans h⟩) (by kernel_rfl) (by kernel_rfl) (Nat.le_of_ble_eq_true (by kernel_rfl))
theorem script_Print_snd : Snd Tryd.prog S ⟨12, [.val (.data (.st 0)), .val (.data (.st 7))], [.val (.data .str), .val (.data (.int .i64))], fun x => script_Print x.1 x.2⟩ := Snd.lim (script_Print_sndk)
/-! ### 26 cotillion/script.name -/
noncomputable def script_name  (l : List (List UInt8)) (i : Int) : Option (List UInt8) := if i < 0 then
    some s_v else
    if (l.length : Int) ≤ i then
    some s_v else
    if 0 ≤ i then
    if i < (l.length : Int) then
    if s_v.length + (l.getD i.toNat []).length ≤ 9223372036854775807 then
    some (s_v ++ (l.getD i.toNat [])) else none else none else none
noncomputable abbrev script_name_T : Tab S := ⟨[], [], false, false⟩
noncomputable def script_name_L (k : Nat) : Nat → List (Lab S (List UInt8))
  | _ => []
theorem script_name_eq (k : Nat) (l : List (List UInt8)) (i : Int) : script_name l i = exec S (script_name_T) byt (labs S (script_name_T) (script_name_L k)) (ac [] Tryd.f26) (frame0 S [.val (.data (.sl .str)), .val (.data (.int .i64))] (l, i)) (retK S (script_name_T) Tryd.f26 [.val (.data (.sl .str)), .val (.data (.int .i64))] [.val (.data .str)]) := by kernel_rfl
theorem script_name_vc (k : Nat) : VC S (script_name_T) byt (script_name_L k) (script_name_L (k + 1)) (ac [] Tryd.f26) (retK S (script_name_T) Tryd.f26 [.val (.data (.sl .str)), .val (.data (.int .i64))] [.val (.data .str)]) = [] := by kernel_rfl
theorem script_name_snd : Snd Tryd.prog S ⟨26, [.val (.data (.sl .str)), .val (.data (.int .i64))], [.val (.data .str)], fun x => script_name x.1 x.2⟩ :=
  fn_ok progOk (T := (script_name_T)) (all_nil) (all_nil) mixed Tryd.func26 rfl (by kernel_rfl) (ac_code [] Tryd.f26 rfl) (L := script_name_L)
    (fun n l h x => by cases h) (fun k n l h => by cases h)
    (fun k => All.mem (script_name_vc k) trivial) (fun x r h => ⟨0, (script_name_eq 0 x.1 x.2).symm.trans h⟩) (by kernel_rfl) (by kernel_rfl) (Nat.le_of_ble_eq_true (by kernel_rfl))
/-! ### 29 cotillion/script.table -/
noncomputable def script_table_c0 : Nat → Int → Int → (List api_Table) → (List api_Part) → (List api_Line) → (List (List UInt8)) → (List (List UInt8)) → (List UInt8) → Int → Int → (List Int) → (List (List UInt8)) → (List (List UInt8)) → (List api_Node) → (List api_Edge) → (List (List api_Ins)) → Option api_Table
  | 0, _, _, _, _, _, _, _, _, _, _, _, _, _, _, _, _ => none
  | k + 1, i, n_Age, n_Tables, n_Parts, n_Lines, n_Insts, n_Chans, x4_Name, x4_Steps, x4_Fuel, x4_Vars, x4_Ports, x4_Timers, x4_Nodes, x4_Edges, x4_Codes => if 0 ≤ i then
    if i < (n_Parts.length : Int) then
    if 0 ≤ ((n_Parts.getD i.toNat api_Part.z).Chart) then
    if ((n_Parts.getD i.toNat api_Part.z).Chart) < (n_Tables.length : Int) then
    some (n_Tables.getD ((n_Parts.getD i.toNat api_Part.z).Chart).toNat api_Table.z) else none else none else none else none
noncomputable def script_table_f (k : Nat) (n : api_Net) (i : Int) : Option api_Table := if i < 0 then
    some (api_Table.mk [] 0 0 [] [] [] [] [] []) else
    if (n.Parts.length : Int) ≤ i then
    some (api_Table.mk [] 0 0 [] [] [] [] [] []) else
    if 0 ≤ i then
    if i < (n.Parts.length : Int) then
    if ((n.Parts.getD i.toNat api_Part.z).Chart) < 0 then
    some (api_Table.mk [] 0 0 [] [] [] [] [] []) else
    if 0 ≤ i then
    if i < (n.Parts.length : Int) then
    if (n.Tables.length : Int) ≤ ((n.Parts.getD i.toNat api_Part.z).Chart) then
    some (api_Table.mk [] 0 0 [] [] [] [] [] []) else
    script_table_c0 k i n.Age n.Tables n.Parts n.Lines n.Insts n.Chans [] 0 0 [] [] [] [] [] [] else none else none else none else none
noncomputable def script_table  (n : api_Net) (i : Int) : Option api_Table := lim (fun k (x : api_Net × Int) => script_table_f k x.1 x.2) (n, i)
noncomputable abbrev script_table_T : Tab S := ⟨[], [], false, false⟩
noncomputable def script_table_L (k : Nat) : Nat → List (Lab S api_Table)
  | 0 => []
  | 1 => [⟨[1, 2, 4], [.val (.data (.int .i64)), .obj [.data (.int .i64), .data (.sl (.st 1)), .data (.sl (.st 5)), .data (.sl (.st 6)), .data (.sl .str), .data (.sl .str)], .obj [.data .str, .data (.int .i64), .data (.int .i64), .marr (.int .i64), .marr .str, .marr .str, .marr (.st 2), .marr (.st 3), .marr (.sl (.st 4))]], fun x => script_table_c0 k x.1 x.2.1.1 x.2.1.2.1 x.2.1.2.2.1 x.2.1.2.2.2.1 x.2.1.2.2.2.2.1 x.2.1.2.2.2.2.2 x.2.2.1 x.2.2.2.1 x.2.2.2.2.1 x.2.2.2.2.2.1 x.2.2.2.2.2.2.1 x.2.2.2.2.2.2.2.1 x.2.2.2.2.2.2.2.2.1 x.2.2.2.2.2.2.2.2.2.1 x.2.2.2.2.2.2.2.2.2.2⟩]
  | _ + 2 => []
theorem script_table_eq (k : Nat) (n : api_Net) (i : Int) : script_table_f k n i = exec S (script_table_T) byt (labs S (script_table_T) (script_table_L k)) (ac [1] Tryd.f29) (frame0 S [.val (.data (.st 0)), .val (.data (.int .i64))] (n, i)) (retK S (script_table_T) Tryd.f29 [.val (.data (.st 0)), .val (.data (.int .i64))] [.val (.data (.st 1))]) := by kernel_rfl
theorem script_table_vc (k : Nat) : VC S (script_table_T) byt (script_table_L k) (script_table_L (k + 1)) (ac [1] Tryd.f29) (retK S (script_table_T) Tryd.f29 [.val (.data (.st 0)), .val (.data (.int .i64))] [.val (.data (.st 1))]) = [∀ x : Int × (Int × List api_Table × List api_Part × List api_Line × List (List UInt8) × List (List UInt8)) × (List UInt8 × Int × Int × List Int × List (List UInt8) × List (List UInt8) × List api_Node × List api_Edge × List (List api_Ins)), script_table_c0 (k + 1) x.1 x.2.1.1 x.2.1.2.1 x.2.1.2.2.1 x.2.1.2.2.2.1 x.2.1.2.2.2.2.1 x.2.1.2.2.2.2.2 x.2.2.1 x.2.2.2.1 x.2.2.2.2.1 x.2.2.2.2.2.1 x.2.2.2.2.2.2.1 x.2.2.2.2.2.2.2.1 x.2.2.2.2.2.2.2.2.1 x.2.2.2.2.2.2.2.2.2.1 x.2.2.2.2.2.2.2.2.2.2 = script_table_c0 (k + 1) x.1 x.2.1.1 x.2.1.2.1 x.2.1.2.2.1 x.2.1.2.2.2.1 x.2.1.2.2.2.2.1 x.2.1.2.2.2.2.2 x.2.2.1 x.2.2.2.1 x.2.2.2.2.1 x.2.2.2.2.2.1 x.2.2.2.2.2.2.1 x.2.2.2.2.2.2.2.1 x.2.2.2.2.2.2.2.2.1 x.2.2.2.2.2.2.2.2.2.1 x.2.2.2.2.2.2.2.2.2.2] := by kernel_rfl
theorem script_table_sndk (k : Nat) : Snd Tryd.prog S ⟨29, [.val (.data (.st 0)), .val (.data (.int .i64))], [.val (.data (.st 1))], fun x => script_table_f k x.1 x.2⟩ :=
  fn_ok progOk (T := (script_table_T)) (all_nil) (all_nil) mixed Tryd.func29 rfl (by kernel_rfl) (ac_code [1] Tryd.f29 rfl) (L := script_table_L)
    (fun n l h x => by match n, h with
        | 0, h => cases h
        | 1, h => 
          rcases List.mem_cons.1 h with rfl | h
          · rfl
          cases h
        | _ + 2, h => cases h) (fun k n l h => by match n, h with
        | 0, h => cases h
        | 1, h => 
          rcases List.mem_cons.1 h with rfl | h
          · rfl
          cases h
        | _ + 2, h => cases h)
    (fun k => All.mem (script_table_vc k) ⟨fun _ => rfl, trivial⟩) (fun x r h => ⟨k, (script_table_eq k x.1 x.2).symm.trans h⟩) (by kernel_rfl) (by kernel_rfl) (Nat.le_of_ble_eq_true (by kernel_rfl))
theorem script_table_snd : Snd Tryd.prog S ⟨29, [.val (.data (.st 0)), .val (.data (.int .i64))], [.val (.data (.st 1))], fun x => script_table x.1 x.2⟩ := Snd.lim (script_table_sndk)
/-! ### 41 cotillion/script.Where -/
noncomputable def script_Where_l1 : Nat → (List (List UInt8)) → (List (List UInt8)) → (List Int) → Int → Int → Option (List UInt8)
  | 0, _, _, _, _, _ => none
  | k + 1, names, vars, x44, x45, x46 => if x46 < x45 then
    if 0 ≤ x46 then
    if x46 < (x44.length : Int) then
    (p_FormatInt (x44.getD x46.toNat 0) 10).bind fun r2 =>
    if (vars.length + [r2].length) * 16 ≤ 140737488355328 then
    script_Where_l1 k names (vars ++ [r2]) x44 x45 (w64 (x46 + 1)) else none else none else none else
    (p_Join names s_v_).bind fun r3 =>
    if s_v_in_.length + r3.length ≤ 9223372036854775807 then
    if 0 < (vars.length : Int) then
    (p_Join vars s_v__).bind fun r4 =>
    if s_v_with.length + r4.length ≤ 9223372036854775807 then
    if (s_v_in_ ++ r3).length + (s_v_with ++ r4).length ≤ 9223372036854775807 then
    some ((s_v_in_ ++ r3) ++ (s_v_with ++ r4)) else none else none else
    some (s_v_in_ ++ r3) else none
noncomputable def script_Where_l0 : Nat → Int → Int → (List api_Table) → (List api_Part) → (List api_Line) → (List (List UInt8)) → (List (List UInt8)) → (List Int) → (List Int) → (List (List Int)) → (List (List UInt8)) → (List (List UInt8)) → (List Int) → Int → Int → Option (List UInt8)
  | 0, _, _, _, _, _, _, _, _, _, _, _, _, _, _, _ => none
  | k + 1, i, n_Age, n_Tables, n_Parts, n_Lines, n_Insts, n_Chans, l_Conf, l_Vars, l_Hist, names, vars, x16, x17, x18 => if x18 < x17 then
    if 0 ≤ x18 then
    if x18 < (x16.length : Int) then
    (script_table (api_Net.mk n_Age n_Tables n_Parts n_Lines n_Insts n_Chans) i).bind fun r1 =>
    if 0 < (x16.getD x18.toNat 0) then
    if (x16.getD x18.toNat 0) < (r1.Nodes.length : Int) then
    if 0 ≤ (x16.getD x18.toNat 0) then
    if (x16.getD x18.toNat 0) < (r1.Nodes.length : Int) then
    if (names.length + [(r1.Nodes.getD (x16.getD x18.toNat 0).toNat api_Node.z).Name].length) * 16 ≤ 140737488355328 then
    script_Where_l0 k i n_Age n_Tables n_Parts n_Lines n_Insts n_Chans l_Conf l_Vars l_Hist (names ++ [(r1.Nodes.getD (x16.getD x18.toNat 0).toNat api_Node.z).Name]) vars x16 x17 (w64 (x18 + 1)) else none else none else none else
    script_Where_l0 k i n_Age n_Tables n_Parts n_Lines n_Insts n_Chans l_Conf l_Vars l_Hist names vars x16 x17 (w64 (x18 + 1)) else
    script_Where_l0 k i n_Age n_Tables n_Parts n_Lines n_Insts n_Chans l_Conf l_Vars l_Hist names vars x16 x17 (w64 (x18 + 1)) else none else none else
    script_Where_l1 k names vars l_Vars (l_Vars.length : Int) 0
noncomputable def script_Where_f (k : Nat) (n : api_Net) (i : Int) (l : api_Life) : Option (List UInt8) := script_Where_l0 k i n.Age n.Tables n.Parts n.Lines n.Insts n.Chans l.Conf l.Vars l.Hist [] [] l.Conf (l.Conf.length : Int) 0
noncomputable def script_Where  (n : api_Net) (i : Int) (l : api_Life) : Option (List UInt8) := lim (fun k (x : api_Net × Int × api_Life) => script_Where_f k x.1 x.2.1 x.2.2) (n, i, l)
noncomputable abbrev script_Where_T : Tab S := ⟨[⟨29, [.val (.data (.st 0)), .val (.data (.int .i64))], [.val (.data (.st 1))], fun x => script_table x.1 x.2⟩, ⟨18, [.val (.data (.int .i64)), .val (.data (.int .i64))], [.val (.data .str)], fun x => p_FormatInt x.1 x.2⟩, ⟨58, [.val (.data (.sl .str)), .val (.data .str)], [.val (.data .str)], fun x => p_Join x.1 x.2⟩], [], false, false⟩
noncomputable def script_Where_L (k : Nat) : Nat → List (Lab S (List UInt8))
  | 0 => [⟨[1, 3, 5, 7, 8, 16, 17, 18], [.val (.data (.int .i64)), .obj [.data (.int .i64), .data (.sl (.st 1)), .data (.sl (.st 5)), .data (.sl (.st 6)), .data (.sl .str), .data (.sl .str)], .obj [.data (.sl (.int .i64)), .data (.sl (.int .i64)), .data (.sl (.sl (.int .i64)))], .val (.town .str), .val (.town .str), .val (.data (.sl (.int .i64))), .val (.data (.int .i64)), .val (.data (.int .i64))], fun x => script_Where_l0 k x.1 x.2.1.1 x.2.1.2.1 x.2.1.2.2.1 x.2.1.2.2.2.1 x.2.1.2.2.2.2.1 x.2.1.2.2.2.2.2 x.2.2.1.1 x.2.2.1.2.1 x.2.2.1.2.2 x.2.2.2.1 x.2.2.2.2.1 x.2.2.2.2.2.1 x.2.2.2.2.2.2.1 x.2.2.2.2.2.2.2⟩]
  | 1 => []
  | 2 => [⟨[7, 8, 44, 45, 46], [.val (.town .str), .val (.town .str), .val (.data (.sl (.int .i64))), .val (.data (.int .i64)), .val (.data (.int .i64))], fun x => script_Where_l1 k x.1 x.2.1 x.2.2.1 x.2.2.2.1 x.2.2.2.2⟩]
  | _ + 3 => []
theorem script_Where_eq (k : Nat) (n : api_Net) (i : Int) (l : api_Life) : script_Where_f k n i l = exec S (script_Where_T) byt (labs S (script_Where_T) (script_Where_L k)) (ac [] Tryd.f41) (frame0 S [.val (.data (.st 0)), .val (.data (.int .i64)), .val (.data (.st 14))] (n, i, l)) (retK S (script_Where_T) Tryd.f41 [.val (.data (.st 0)), .val (.data (.int .i64)), .val (.data (.st 14))] [.val (.data .str)]) := by kernel_rfl
theorem script_Where_vc (k : Nat) : VC S (script_Where_T) byt (script_Where_L k) (script_Where_L (k + 1)) (ac [] Tryd.f41) (retK S (script_Where_T) Tryd.f41 [.val (.data (.st 0)), .val (.data (.int .i64)), .val (.data (.st 14))] [.val (.data .str)]) = [∀ x : Int × (Int × List api_Table × List api_Part × List api_Line × List (List UInt8) × List (List UInt8)) × (List Int × List Int × List (List Int)) × List (List UInt8) × List (List UInt8) × List Int × Int × Int, script_Where_l0 (k + 1) x.1 x.2.1.1 x.2.1.2.1 x.2.1.2.2.1 x.2.1.2.2.2.1 x.2.1.2.2.2.2.1 x.2.1.2.2.2.2.2 x.2.2.1.1 x.2.2.1.2.1 x.2.2.1.2.2 x.2.2.2.1 x.2.2.2.2.1 x.2.2.2.2.2.1 x.2.2.2.2.2.2.1 x.2.2.2.2.2.2.2 = script_Where_l0 (k + 1) x.1 x.2.1.1 x.2.1.2.1 x.2.1.2.2.1 x.2.1.2.2.2.1 x.2.1.2.2.2.2.1 x.2.1.2.2.2.2.2 x.2.2.1.1 x.2.2.1.2.1 x.2.2.1.2.2 x.2.2.2.1 x.2.2.2.2.1 x.2.2.2.2.2.1 x.2.2.2.2.2.2.1 x.2.2.2.2.2.2.2, ∀ x : List (List UInt8) × List (List UInt8) × List Int × Int × Int, script_Where_l1 (k + 1) x.1 x.2.1 x.2.2.1 x.2.2.2.1 x.2.2.2.2 = script_Where_l1 (k + 1) x.1 x.2.1 x.2.2.1 x.2.2.2.1 x.2.2.2.2] := by kernel_rfl
theorem script_Where_sndk (k : Nat) : Snd Tryd.prog S ⟨41, [.val (.data (.st 0)), .val (.data (.int .i64)), .val (.data (.st 14))], [.val (.data .str)], fun x => script_Where_f k x.1 x.2.1 x.2.2⟩ :=
  fn_ok progOk (T := (script_Where_T)) (all_cons script_table_snd (all_cons p_FormatInt_snd18 (all_cons p_Join_snd58 (all_nil)))) (all_nil) mixed Tryd.func41 rfl (by kernel_rfl) (ac_code [] Tryd.f41 rfl) (L := script_Where_L)
    (fun n l h x => by match n, h with
        | 0, h => 
          rcases List.mem_cons.1 h with rfl | h
          · rfl
          cases h
        | 1, h => cases h
        | 2, h => 
          rcases List.mem_cons.1 h with rfl | h
          · rfl
          cases h
        | _ + 3, h => cases h) (fun k n l h => by match n, h with
        | 0, h => 
          rcases List.mem_cons.1 h with rfl | h
          · rfl
          cases h
        | 1, h => cases h
        | 2, h => 
          rcases List.mem_cons.1 h with rfl | h
          · rfl
          cases h
        | _ + 3, h => cases h)
    (fun k => All.mem (script_Where_vc k) ⟨fun _ => rfl, ⟨fun _ => rfl, trivial⟩⟩) (fun x r h => ⟨k, (script_Where_eq k x.1 x.2.1 x.2.2).symm.trans h⟩) (by kernel_rfl) (by kernel_rfl) (Nat.le_of_ble_eq_true (by kernel_rfl))
theorem script_Where_snd : Snd Tryd.prog S ⟨41, [.val (.data (.st 0)), .val (.data (.int .i64)), .val (.data (.st 14))], [.val (.data .str)], fun x => script_Where x.1 x.2.1 x.2.2⟩ := Snd.lim (script_Where_sndk)
/-! ### 28 cotillion/script.number -/
noncomputable def script_number  (n : Int) : Option (List UInt8) := (p_Itoa n).bind fun r1 => some r1
noncomputable abbrev script_number_T : Tab S := ⟨[⟨44, [.val (.data (.int .i64))], [.val (.data .str)], fun x => p_Itoa x⟩], [], false, false⟩
noncomputable def script_number_L (k : Nat) : Nat → List (Lab S (List UInt8))
  | _ => []
theorem script_number_eq (k : Nat) (n : Int) : script_number n = exec S (script_number_T) byt (labs S (script_number_T) (script_number_L k)) (ac [] Tryd.f28) (frame0 S [.val (.data (.int .i64))] n) (retK S (script_number_T) Tryd.f28 [.val (.data (.int .i64))] [.val (.data .str)]) := by kernel_rfl
theorem script_number_vc (k : Nat) : VC S (script_number_T) byt (script_number_L k) (script_number_L (k + 1)) (ac [] Tryd.f28) (retK S (script_number_T) Tryd.f28 [.val (.data (.int .i64))] [.val (.data .str)]) = [] := by kernel_rfl
theorem script_number_snd : Snd Tryd.prog S ⟨28, [.val (.data (.int .i64))], [.val (.data .str)], fun x => script_number x⟩ :=
  fn_ok progOk (T := (script_number_T)) (all_cons p_Itoa_snd44 (all_nil)) (all_nil) mixed Tryd.func28 rfl (by kernel_rfl) (ac_code [] Tryd.f28 rfl) (L := script_number_L)
    (fun n l h x => by cases h) (fun k n l h => by cases h)
    (fun k => All.mem (script_number_vc k) trivial) (fun x r h => ⟨0, (script_number_eq 0 x).symm.trans h⟩) (by kernel_rfl) (by kernel_rfl) (Nat.le_of_ble_eq_true (by kernel_rfl))
/-! ### 42 cotillion/script.channel -/
noncomputable def script_channel  (n : api_Net) (i : Int) (port : Int) : Option Int := if i < 0 then
    some (-1) else
    if (n.Parts.length : Int) ≤ i then
    some (-1) else
    if port < 0 then
    some (-1) else
    if 0 ≤ i then
    if i < (n.Parts.length : Int) then
    if (((n.Parts.getD i.toNat api_Part.z).Out).length : Int) ≤ port then
    some (-1) else
    if 0 ≤ i then
    if i < (n.Parts.length : Int) then
    if 0 ≤ port then
    if port < (((n.Parts.getD i.toNat api_Part.z).Out).length : Int) then
    some (((n.Parts.getD i.toNat api_Part.z).Out).getD port.toNat 0) else none else none else none else none else none else none
noncomputable abbrev script_channel_T : Tab S := ⟨[], [], false, false⟩
noncomputable def script_channel_L (k : Nat) : Nat → List (Lab S Int)
  | _ => []
theorem script_channel_eq (k : Nat) (n : api_Net) (i : Int) (port : Int) : script_channel n i port = exec S (script_channel_T) byt (labs S (script_channel_T) (script_channel_L k)) (ac [] Tryd.f42) (frame0 S [.val (.data (.st 0)), .val (.data (.int .i64)), .val (.data (.int .i64))] (n, i, port)) (retK S (script_channel_T) Tryd.f42 [.val (.data (.st 0)), .val (.data (.int .i64)), .val (.data (.int .i64))] [.val (.data (.int .i64))]) := by kernel_rfl
theorem script_channel_vc (k : Nat) : VC S (script_channel_T) byt (script_channel_L k) (script_channel_L (k + 1)) (ac [] Tryd.f42) (retK S (script_channel_T) Tryd.f42 [.val (.data (.st 0)), .val (.data (.int .i64)), .val (.data (.int .i64))] [.val (.data (.int .i64))]) = [] := by kernel_rfl
theorem script_channel_snd : Snd Tryd.prog S ⟨42, [.val (.data (.st 0)), .val (.data (.int .i64)), .val (.data (.int .i64))], [.val (.data (.int .i64))], fun x => script_channel x.1 x.2.1 x.2.2⟩ :=
  fn_ok progOk (T := (script_channel_T)) (all_nil) (all_nil) mixed Tryd.func42 rfl (by kernel_rfl) (ac_code [] Tryd.f42 rfl) (L := script_channel_L)
    (fun n l h x => by cases h) (fun k n l h => by cases h)
    (fun k => All.mem (script_channel_vc k) trivial) (fun x r h => ⟨0, (script_channel_eq 0 x.1 x.2.1 x.2.2).symm.trans h⟩) (by kernel_rfl) (by kernel_rfl) (Nat.le_of_ble_eq_true (by kernel_rfl))
/-! ### 27 cotillion/script.tail -/
noncomputable def script_tail_l1 : Nat → Int → (List api_Table) → (List api_Part) → (List api_Line) → (List (List UInt8)) → (List (List UInt8)) → (List UInt8) → (List api_Gone) → Int → Int → Option (List UInt8)
  | 0, _, _, _, _, _, _, _, _, _, _ => none
  | k + 1, n_Age, n_Tables, n_Parts, n_Lines, n_Insts, n_Chans, b, x83, x84, x85 => if x85 < x84 then
    if 0 ≤ x85 then
    if x85 < (x83.length : Int) then
    (script_name n_Chans ((x83.getD x85.toNat api_Gone.z).Where)).bind fun r15 =>
    if s_gone.length + r15.length ≤ 9223372036854775807 then
    (script_message ((x83.getD x85.toNat api_Gone.z).Msg)).bind fun r16 =>
    if (s_gone ++ r15).length + r16.length ≤ 9223372036854775807 then
    (bldStr b ((s_gone ++ r15) ++ r16)).bind fun r17 =>
    script_tail_l1 k n_Age n_Tables n_Parts n_Lines n_Insts n_Chans r17.2.2 x83 x84 (w64 (x85 + 1)) else none else none else none else none else
    (bldRead b).bind fun r18 =>
    some r18.1
noncomputable def script_tail_l0 : Nat → Int → (List api_Table) → (List api_Part) → (List api_Line) → (List (List UInt8)) → (List (List UInt8)) → Int → Int → Int → Int → (List UInt8) → Int → (List api_Effect) → (List Int) → (List Int) → Int → (List api_Gone) → (List api_Fired) → (List UInt8) → (List api_Effect) → Int → Int → Option (List UInt8)
  | 0, _, _, _, _, _, _, _, _, _, _, _, _, _, _, _, _, _, _, _, _, _, _ => none
  | k + 1, n_Age, n_Tables, n_Parts, n_Lines, n_Insts, n_Chans, r__Kind, r__Inst, r__Queue, r__Code, r__Msg_Event, r__Msg_N, r__Effects, r__Conf, r__Vars, r__Cost, r__Gone, r__Fired, b, x26, x27, x28 => if x28 < x27 then
    if 0 ≤ x28 then
    if x28 < (x26.length : Int) then
    if ((x26.getD x28.toNat api_Effect.z).Kind) = 1 then
    (script_channel (api_Net.mk n_Age n_Tables n_Parts n_Lines n_Insts n_Chans) r__Inst ((x26.getD x28.toNat api_Effect.z).A)).bind fun r4 =>
    (script_name n_Chans r4).bind fun r5 =>
    if s_sent.length + r5.length ≤ 9223372036854775807 then
    (script_message ((x26.getD x28.toNat api_Effect.z).Msg)).bind fun r6 =>
    if (s_sent ++ r5).length + r6.length ≤ 9223372036854775807 then
    (bldStr b ((s_sent ++ r5) ++ r6)).bind fun r7 =>
    script_tail_l0 k n_Age n_Tables n_Parts n_Lines n_Insts n_Chans r__Kind r__Inst r__Queue r__Code r__Msg_Event r__Msg_N r__Effects r__Conf r__Vars r__Cost r__Gone r__Fired r7.2.2 x26 x27 (w64 (x28 + 1)) else none else none else
    if ((x26.getD x28.toNat api_Effect.z).Kind) = 2 then
    (script_table (api_Net.mk n_Age n_Tables n_Parts n_Lines n_Insts n_Chans) r__Inst).bind fun r8 =>
    (script_name r8.Timers ((x26.getD x28.toNat api_Effect.z).A)).bind fun r9 =>
    if s_armed.length + r9.length ≤ 9223372036854775807 then
    if (s_armed ++ r9).length + s_v.length ≤ 9223372036854775807 then
    (p_FormatInt (((x26.getD x28.toNat api_Effect.z).Msg).N) 10).bind fun r10 =>
    if ((s_armed ++ r9) ++ s_v).length + r10.length ≤ 9223372036854775807 then
    (bldStr b (((s_armed ++ r9) ++ s_v) ++ r10)).bind fun r11 =>
    script_tail_l0 k n_Age n_Tables n_Parts n_Lines n_Insts n_Chans r__Kind r__Inst r__Queue r__Code r__Msg_Event r__Msg_N r__Effects r__Conf r__Vars r__Cost r__Gone r__Fired r11.2.2 x26 x27 (w64 (x28 + 1)) else none else none else none else
    if ((x26.getD x28.toNat api_Effect.z).Kind) = 3 then
    (script_table (api_Net.mk n_Age n_Tables n_Parts n_Lines n_Insts n_Chans) r__Inst).bind fun r12 =>
    (script_name r12.Timers ((x26.getD x28.toNat api_Effect.z).A)).bind fun r13 =>
    if s_stopped.length + r13.length ≤ 9223372036854775807 then
    (bldStr b (s_stopped ++ r13)).bind fun r14 =>
    script_tail_l0 k n_Age n_Tables n_Parts n_Lines n_Insts n_Chans r__Kind r__Inst r__Queue r__Code r__Msg_Event r__Msg_N r__Effects r__Conf r__Vars r__Cost r__Gone r__Fired r14.2.2 x26 x27 (w64 (x28 + 1)) else none else
    script_tail_l0 k n_Age n_Tables n_Parts n_Lines n_Insts n_Chans r__Kind r__Inst r__Queue r__Code r__Msg_Event r__Msg_N r__Effects r__Conf r__Vars r__Cost r__Gone r__Fired b x26 x27 (w64 (x28 + 1)) else none else none else
    script_tail_l1 k n_Age n_Tables n_Parts n_Lines n_Insts n_Chans b r__Gone (r__Gone.length : Int) 0
noncomputable def script_tail_f (k : Nat) (n : api_Net) (r_ : api_Rec) : Option (List UInt8) := (script_Where n r_.Inst (api_Life.mk r_.Conf r_.Vars [])).bind fun r1 =>
    if r1.length + s_cost.length ≤ 9223372036854775807 then
    (script_number r_.Cost).bind fun r2 =>
    if (r1 ++ s_cost).length + r2.length ≤ 9223372036854775807 then
    (bldStr [] ((r1 ++ s_cost) ++ r2)).bind fun r3 =>
    script_tail_l0 k n.Age n.Tables n.Parts n.Lines n.Insts n.Chans r_.Kind r_.Inst r_.Queue r_.Code r_.Msg.Event r_.Msg.N r_.Effects r_.Conf r_.Vars r_.Cost r_.Gone r_.Fired r3.2.2 r_.Effects (r_.Effects.length : Int) 0 else none else none
noncomputable def script_tail  (n : api_Net) (r_ : api_Rec) : Option (List UInt8) := lim (fun k (x : api_Net × api_Rec) => script_tail_f k x.1 x.2) (n, r_)
noncomputable abbrev script_tail_T : Tab S := ⟨[⟨41, [.val (.data (.st 0)), .val (.data (.int .i64)), .val (.data (.st 14))], [.val (.data .str)], fun x => script_Where x.1 x.2.1 x.2.2⟩, ⟨28, [.val (.data (.int .i64))], [.val (.data .str)], fun x => script_number x⟩, ⟨40, [.bld, .val (.data .str)], [.val (.data (.int .i64)), .err], fun x => bldStr x.1 x.2⟩, ⟨42, [.val (.data (.st 0)), .val (.data (.int .i64)), .val (.data (.int .i64))], [.val (.data (.int .i64))], fun x => script_channel x.1 x.2.1 x.2.2⟩, ⟨26, [.val (.data (.sl .str)), .val (.data (.int .i64))], [.val (.data .str)], fun x => script_name x.1 x.2⟩, ⟨24, [.val (.data (.st 8))], [.val (.data .str)], fun x => script_message x⟩, ⟨29, [.val (.data (.st 0)), .val (.data (.int .i64))], [.val (.data (.st 1))], fun x => script_table x.1 x.2⟩, ⟨18, [.val (.data (.int .i64)), .val (.data (.int .i64))], [.val (.data .str)], fun x => p_FormatInt x.1 x.2⟩, ⟨43, [.bld], [.val (.data .str)], fun x => bldRead x⟩], [], false, false⟩
noncomputable def script_tail_L (k : Nat) : Nat → List (Lab S (List UInt8))
  | 0 => [⟨[2, 3, 5, 26, 27, 28], [.obj [.data (.int .i64), .data (.sl (.st 1)), .data (.sl (.st 5)), .data (.sl (.st 6)), .data (.sl .str), .data (.sl .str)], .obj [.data (.int .i64), .data (.int .i64), .data (.int .i64), .data (.int .i64), .data .str, .data (.int .i64), .data (.sl (.st 10)), .data (.sl (.int .i64)), .data (.sl (.int .i64)), .data (.int .i64), .data (.sl (.st 11)), .data (.sl (.st 12))], .bld, .val (.data (.sl (.st 10))), .val (.data (.int .i64)), .val (.data (.int .i64))], fun x => script_tail_l0 k x.1.1 x.1.2.1 x.1.2.2.1 x.1.2.2.2.1 x.1.2.2.2.2.1 x.1.2.2.2.2.2 x.2.1.1 x.2.1.2.1 x.2.1.2.2.1 x.2.1.2.2.2.1 x.2.1.2.2.2.2.1 x.2.1.2.2.2.2.2.1 x.2.1.2.2.2.2.2.2.1 x.2.1.2.2.2.2.2.2.2.1 x.2.1.2.2.2.2.2.2.2.2.1 x.2.1.2.2.2.2.2.2.2.2.2.1 x.2.1.2.2.2.2.2.2.2.2.2.2.1 x.2.1.2.2.2.2.2.2.2.2.2.2.2 x.2.2.1 x.2.2.2.1 x.2.2.2.2.1 x.2.2.2.2.2⟩]
  | 1 => []
  | 2 => [⟨[2, 5, 83, 84, 85], [.obj [.data (.int .i64), .data (.sl (.st 1)), .data (.sl (.st 5)), .data (.sl (.st 6)), .data (.sl .str), .data (.sl .str)], .bld, .val (.data (.sl (.st 11))), .val (.data (.int .i64)), .val (.data (.int .i64))], fun x => script_tail_l1 k x.1.1 x.1.2.1 x.1.2.2.1 x.1.2.2.2.1 x.1.2.2.2.2.1 x.1.2.2.2.2.2 x.2.1 x.2.2.1 x.2.2.2.1 x.2.2.2.2⟩]
  | _ + 3 => []
theorem script_tail_eq (k : Nat) (n : api_Net) (r_ : api_Rec) : script_tail_f k n r_ = exec S (script_tail_T) byt (labs S (script_tail_T) (script_tail_L k)) (ac [] Tryd.f27) (frame0 S [.val (.data (.st 0)), .val (.data (.st 9))] (n, r_)) (retK S (script_tail_T) Tryd.f27 [.val (.data (.st 0)), .val (.data (.st 9))] [.val (.data .str)]) := by kernel_rfl
theorem script_tail_vc (k : Nat) : VC S (script_tail_T) byt (script_tail_L k) (script_tail_L (k + 1)) (ac [] Tryd.f27) (retK S (script_tail_T) Tryd.f27 [.val (.data (.st 0)), .val (.data (.st 9))] [.val (.data .str)]) = [∀ x : (Int × List api_Table × List api_Part × List api_Line × List (List UInt8) × List (List UInt8)) × (Int × Int × Int × Int × List UInt8 × Int × List api_Effect × List Int × List Int × Int × List api_Gone × List api_Fired) × List UInt8 × List api_Effect × Int × Int, script_tail_l0 (k + 1) x.1.1 x.1.2.1 x.1.2.2.1 x.1.2.2.2.1 x.1.2.2.2.2.1 x.1.2.2.2.2.2 x.2.1.1 x.2.1.2.1 x.2.1.2.2.1 x.2.1.2.2.2.1 x.2.1.2.2.2.2.1 x.2.1.2.2.2.2.2.1 x.2.1.2.2.2.2.2.2.1 x.2.1.2.2.2.2.2.2.2.1 x.2.1.2.2.2.2.2.2.2.2.1 x.2.1.2.2.2.2.2.2.2.2.2.1 x.2.1.2.2.2.2.2.2.2.2.2.2.1 x.2.1.2.2.2.2.2.2.2.2.2.2.2 x.2.2.1 x.2.2.2.1 x.2.2.2.2.1 x.2.2.2.2.2 = script_tail_l0 (k + 1) x.1.1 x.1.2.1 x.1.2.2.1 x.1.2.2.2.1 x.1.2.2.2.2.1 x.1.2.2.2.2.2 x.2.1.1 x.2.1.2.1 x.2.1.2.2.1 x.2.1.2.2.2.1 x.2.1.2.2.2.2.1 x.2.1.2.2.2.2.2.1 x.2.1.2.2.2.2.2.2.1 x.2.1.2.2.2.2.2.2.2.1 x.2.1.2.2.2.2.2.2.2.2.1 x.2.1.2.2.2.2.2.2.2.2.2.1 x.2.1.2.2.2.2.2.2.2.2.2.2.1 x.2.1.2.2.2.2.2.2.2.2.2.2.2 x.2.2.1 x.2.2.2.1 x.2.2.2.2.1 x.2.2.2.2.2, ∀ x : (Int × List api_Table × List api_Part × List api_Line × List (List UInt8) × List (List UInt8)) × List UInt8 × List api_Gone × Int × Int, script_tail_l1 (k + 1) x.1.1 x.1.2.1 x.1.2.2.1 x.1.2.2.2.1 x.1.2.2.2.2.1 x.1.2.2.2.2.2 x.2.1 x.2.2.1 x.2.2.2.1 x.2.2.2.2 = script_tail_l1 (k + 1) x.1.1 x.1.2.1 x.1.2.2.1 x.1.2.2.2.1 x.1.2.2.2.2.1 x.1.2.2.2.2.2 x.2.1 x.2.2.1 x.2.2.2.1 x.2.2.2.2] := by kernel_rfl
theorem script_tail_sndk (k : Nat) : Snd Tryd.prog S ⟨27, [.val (.data (.st 0)), .val (.data (.st 9))], [.val (.data .str)], fun x => script_tail_f k x.1 x.2⟩ :=
  fn_ok progOk (T := (script_tail_T)) (all_cons script_Where_snd (all_cons script_number_snd (all_cons p_bldStr_snd40 (all_cons script_channel_snd (all_cons script_name_snd (all_cons script_message_snd (all_cons script_table_snd (all_cons p_FormatInt_snd18 (all_cons p_bldRead_snd43 (all_nil)))))))))) (all_nil) mixed Tryd.func27 rfl (by kernel_rfl) (ac_code [] Tryd.f27 rfl) (L := script_tail_L)
    (fun n l h x => by match n, h with
        | 0, h => 
          rcases List.mem_cons.1 h with rfl | h
          · rfl
          cases h
        | 1, h => cases h
        | 2, h => 
          rcases List.mem_cons.1 h with rfl | h
          · rfl
          cases h
        | _ + 3, h => cases h) (fun k n l h => by match n, h with
        | 0, h => 
          rcases List.mem_cons.1 h with rfl | h
          · rfl
          cases h
        | 1, h => cases h
        | 2, h => 
          rcases List.mem_cons.1 h with rfl | h
          · rfl
          cases h
        | _ + 3, h => cases h)
    (fun k => All.mem (script_tail_vc k) ⟨fun _ => rfl, ⟨fun _ => rfl, trivial⟩⟩) (fun x r h => ⟨k, (script_tail_eq k x.1 x.2).symm.trans h⟩) (by kernel_rfl) (by kernel_rfl) (Nat.le_of_ble_eq_true (by kernel_rfl))
theorem script_tail_snd : Snd Tryd.prog S ⟨27, [.val (.data (.st 0)), .val (.data (.st 9))], [.val (.data .str)], fun x => script_tail x.1 x.2⟩ := Snd.lim (script_tail_sndk)
/-! ### 14 cotillion/script.Tell -/
noncomputable def script_Tell_l0 : Nat → (List UInt8) → (List api_Gone) → Int → Int → Option (List UInt8)
  | 0, _, _, _, _ => none
  | k + 1, s, x38, x39, x40 => if x40 < x39 then
    if 0 ≤ x40 then
    if x40 < (x38.length : Int) then
    (script_number ((x38.getD x40.toNat api_Gone.z).Where)).bind fun r10 =>
    if s_gone_.length + r10.length ≤ 9223372036854775807 then
    (script_message ((x38.getD x40.toNat api_Gone.z).Msg)).bind fun r11 =>
    if (s_gone_ ++ r10).length + r11.length ≤ 9223372036854775807 then
    if s.length + ((s_gone_ ++ r10) ++ r11).length ≤ 9223372036854775807 then
    script_Tell_l0 k (s ++ ((s_gone_ ++ r10) ++ r11)) x38 x39 (w64 (x40 + 1)) else none else none else none else none else none else
    some s
noncomputable def script_Tell_l1 : Nat → Int → (List api_Table) → (List api_Part) → (List api_Line) → (List (List UInt8)) → (List (List UInt8)) → (List UInt8) → (List api_Fired) → Int → Int → Option (List UInt8)
  | 0, _, _, _, _, _, _, _, _, _, _ => none
  | k + 1, n_Age, n_Tables, n_Parts, n_Lines, n_Insts, n_Chans, s, x80, x81, x82 => if x82 < x81 then
    if 0 ≤ x82 then
    if x82 < (x80.length : Int) then
    (script_name n_Insts ((x80.getD x82.toNat api_Fired.z).Inst)).bind fun r12 =>
    (script_table (api_Net.mk n_Age n_Tables n_Parts n_Lines n_Insts n_Chans) ((x80.getD x82.toNat api_Fired.z).Inst)).bind fun r13 =>
    (script_name r13.Timers ((x80.getD x82.toNat api_Fired.z).Timer)).bind fun r14 =>
    if r12.length + r14.length ≤ 9223372036854775807 then
    if s.length + (r12 ++ r14).length ≤ 9223372036854775807 then
    script_Tell_l1 k n_Age n_Tables n_Parts n_Lines n_Insts n_Chans (s ++ (r12 ++ r14)) x80 x81 (w64 (x82 + 1)) else none else none else none else none else
    some s
noncomputable def script_Tell_f (k : Nat) (n : api_Net) (r_ : api_Rec) : Option (List UInt8) := (script_name n.Insts r_.Inst).bind fun r1 =>
    if r_.Kind = 1 then
    if s_started.length + r1.length ≤ 9223372036854775807 then
    (script_tail n r_).bind fun r2 =>
    if (s_started ++ r1).length + r2.length ≤ 9223372036854775807 then
    some ((s_started ++ r1) ++ r2) else none else none else
    if r_.Kind = 2 then
    (script_number r_.Code).bind fun r3 =>
    if s_refused.length + r3.length ≤ 9223372036854775807 then
    some (s_refused ++ r3) else none else
    if r_.Kind = 3 then
    if s_stopped_.length + r1.length ≤ 9223372036854775807 then
    script_Tell_l0 k (s_stopped_ ++ r1) r_.Gone (r_.Gone.length : Int) 0 else none else
    if r_.Kind = 4 then
    if s_accepted.length + r1.length ≤ 9223372036854775807 then
    (script_message r_.Msg).bind fun r4 =>
    if (s_accepted ++ r1).length + r4.length ≤ 9223372036854775807 then
    some ((s_accepted ++ r1) ++ r4) else none else none else
    if r_.Kind = 5 then
    if s_rejected.length + r1.length ≤ 9223372036854775807 then
    (script_message r_.Msg).bind fun r5 =>
    if (s_rejected ++ r1).length + r5.length ≤ 9223372036854775807 then
    if ((s_rejected ++ r1) ++ r5).length + s_v.length ≤ 9223372036854775807 then
    (script_number r_.Code).bind fun r6 =>
    if (((s_rejected ++ r1) ++ r5) ++ s_v).length + r6.length ≤ 9223372036854775807 then
    some ((((s_rejected ++ r1) ++ r5) ++ s_v) ++ r6) else none else none else none else none else
    if r_.Kind = 6 then
    script_Tell_l1 k n.Age n.Tables n.Parts n.Lines n.Insts n.Chans s_ticked r_.Fired (r_.Fired.length : Int) 0 else
    if r_.Kind = 7 then
    if s_ran.length + r1.length ≤ 9223372036854775807 then
    if (s_ran ++ r1).length + s_v.length ≤ 9223372036854775807 then
    (script_number r_.Queue).bind fun r7 =>
    if ((s_ran ++ r1) ++ s_v).length + r7.length ≤ 9223372036854775807 then
    (script_message r_.Msg).bind fun r8 =>
    if (((s_ran ++ r1) ++ s_v) ++ r7).length + r8.length ≤ 9223372036854775807 then
    (script_tail n r_).bind fun r9 =>
    if ((((s_ran ++ r1) ++ s_v) ++ r7) ++ r8).length + r9.length ≤ 9223372036854775807 then
    some (((((s_ran ++ r1) ++ s_v) ++ r7) ++ r8) ++ r9) else none else none else none else none else none else
    if r_.Kind = 8 then
    some s_idle else
    if r_.Kind = 9 then
    some s_stuck else
    some []
noncomputable def script_Tell  (n : api_Net) (r_ : api_Rec) : Option (List UInt8) := lim (fun k (x : api_Net × api_Rec) => script_Tell_f k x.1 x.2) (n, r_)
noncomputable abbrev script_Tell_T : Tab S := ⟨[⟨26, [.val (.data (.sl .str)), .val (.data (.int .i64))], [.val (.data .str)], fun x => script_name x.1 x.2⟩, ⟨27, [.val (.data (.st 0)), .val (.data (.st 9))], [.val (.data .str)], fun x => script_tail x.1 x.2⟩, ⟨28, [.val (.data (.int .i64))], [.val (.data .str)], fun x => script_number x⟩, ⟨24, [.val (.data (.st 8))], [.val (.data .str)], fun x => script_message x⟩, ⟨29, [.val (.data (.st 0)), .val (.data (.int .i64))], [.val (.data (.st 1))], fun x => script_table x.1 x.2⟩], [], false, false⟩
noncomputable def script_Tell_L (k : Nat) : Nat → List (Lab S (List UInt8))
  | 0 => [⟨[6, 38, 39, 40], [.val (.data .str), .val (.data (.sl (.st 11))), .val (.data (.int .i64)), .val (.data (.int .i64))], fun x => script_Tell_l0 k x.1 x.2.1 x.2.2.1 x.2.2.2⟩]
  | 1 => []
  | 2 => [⟨[2, 9, 80, 81, 82], [.obj [.data (.int .i64), .data (.sl (.st 1)), .data (.sl (.st 5)), .data (.sl (.st 6)), .data (.sl .str), .data (.sl .str)], .val (.data .str), .val (.data (.sl (.st 12))), .val (.data (.int .i64)), .val (.data (.int .i64))], fun x => script_Tell_l1 k x.1.1 x.1.2.1 x.1.2.2.1 x.1.2.2.2.1 x.1.2.2.2.2.1 x.1.2.2.2.2.2 x.2.1 x.2.2.1 x.2.2.2.1 x.2.2.2.2⟩]
  | _ + 3 => []
theorem script_Tell_eq (k : Nat) (n : api_Net) (r_ : api_Rec) : script_Tell_f k n r_ = exec S (script_Tell_T) byt (labs S (script_Tell_T) (script_Tell_L k)) (ac [] Tryd.f14) (frame0 S [.val (.data (.st 0)), .val (.data (.st 9))] (n, r_)) (retK S (script_Tell_T) Tryd.f14 [.val (.data (.st 0)), .val (.data (.st 9))] [.val (.data .str)]) := by kernel_rfl
theorem script_Tell_vc (k : Nat) : VC S (script_Tell_T) byt (script_Tell_L k) (script_Tell_L (k + 1)) (ac [] Tryd.f14) (retK S (script_Tell_T) Tryd.f14 [.val (.data (.st 0)), .val (.data (.st 9))] [.val (.data .str)]) = [∀ x : List UInt8 × List api_Gone × Int × Int, script_Tell_l0 (k + 1) x.1 x.2.1 x.2.2.1 x.2.2.2 = script_Tell_l0 (k + 1) x.1 x.2.1 x.2.2.1 x.2.2.2, ∀ x : (Int × List api_Table × List api_Part × List api_Line × List (List UInt8) × List (List UInt8)) × List UInt8 × List api_Fired × Int × Int, script_Tell_l1 (k + 1) x.1.1 x.1.2.1 x.1.2.2.1 x.1.2.2.2.1 x.1.2.2.2.2.1 x.1.2.2.2.2.2 x.2.1 x.2.2.1 x.2.2.2.1 x.2.2.2.2 = script_Tell_l1 (k + 1) x.1.1 x.1.2.1 x.1.2.2.1 x.1.2.2.2.1 x.1.2.2.2.2.1 x.1.2.2.2.2.2 x.2.1 x.2.2.1 x.2.2.2.1 x.2.2.2.2] := by kernel_rfl
theorem script_Tell_sndk (k : Nat) : Snd Tryd.prog S ⟨14, [.val (.data (.st 0)), .val (.data (.st 9))], [.val (.data .str)], fun x => script_Tell_f k x.1 x.2⟩ :=
  fn_ok progOk (T := (script_Tell_T)) (all_cons script_name_snd (all_cons script_tail_snd (all_cons script_number_snd (all_cons script_message_snd (all_cons script_table_snd (all_nil)))))) (all_nil) mixed Tryd.func14 rfl (by kernel_rfl) (ac_code [] Tryd.f14 rfl) (L := script_Tell_L)
    (fun n l h x => by match n, h with
        | 0, h => 
          rcases List.mem_cons.1 h with rfl | h
          · rfl
          cases h
        | 1, h => cases h
        | 2, h => 
          rcases List.mem_cons.1 h with rfl | h
          · rfl
          cases h
        | _ + 3, h => cases h) (fun k n l h => by match n, h with
        | 0, h => 
          rcases List.mem_cons.1 h with rfl | h
          · rfl
          cases h
        | 1, h => cases h
        | 2, h => 
          rcases List.mem_cons.1 h with rfl | h
          · rfl
          cases h
        | _ + 3, h => cases h)
    (fun k => All.mem (script_Tell_vc k) ⟨fun _ => rfl, ⟨fun _ => rfl, trivial⟩⟩) (fun x r h => ⟨k, (script_Tell_eq k x.1 x.2).symm.trans h⟩) (by kernel_rfl) (by kernel_rfl) (Nat.le_of_ble_eq_true (by kernel_rfl))
theorem script_Tell_snd : Snd Tryd.prog S ⟨14, [.val (.data (.st 0)), .val (.data (.st 9))], [.val (.data .str)], fun x => script_Tell x.1 x.2⟩ := Snd.lim (script_Tell_sndk)
/-! ### 5 cotillion/cotillionlaw34.known -/
noncomputable def law34_known  : Option Bool := (law34_small).bind fun r1 =>
    (script_Parse r1 s_post_a_go_3).bind fun r2 =>
    (script_Parse r1 s_post_a_go_03).bind fun r3 =>
    (script_Print r1 (api_Op.mk 2 1 (api_Msg.mk [] 0))).bind fun r4 =>
    (script_Tell r1 (api_Rec.mk 1 0 0 0 (api_Msg.mk [] 0) [] [0, 1] [] 1 [] [])).bind fun r5 =>
    if r2.2 = 0 then
    if r2.1.Kind = 3 ∧ r2.1.Inst = 0 ∧ r2.1.Msg.Event = s_go ∧ r2.1.Msg.N = (-3) then
    if r3.2 = 22 then
    if r4.1 = s_stop_b2 then
    if r4.2 = 0 then
    some (decide (r5 = s_started_a_in_x_cost_1)) else
    some false else
    some false else
    some false else
    some false else
    some false
noncomputable abbrev law34_known_T : Tab S := ⟨[⟨6, [], [.val (.data (.st 0))], fun x => law34_small⟩, ⟨8, [.val (.data (.st 0)), .val (.data .str)], [.val (.data (.st 7)), .val (.data (.int .i64))], fun x => script_Parse x.1 x.2⟩, ⟨12, [.val (.data (.st 0)), .val (.data (.st 7))], [.val (.data .str), .val (.data (.int .i64))], fun x => script_Print x.1 x.2⟩, ⟨14, [.val (.data (.st 0)), .val (.data (.st 9))], [.val (.data .str)], fun x => script_Tell x.1 x.2⟩], [], false, false⟩
noncomputable def law34_known_L (k : Nat) : Nat → List (Lab S Bool)
  | _ => []
theorem law34_known_eq (k : Nat) : law34_known = exec S (law34_known_T) byt (labs S (law34_known_T) (law34_known_L k)) (ac [] Tryd.f5) (frame0 S [] ()) (retK S (law34_known_T) Tryd.f5 [] [.val (.data .bool)]) := by kernel_rfl
theorem law34_known_vc (k : Nat) : VC S (law34_known_T) byt (law34_known_L k) (law34_known_L (k + 1)) (ac [] Tryd.f5) (retK S (law34_known_T) Tryd.f5 [] [.val (.data .bool)]) = [] := by kernel_rfl
theorem law34_known_snd : Snd Tryd.prog S ⟨5, [], [.val (.data .bool)], fun x => law34_known⟩ :=
  fn_ok progOk (T := (law34_known_T)) (all_cons law34_small_snd (all_cons script_Parse_snd (all_cons script_Print_snd (all_cons script_Tell_snd (all_nil))))) (all_nil) mixed Tryd.func5 rfl (by kernel_rfl) (ac_code [] Tryd.f5 rfl) (L := law34_known_L)
    (fun n l h x => by cases h) (fun k n l h => by cases h)
    (fun k => All.mem (law34_known_vc k) trivial) (fun x r h => ⟨0, (law34_known_eq 0).symm.trans h⟩) (by kernel_rfl) (by kernel_rfl) (Nat.le_of_ble_eq_true (by kernel_rfl))
/-! ### 7 cotillion/cotillionlaw34.digits -/
noncomputable def law34_digits_b (self_law34_digits : Int → Option (List UInt8)) (k : Nat) (n : Int) : Option (List UInt8) := if n ≤ (-10) then
    if ¬ (10 : Int) = 0 then
    (self_law34_digits (w64 (n.tdiv 10))).bind fun r1 =>
    if ¬ (10 : Int) = 0 then
    if ¬ (10 : Int) = 0 then
    if 0 ≤ (w64 ((w64 (0 - (n.tmod 10))) + 1)) then
    if (w64 ((w64 (0 - (n.tmod 10))) + 1)) ≤ (s_v_0123456789.length : Int) then
    if 0 ≤ (w64 (0 - (n.tmod 10))) then
    if (w64 (0 - (n.tmod 10))) ≤ (w64 ((w64 (0 - (n.tmod 10))) + 1)) then
    if r1.length + (cut s_v_0123456789 (w64 (0 - (n.tmod 10))) (w64 ((w64 (0 - (n.tmod 10))) + 1))).length ≤ 9223372036854775807 then
    some (r1 ++ (cut s_v_0123456789 (w64 (0 - (n.tmod 10))) (w64 ((w64 (0 - (n.tmod 10))) + 1)))) else none else none else none else none else none else none else none else none else
    if n < 0 then
    if 0 ≤ (w64 ((w64 (0 - n)) + 1)) then
    if (w64 ((w64 (0 - n)) + 1)) ≤ (s_v_0123456789.length : Int) then
    if 0 ≤ (w64 (0 - n)) then
    if (w64 (0 - n)) ≤ (w64 ((w64 (0 - n)) + 1)) then
    if s_v___.length + (cut s_v_0123456789 (w64 (0 - n)) (w64 ((w64 (0 - n)) + 1))).length ≤ 9223372036854775807 then
    some (s_v___ ++ (cut s_v_0123456789 (w64 (0 - n)) (w64 ((w64 (0 - n)) + 1)))) else none else none else none else none else none else
    if n < 10 then
    if 0 ≤ (w64 (n + 1)) then
    if (w64 (n + 1)) ≤ (s_v_0123456789.length : Int) then
    if 0 ≤ n then
    if n ≤ (w64 (n + 1)) then
    some (cut s_v_0123456789 n (w64 (n + 1))) else none else none else none else none else
    if ¬ (10 : Int) = 0 then
    (self_law34_digits (w64 (n.tdiv 10))).bind fun r2 =>
    if ¬ (10 : Int) = 0 then
    if ¬ (10 : Int) = 0 then
    if 0 ≤ (w64 ((n.tmod 10) + 1)) then
    if (w64 ((n.tmod 10) + 1)) ≤ (s_v_0123456789.length : Int) then
    if 0 ≤ (n.tmod 10) then
    if (n.tmod 10) ≤ (w64 ((n.tmod 10) + 1)) then
    if r2.length + (cut s_v_0123456789 (n.tmod 10) (w64 ((n.tmod 10) + 1))).length ≤ 9223372036854775807 then
    some (r2 ++ (cut s_v_0123456789 (n.tmod 10) (w64 ((n.tmod 10) + 1)))) else none else none else none else none else none else none else none else none
noncomputable def law34_digits_f : Nat → Int → Option (List UInt8)
  | 0, _ => none
  | k + 1, x0 => law34_digits_b (law34_digits_f k) k x0
noncomputable def law34_digits  (n : Int) : Option (List UInt8) := lim (fun k (x : Int) => law34_digits_f k x) n
noncomputable abbrev law34_digits_T (self_law34_digits : Int → Option (List UInt8)) : Tab S := ⟨[⟨7, [.val (.data (.int .i64))], [.val (.data .str)], fun x => self_law34_digits x⟩], [], false, false⟩
noncomputable def law34_digits_L (self_law34_digits : Int → Option (List UInt8)) (k : Nat) : Nat → List (Lab S (List UInt8))
  | _ => []
theorem law34_digits_eq (self_law34_digits : Int → Option (List UInt8)) (k : Nat) (n : Int) : law34_digits_b self_law34_digits k n = exec S (law34_digits_T self_law34_digits) byt (labs S (law34_digits_T self_law34_digits) (law34_digits_L self_law34_digits k)) (ac [] Tryd.f7) (frame0 S [.val (.data (.int .i64))] n) (retK S (law34_digits_T self_law34_digits) Tryd.f7 [.val (.data (.int .i64))] [.val (.data .str)]) := by kernel_rfl
theorem law34_digits_vc (self_law34_digits : Int → Option (List UInt8)) (k : Nat) : VC S (law34_digits_T self_law34_digits) byt (law34_digits_L self_law34_digits k) (law34_digits_L self_law34_digits (k + 1)) (ac [] Tryd.f7) (retK S (law34_digits_T self_law34_digits) Tryd.f7 [.val (.data (.int .i64))] [.val (.data .str)]) = [] := by kernel_rfl
theorem law34_digits_sndk (self_law34_digits : Int → Option (List UInt8)) (hself : Snd Tryd.prog S ⟨7, [.val (.data (.int .i64))], [.val (.data .str)], fun x => self_law34_digits x⟩) (k : Nat) : Snd Tryd.prog S ⟨7, [.val (.data (.int .i64))], [.val (.data .str)], fun x => law34_digits_b self_law34_digits k x⟩ :=
  fn_ok progOk (T := (law34_digits_T self_law34_digits)) (all_cons hself (all_nil)) (all_nil) mixed Tryd.func7 rfl (by kernel_rfl) (ac_code [] Tryd.f7 rfl) (L := law34_digits_L self_law34_digits)
    (fun n l h x => by cases h) (fun k n l h => by cases h)
    (fun k => All.mem (law34_digits_vc self_law34_digits k) trivial) (fun x r h => ⟨k, (law34_digits_eq self_law34_digits k x).symm.trans h⟩) (by kernel_rfl) (by kernel_rfl) (Nat.le_of_ble_eq_true (by kernel_rfl))
theorem law34_digits_sndf : ∀ k, Snd Tryd.prog S ⟨7, [.val (.data (.int .i64))], [.val (.data .str)], fun x => law34_digits_f k x⟩
  | 0 => Snd.none ⟨_, Tryd.func7, by kernel_rfl, by kernel_rfl⟩ fun _ => rfl
  | k + 1 => law34_digits_sndk (law34_digits_f k) (law34_digits_sndf k) k
theorem law34_digits_snd : Snd Tryd.prog S ⟨7, [.val (.data (.int .i64))], [.val (.data .str)], fun x => law34_digits x⟩ := Snd.lim (law34_digits_sndf)
/-! ### 20 cotillion/cotillionref34.Words -/
noncomputable def ref34_Words_l0 : Nat → (List UInt8) → (List (List UInt8)) → Int → Int → Option (List (List UInt8))
  | 0, _, _, _, _ => none
  | k + 1, s, out, v_from, i => if i ≤ (s.length : Int) then
    if i = (s.length : Int) then
    if 0 ≤ i then
    if i ≤ (s.length : Int) then
    if 0 ≤ v_from then
    if v_from ≤ i then
    if (out.length + [cut s v_from i].length) * 16 ≤ 140737488355328 then
    ref34_Words_l0 k s (out ++ [cut s v_from i]) (w64 (i + 1)) (w64 (i + 1)) else none else none else none else none else none else
    if 0 ≤ i then
    if i < (s.length : Int) then
    if ((s.getD i.toNat 0).toNat : Int) = 32 then
    if 0 ≤ i then
    if i ≤ (s.length : Int) then
    if 0 ≤ v_from then
    if v_from ≤ i then
    if (out.length + [cut s v_from i].length) * 16 ≤ 140737488355328 then
    ref34_Words_l0 k s (out ++ [cut s v_from i]) (w64 (i + 1)) (w64 (i + 1)) else none else none else none else none else none else
    ref34_Words_l0 k s out v_from (w64 (i + 1)) else none else none else
    some out
noncomputable def ref34_Words_f (k : Nat) (s : List UInt8) : Option (List (List UInt8)) := ref34_Words_l0 k s [] 0 0
noncomputable def ref34_Words  (s : List UInt8) : Option (List (List UInt8)) := lim (fun k (x : List UInt8) => ref34_Words_f k x) s
noncomputable abbrev ref34_Words_T : Tab S := ⟨[], [], false, false⟩
noncomputable def ref34_Words_L (k : Nat) : Nat → List (Lab S (List (List UInt8)))
  | 0 => [⟨[0, 3, 4, 5], [.val (.data .str), .val (.town .str), .val (.data (.int .i64)), .val (.data (.int .i64))], fun x => ref34_Words_l0 k x.1 x.2.1 x.2.2.1 x.2.2.2⟩]
  | _ + 1 => []
theorem ref34_Words_eq (k : Nat) (s : List UInt8) : ref34_Words_f k s = exec S (ref34_Words_T) byt (labs S (ref34_Words_T) (ref34_Words_L k)) (ac [] Tryd.f20) (frame0 S [.val (.data .str)] s) (retK S (ref34_Words_T) Tryd.f20 [.val (.data .str)] [.val (.town .str)]) := by kernel_rfl
theorem ref34_Words_vc (k : Nat) : VC S (ref34_Words_T) byt (ref34_Words_L k) (ref34_Words_L (k + 1)) (ac [] Tryd.f20) (retK S (ref34_Words_T) Tryd.f20 [.val (.data .str)] [.val (.town .str)]) = [∀ x : List UInt8 × List (List UInt8) × Int × Int, ref34_Words_l0 (k + 1) x.1 x.2.1 x.2.2.1 x.2.2.2 = ref34_Words_l0 (k + 1) x.1 x.2.1 x.2.2.1 x.2.2.2] := by kernel_rfl
theorem ref34_Words_sndk (k : Nat) : Snd Tryd.prog S ⟨20, [.val (.data .str)], [.val (.town .str)], fun x => ref34_Words_f k x⟩ :=
  fn_ok progOk (T := (ref34_Words_T)) (all_nil) (all_nil) mixed Tryd.func20 rfl (by kernel_rfl) (ac_code [] Tryd.f20 rfl) (L := ref34_Words_L)
    (fun n l h x => by match n, h with
        | 0, h => 
          rcases List.mem_cons.1 h with rfl | h
          · rfl
          cases h
        | _ + 1, h => cases h) (fun k n l h => by match n, h with
        | 0, h => 
          rcases List.mem_cons.1 h with rfl | h
          · rfl
          cases h
        | _ + 1, h => cases h)
    (fun k => All.mem (ref34_Words_vc k) ⟨fun _ => rfl, trivial⟩) (fun x r h => ⟨k, (ref34_Words_eq k x).symm.trans h⟩) (by kernel_rfl) (by kernel_rfl) (Nat.le_of_ble_eq_true (by kernel_rfl))
theorem ref34_Words_snd : Snd Tryd.prog S ⟨20, [.val (.data .str)], [.val (.town .str)], fun x => ref34_Words x⟩ := Snd.lim (ref34_Words_sndk)
/-! ### 21 cotillion/cotillionref34.Inst -/
noncomputable def ref34_Inst_l0 : Nat → (List UInt8) → Int → (List api_Table) → (List api_Part) → (List api_Line) → (List (List UInt8)) → (List (List UInt8)) → Int → Option Int
  | 0, _, _, _, _, _, _, _, _ => none
  | k + 1, s, n_Age, n_Tables, n_Parts, n_Lines, n_Insts, n_Chans, i => if i < (n_Insts.length : Int) then
    if 0 ≤ i then
    if i < (n_Insts.length : Int) then
    if (n_Insts.getD i.toNat []) = s then
    some i else
    ref34_Inst_l0 k s n_Age n_Tables n_Parts n_Lines n_Insts n_Chans (w64 (i + 1)) else none else none else
    some (-1)
noncomputable def ref34_Inst_f (k : Nat) (n : api_Net) (s : List UInt8) : Option Int := ref34_Inst_l0 k s n.Age n.Tables n.Parts n.Lines n.Insts n.Chans 0
noncomputable def ref34_Inst  (n : api_Net) (s : List UInt8) : Option Int := lim (fun k (x : api_Net × List UInt8) => ref34_Inst_f k x.1 x.2) (n, s)
noncomputable abbrev ref34_Inst_T : Tab S := ⟨[], [], false, false⟩
noncomputable def ref34_Inst_L (k : Nat) : Nat → List (Lab S Int)
  | 0 => [⟨[1, 2, 5], [.val (.data .str), .obj [.data (.int .i64), .data (.sl (.st 1)), .data (.sl (.st 5)), .data (.sl (.st 6)), .data (.sl .str), .data (.sl .str)], .val (.data (.int .i64))], fun x => ref34_Inst_l0 k x.1 x.2.1.1 x.2.1.2.1 x.2.1.2.2.1 x.2.1.2.2.2.1 x.2.1.2.2.2.2.1 x.2.1.2.2.2.2.2 x.2.2⟩]
  | _ + 1 => []
theorem ref34_Inst_eq (k : Nat) (n : api_Net) (s : List UInt8) : ref34_Inst_f k n s = exec S (ref34_Inst_T) byt (labs S (ref34_Inst_T) (ref34_Inst_L k)) (ac [] Tryd.f21) (frame0 S [.val (.data (.st 0)), .val (.data .str)] (n, s)) (retK S (ref34_Inst_T) Tryd.f21 [.val (.data (.st 0)), .val (.data .str)] [.val (.data (.int .i64))]) := by kernel_rfl
theorem ref34_Inst_vc (k : Nat) : VC S (ref34_Inst_T) byt (ref34_Inst_L k) (ref34_Inst_L (k + 1)) (ac [] Tryd.f21) (retK S (ref34_Inst_T) Tryd.f21 [.val (.data (.st 0)), .val (.data .str)] [.val (.data (.int .i64))]) = [∀ x : List UInt8 × (Int × List api_Table × List api_Part × List api_Line × List (List UInt8) × List (List UInt8)) × Int, ref34_Inst_l0 (k + 1) x.1 x.2.1.1 x.2.1.2.1 x.2.1.2.2.1 x.2.1.2.2.2.1 x.2.1.2.2.2.2.1 x.2.1.2.2.2.2.2 x.2.2 = ref34_Inst_l0 (k + 1) x.1 x.2.1.1 x.2.1.2.1 x.2.1.2.2.1 x.2.1.2.2.2.1 x.2.1.2.2.2.2.1 x.2.1.2.2.2.2.2 x.2.2] := by kernel_rfl
theorem ref34_Inst_sndk (k : Nat) : Snd Tryd.prog S ⟨21, [.val (.data (.st 0)), .val (.data .str)], [.val (.data (.int .i64))], fun x => ref34_Inst_f k x.1 x.2⟩ :=
  fn_ok progOk (T := (ref34_Inst_T)) (all_nil) (all_nil) mixed Tryd.func21 rfl (by kernel_rfl) (ac_code [] Tryd.f21 rfl) (L := ref34_Inst_L)
    (fun n l h x => by match n, h with
        | 0, h => 
          rcases List.mem_cons.1 h with rfl | h
          · rfl
          cases h
        | _ + 1, h => cases h) (fun k n l h => by match n, h with
        | 0, h => 
          rcases List.mem_cons.1 h with rfl | h
          · rfl
          cases h
        | _ + 1, h => cases h)
    (fun k => All.mem (ref34_Inst_vc k) ⟨fun _ => rfl, trivial⟩) (fun x r h => ⟨k, (ref34_Inst_eq k x.1 x.2).symm.trans h⟩) (by kernel_rfl) (by kernel_rfl) (Nat.le_of_ble_eq_true (by kernel_rfl))
theorem ref34_Inst_snd : Snd Tryd.prog S ⟨21, [.val (.data (.st 0)), .val (.data .str)], [.val (.data (.int .i64))], fun x => ref34_Inst x.1 x.2⟩ := Snd.lim (ref34_Inst_sndk)
/-! ### 37 cotillion/cotillionref6.letter -/
noncomputable def ref6_letter  (x : Int) : Option Bool := if 97 ≤ x then
    if x ≤ 122 then
    some true else
    if 65 ≤ x then
    if x ≤ 90 then
    some true else
    some (decide (x = 95)) else
    some (decide (x = 95)) else
    if 65 ≤ x then
    if x ≤ 90 then
    some true else
    some (decide (x = 95)) else
    some (decide (x = 95))
noncomputable abbrev ref6_letter_T : Tab S := ⟨[], [], false, false⟩
noncomputable def ref6_letter_L (k : Nat) : Nat → List (Lab S Bool)
  | _ => []
theorem ref6_letter_eq (k : Nat) (x : Int) : ref6_letter x = exec S (ref6_letter_T) byt (labs S (ref6_letter_T) (ref6_letter_L k)) (ac [] Tryd.f37) (frame0 S [.val (.data (.int .u8))] x) (retK S (ref6_letter_T) Tryd.f37 [.val (.data (.int .u8))] [.val (.data .bool)]) := by kernel_rfl
theorem ref6_letter_vc (k : Nat) : VC S (ref6_letter_T) byt (ref6_letter_L k) (ref6_letter_L (k + 1)) (ac [] Tryd.f37) (retK S (ref6_letter_T) Tryd.f37 [.val (.data (.int .u8))] [.val (.data .bool)]) = [] := by kernel_rfl
theorem ref6_letter_snd : Snd Tryd.prog S ⟨37, [.val (.data (.int .u8))], [.val (.data .bool)], fun x => ref6_letter x⟩ :=
  fn_ok progOk (T := (ref6_letter_T)) (all_nil) (all_nil) mixed Tryd.func37 rfl (by kernel_rfl) (ac_code [] Tryd.f37 rfl) (L := ref6_letter_L)
    (fun n l h x => by cases h) (fun k n l h => by cases h)
    (fun k => All.mem (ref6_letter_vc k) trivial) (fun x r h => ⟨0, (ref6_letter_eq 0 x).symm.trans h⟩) (by kernel_rfl) (by kernel_rfl) (Nat.le_of_ble_eq_true (by kernel_rfl))
/-! ### 38 cotillion/cotillionref6.digit -/
noncomputable def ref6_digit  (x : Int) : Option Bool := if 48 ≤ x then some (decide (x ≤ 57)) else some false
noncomputable abbrev ref6_digit_T : Tab S := ⟨[], [], false, false⟩
noncomputable def ref6_digit_L (k : Nat) : Nat → List (Lab S Bool)
  | _ => []
theorem ref6_digit_eq (k : Nat) (x : Int) : ref6_digit x = exec S (ref6_digit_T) byt (labs S (ref6_digit_T) (ref6_digit_L k)) (ac [] Tryd.f38) (frame0 S [.val (.data (.int .u8))] x) (retK S (ref6_digit_T) Tryd.f38 [.val (.data (.int .u8))] [.val (.data .bool)]) := by kernel_rfl
theorem ref6_digit_vc (k : Nat) : VC S (ref6_digit_T) byt (ref6_digit_L k) (ref6_digit_L (k + 1)) (ac [] Tryd.f38) (retK S (ref6_digit_T) Tryd.f38 [.val (.data (.int .u8))] [.val (.data .bool)]) = [] := by kernel_rfl
theorem ref6_digit_snd : Snd Tryd.prog S ⟨38, [.val (.data (.int .u8))], [.val (.data .bool)], fun x => ref6_digit x⟩ :=
  fn_ok progOk (T := (ref6_digit_T)) (all_nil) (all_nil) mixed Tryd.func38 rfl (by kernel_rfl) (ac_code [] Tryd.f38 rfl) (L := ref6_digit_L)
    (fun n l h x => by cases h) (fun k n l h => by cases h)
    (fun k => All.mem (ref6_digit_vc k) trivial) (fun x r h => ⟨0, (ref6_digit_eq 0 x).symm.trans h⟩) (by kernel_rfl) (by kernel_rfl) (Nat.le_of_ble_eq_true (by kernel_rfl))
/-! ### 39 cotillion/cotillionref6.Reserved -/
noncomputable def ref6_Reserved_l0 : Nat → (List UInt8) → (List UInt8 × List UInt8 × List UInt8 × List UInt8 × List UInt8 × List UInt8 × List UInt8 × List UInt8 × List UInt8 × List UInt8 × List UInt8 × List UInt8 × List UInt8 × List UInt8 × List UInt8 × List UInt8 × List UInt8 × List UInt8 × List UInt8 × List UInt8 × List UInt8 × List UInt8 × List UInt8 × List UInt8 × List UInt8 × List UInt8 × List UInt8 × List UInt8 × List UInt8 × List UInt8 × List UInt8 × List UInt8 × List UInt8 × List UInt8 × List UInt8) → Int → Option Bool
  | 0, _, _, _ => none
  | k + 1, s, words, i => if i < 35 then
    if 0 ≤ i then
    if i < ([words.1, words.2.1, words.2.2.1, words.2.2.2.1, words.2.2.2.2.1, words.2.2.2.2.2.1, words.2.2.2.2.2.2.1, words.2.2.2.2.2.2.2.1, words.2.2.2.2.2.2.2.2.1, words.2.2.2.2.2.2.2.2.2.1, words.2.2.2.2.2.2.2.2.2.2.1, words.2.2.2.2.2.2.2.2.2.2.2.1, words.2.2.2.2.2.2.2.2.2.2.2.2.1, words.2.2.2.2.2.2.2.2.2.2.2.2.2.1, words.2.2.2.2.2.2.2.2.2.2.2.2.2.2.1, words.2.2.2.2.2.2.2.2.2.2.2.2.2.2.2.1, words.2.2.2.2.2.2.2.2.2.2.2.2.2.2.2.2.1, words.2.2.2.2.2.2.2.2.2.2.2.2.2.2.2.2.2.1, words.2.2.2.2.2.2.2.2.2.2.2.2.2.2.2.2.2.2.1, words.2.2.2.2.2.2.2.2.2.2.2.2.2.2.2.2.2.2.2.1, words.2.2.2.2.2.2.2.2.2.2.2.2.2.2.2.2.2.2.2.2.1, words.2.2.2.2.2.2.2.2.2.2.2.2.2.2.2.2.2.2.2.2.2.1, words.2.2.2.2.2.2.2.2.2.2.2.2.2.2.2.2.2.2.2.2.2.2.1, words.2.2.2.2.2.2.2.2.2.2.2.2.2.2.2.2.2.2.2.2.2.2.2.1, words.2.2.2.2.2.2.2.2.2.2.2.2.2.2.2.2.2.2.2.2.2.2.2.2.1, words.2.2.2.2.2.2.2.2.2.2.2.2.2.2.2.2.2.2.2.2.2.2.2.2.2.1, words.2.2.2.2.2.2.2.2.2.2.2.2.2.2.2.2.2.2.2.2.2.2.2.2.2.2.1, words.2.2.2.2.2.2.2.2.2.2.2.2.2.2.2.2.2.2.2.2.2.2.2.2.2.2.2.1, words.2.2.2.2.2.2.2.2.2.2.2.2.2.2.2.2.2.2.2.2.2.2.2.2.2.2.2.2.1, words.2.2.2.2.2.2.2.2.2.2.2.2.2.2.2.2.2.2.2.2.2.2.2.2.2.2.2.2.2.1, words.2.2.2.2.2.2.2.2.2.2.2.2.2.2.2.2.2.2.2.2.2.2.2.2.2.2.2.2.2.2.1, words.2.2.2.2.2.2.2.2.2.2.2.2.2.2.2.2.2.2.2.2.2.2.2.2.2.2.2.2.2.2.2.1, words.2.2.2.2.2.2.2.2.2.2.2.2.2.2.2.2.2.2.2.2.2.2.2.2.2.2.2.2.2.2.2.2.1, words.2.2.2.2.2.2.2.2.2.2.2.2.2.2.2.2.2.2.2.2.2.2.2.2.2.2.2.2.2.2.2.2.2.1, words.2.2.2.2.2.2.2.2.2.2.2.2.2.2.2.2.2.2.2.2.2.2.2.2.2.2.2.2.2.2.2.2.2.2].length : Int) then
    if ([words.1, words.2.1, words.2.2.1, words.2.2.2.1, words.2.2.2.2.1, words.2.2.2.2.2.1, words.2.2.2.2.2.2.1, words.2.2.2.2.2.2.2.1, words.2.2.2.2.2.2.2.2.1, words.2.2.2.2.2.2.2.2.2.1, words.2.2.2.2.2.2.2.2.2.2.1, words.2.2.2.2.2.2.2.2.2.2.2.1, words.2.2.2.2.2.2.2.2.2.2.2.2.1, words.2.2.2.2.2.2.2.2.2.2.2.2.2.1, words.2.2.2.2.2.2.2.2.2.2.2.2.2.2.1, words.2.2.2.2.2.2.2.2.2.2.2.2.2.2.2.1, words.2.2.2.2.2.2.2.2.2.2.2.2.2.2.2.2.1, words.2.2.2.2.2.2.2.2.2.2.2.2.2.2.2.2.2.1, words.2.2.2.2.2.2.2.2.2.2.2.2.2.2.2.2.2.2.1, words.2.2.2.2.2.2.2.2.2.2.2.2.2.2.2.2.2.2.2.1, words.2.2.2.2.2.2.2.2.2.2.2.2.2.2.2.2.2.2.2.2.1, words.2.2.2.2.2.2.2.2.2.2.2.2.2.2.2.2.2.2.2.2.2.1, words.2.2.2.2.2.2.2.2.2.2.2.2.2.2.2.2.2.2.2.2.2.2.1, words.2.2.2.2.2.2.2.2.2.2.2.2.2.2.2.2.2.2.2.2.2.2.2.1, words.2.2.2.2.2.2.2.2.2.2.2.2.2.2.2.2.2.2.2.2.2.2.2.2.1, words.2.2.2.2.2.2.2.2.2.2.2.2.2.2.2.2.2.2.2.2.2.2.2.2.2.1, words.2.2.2.2.2.2.2.2.2.2.2.2.2.2.2.2.2.2.2.2.2.2.2.2.2.2.1, words.2.2.2.2.2.2.2.2.2.2.2.2.2.2.2.2.2.2.2.2.2.2.2.2.2.2.2.1, words.2.2.2.2.2.2.2.2.2.2.2.2.2.2.2.2.2.2.2.2.2.2.2.2.2.2.2.2.1, words.2.2.2.2.2.2.2.2.2.2.2.2.2.2.2.2.2.2.2.2.2.2.2.2.2.2.2.2.2.1, words.2.2.2.2.2.2.2.2.2.2.2.2.2.2.2.2.2.2.2.2.2.2.2.2.2.2.2.2.2.2.1, words.2.2.2.2.2.2.2.2.2.2.2.2.2.2.2.2.2.2.2.2.2.2.2.2.2.2.2.2.2.2.2.1, words.2.2.2.2.2.2.2.2.2.2.2.2.2.2.2.2.2.2.2.2.2.2.2.2.2.2.2.2.2.2.2.2.1, words.2.2.2.2.2.2.2.2.2.2.2.2.2.2.2.2.2.2.2.2.2.2.2.2.2.2.2.2.2.2.2.2.2.1, words.2.2.2.2.2.2.2.2.2.2.2.2.2.2.2.2.2.2.2.2.2.2.2.2.2.2.2.2.2.2.2.2.2.2].getD i.toNat []) = s then
    some true else
    ref6_Reserved_l0 k s words (w64 (i + 1)) else none else none else
    some false
noncomputable def ref6_Reserved_f (k : Nat) (s : List UInt8) : Option Bool := ref6_Reserved_l0 k s arr_1 0
noncomputable def ref6_Reserved  (s : List UInt8) : Option Bool := lim (fun k (x : List UInt8) => ref6_Reserved_f k x) s
noncomputable abbrev ref6_Reserved_T : Tab S := ⟨[], [], false, false⟩
noncomputable def ref6_Reserved_L (k : Nat) : Nat → List (Lab S Bool)
  | 0 => [⟨[0, 3, 4], [.val (.data .str), .ro (.st 17), .val (.data (.int .i64))], fun x => ref6_Reserved_l0 k x.1 x.2.1 x.2.2⟩]
  | _ + 1 => []
theorem ref6_Reserved_eq (k : Nat) (s : List UInt8) : ref6_Reserved_f k s = exec S (ref6_Reserved_T) byt (labs S (ref6_Reserved_T) (ref6_Reserved_L k)) (ac [] Tryd.f39) (frame0 S [.val (.data .str)] s) (retK S (ref6_Reserved_T) Tryd.f39 [.val (.data .str)] [.val (.data .bool)]) := by kernel_rfl
theorem ref6_Reserved_vc (k : Nat) : VC S (ref6_Reserved_T) byt (ref6_Reserved_L k) (ref6_Reserved_L (k + 1)) (ac [] Tryd.f39) (retK S (ref6_Reserved_T) Tryd.f39 [.val (.data .str)] [.val (.data .bool)]) = [∀ x : List UInt8 × (List UInt8 × List UInt8 × List UInt8 × List UInt8 × List UInt8 × List UInt8 × List UInt8 × List UInt8 × List UInt8 × List UInt8 × List UInt8 × List UInt8 × List UInt8 × List UInt8 × List UInt8 × List UInt8 × List UInt8 × List UInt8 × List UInt8 × List UInt8 × List UInt8 × List UInt8 × List UInt8 × List UInt8 × List UInt8 × List UInt8 × List UInt8 × List UInt8 × List UInt8 × List UInt8 × List UInt8 × List UInt8 × List UInt8 × List UInt8 × List UInt8) × Int, ref6_Reserved_l0 (k + 1) x.1 x.2.1 x.2.2 = ref6_Reserved_l0 (k + 1) x.1 x.2.1 x.2.2] := by kernel_rfl
theorem ref6_Reserved_sndk (k : Nat) : Snd Tryd.prog S ⟨39, [.val (.data .str)], [.val (.data .bool)], fun x => ref6_Reserved_f k x⟩ :=
  fn_ok progOk (T := (ref6_Reserved_T)) (all_nil) (all_nil) mixed Tryd.func39 rfl (by kernel_rfl) (ac_code [] Tryd.f39 rfl) (L := ref6_Reserved_L)
    (fun n l h x => by match n, h with
        | 0, h => 
          rcases List.mem_cons.1 h with rfl | h
          · rfl
          cases h
        | _ + 1, h => cases h) (fun k n l h => by match n, h with
        | 0, h => 
          rcases List.mem_cons.1 h with rfl | h
          · rfl
          cases h
        | _ + 1, h => cases h)
    (fun k => All.mem (ref6_Reserved_vc k) ⟨fun _ => rfl, trivial⟩) (fun x r h => ⟨k, (ref6_Reserved_eq k x).symm.trans h⟩) (by kernel_rfl) (by kernel_rfl) (Nat.le_of_ble_eq_true (by kernel_rfl))
theorem ref6_Reserved_snd : Snd Tryd.prog S ⟨39, [.val (.data .str)], [.val (.data .bool)], fun x => ref6_Reserved x⟩ := Snd.lim (ref6_Reserved_sndk)
/-! ### 22 cotillion/cotillionref6.Name -/
noncomputable def ref6_Name_l0 : Nat → (List UInt8) → Int → Option Bool
  | 0, _, _ => none
  | k + 1, s, i => if i < (s.length : Int) then
    if 0 ≤ i then
    if i < (s.length : Int) then
    (ref6_letter ((s.getD i.toNat 0).toNat : Int)).bind fun r2 =>
    bif !r2 then
    if 0 ≤ i then
    if i < (s.length : Int) then
    (ref6_digit ((s.getD i.toNat 0).toNat : Int)).bind fun r3 =>
    bif !r3 then
    some false else
    ref6_Name_l0 k s (w64 (i + 1)) else none else none else
    ref6_Name_l0 k s (w64 (i + 1)) else none else none else
    (ref6_Reserved s).bind fun r4 =>
    some (!r4)
noncomputable def ref6_Name_f (k : Nat) (s : List UInt8) : Option Bool := if (s.length : Int) = 0 then
    some false else
    if 24 < (s.length : Int) then
    some false else
    if (0 : Int) ≤ 0 then
    if 0 < (s.length : Int) then
    (ref6_letter ((s.getD (0 : Int).toNat 0).toNat : Int)).bind fun r1 =>
    bif !r1 then
    some false else
    ref6_Name_l0 k s 0 else none else none
noncomputable def ref6_Name  (s : List UInt8) : Option Bool := lim (fun k (x : List UInt8) => ref6_Name_f k x) s
noncomputable abbrev ref6_Name_T : Tab S := ⟨[⟨37, [.val (.data (.int .u8))], [.val (.data .bool)], fun x => ref6_letter x⟩, ⟨38, [.val (.data (.int .u8))], [.val (.data .bool)], fun x => ref6_digit x⟩, ⟨39, [.val (.data .str)], [.val (.data .bool)], fun x => ref6_Reserved x⟩], [], false, false⟩
noncomputable def ref6_Name_L (k : Nat) : Nat → List (Lab S Bool)
  | 0 => [⟨[0, 3], [.val (.data .str), .val (.data (.int .i64))], fun x => ref6_Name_l0 k x.1 x.2⟩]
  | _ + 1 => []
theorem ref6_Name_eq (k : Nat) (s : List UInt8) : ref6_Name_f k s = exec S (ref6_Name_T) byt (labs S (ref6_Name_T) (ref6_Name_L k)) (ac [] Tryd.f22) (frame0 S [.val (.data .str)] s) (retK S (ref6_Name_T) Tryd.f22 [.val (.data .str)] [.val (.data .bool)]) := by kernel_rfl
theorem ref6_Name_vc (k : Nat) : VC S (ref6_Name_T) byt (ref6_Name_L k) (ref6_Name_L (k + 1)) (ac [] Tryd.f22) (retK S (ref6_Name_T) Tryd.f22 [.val (.data .str)] [.val (.data .bool)]) = [∀ x : List UInt8 × Int, ref6_Name_l0 (k + 1) x.1 x.2 = ref6_Name_l0 (k + 1) x.1 x.2] := by kernel_rfl
theorem ref6_Name_sndk (k : Nat) : Snd Tryd.prog S ⟨22, [.val (.data .str)], [.val (.data .bool)], fun x => ref6_Name_f k x⟩ :=
  fn_ok progOk (T := (ref6_Name_T)) (all_cons ref6_letter_snd (all_cons ref6_digit_snd (all_cons ref6_Reserved_snd (all_nil)))) (all_nil) mixed Tryd.func22 rfl (by kernel_rfl) (ac_code [] Tryd.f22 rfl) (L := ref6_Name_L)
    (fun n l h x => by match n, h with
        | 0, h => 
          rcases List.mem_cons.1 h with rfl | h
          · rfl
          cases h
        | _ + 1, h => cases h) (fun k n l h => by match n, h with
        | 0, h => 
          rcases List.mem_cons.1 h with rfl | h
          · rfl
          cases h
        | _ + 1, h => cases h)
    (fun k => All.mem (ref6_Name_vc k) ⟨fun _ => rfl, trivial⟩) (fun x r h => ⟨k, (ref6_Name_eq k x).symm.trans h⟩) (by kernel_rfl) (by kernel_rfl) (Nat.le_of_ble_eq_true (by kernel_rfl))
theorem ref6_Name_snd : Snd Tryd.prog S ⟨22, [.val (.data .str)], [.val (.data .bool)], fun x => ref6_Name x⟩ := Snd.lim (ref6_Name_sndk)
/-! ### 25 cotillion/cotillionref7.Dec -/
noncomputable def ref7_Dec_b (self_ref7_Dec : Int → Option (List UInt8)) (k : Nat) (n : Int) : Option (List UInt8) := if n ≤ (-10) then
    if ¬ (10 : Int) = 0 then
    if ¬ (10 : Int) = 0 then
    (self_ref7_Dec (w64 (n.tdiv 10))).bind fun r1 =>
    if 0 ≤ (w64 ((w64 (0 - (n.tmod 10))) + 1)) then
    if (w64 ((w64 (0 - (n.tmod 10))) + 1)) ≤ (s_v_0123456789.length : Int) then
    if 0 ≤ (w64 (0 - (n.tmod 10))) then
    if (w64 (0 - (n.tmod 10))) ≤ (w64 ((w64 (0 - (n.tmod 10))) + 1)) then
    if r1.length + (cut s_v_0123456789 (w64 (0 - (n.tmod 10))) (w64 ((w64 (0 - (n.tmod 10))) + 1))).length ≤ 9223372036854775807 then
    some (r1 ++ (cut s_v_0123456789 (w64 (0 - (n.tmod 10))) (w64 ((w64 (0 - (n.tmod 10))) + 1)))) else none else none else none else none else none else none else none else
    if n < 0 then
    if 0 ≤ (w64 ((w64 (0 - n)) + 1)) then
    if (w64 ((w64 (0 - n)) + 1)) ≤ (s_v_0123456789.length : Int) then
    if 0 ≤ (w64 (0 - n)) then
    if (w64 (0 - n)) ≤ (w64 ((w64 (0 - n)) + 1)) then
    if s_v___.length + (cut s_v_0123456789 (w64 (0 - n)) (w64 ((w64 (0 - n)) + 1))).length ≤ 9223372036854775807 then
    some (s_v___ ++ (cut s_v_0123456789 (w64 (0 - n)) (w64 ((w64 (0 - n)) + 1)))) else none else none else none else none else none else
    if n < 10 then
    if 0 ≤ (w64 (n + 1)) then
    if (w64 (n + 1)) ≤ (s_v_0123456789.length : Int) then
    if 0 ≤ n then
    if n ≤ (w64 (n + 1)) then
    some (cut s_v_0123456789 n (w64 (n + 1))) else none else none else none else none else
    if ¬ (10 : Int) = 0 then
    (self_ref7_Dec (w64 (n.tdiv 10))).bind fun r2 =>
    if ¬ (10 : Int) = 0 then
    if ¬ (10 : Int) = 0 then
    if 0 ≤ (w64 ((n.tmod 10) + 1)) then
    if (w64 ((n.tmod 10) + 1)) ≤ (s_v_0123456789.length : Int) then
    if 0 ≤ (n.tmod 10) then
    if (n.tmod 10) ≤ (w64 ((n.tmod 10) + 1)) then
    if r2.length + (cut s_v_0123456789 (n.tmod 10) (w64 ((n.tmod 10) + 1))).length ≤ 9223372036854775807 then
    some (r2 ++ (cut s_v_0123456789 (n.tmod 10) (w64 ((n.tmod 10) + 1)))) else none else none else none else none else none else none else none else none
noncomputable def ref7_Dec_f : Nat → Int → Option (List UInt8)
  | 0, _ => none
  | k + 1, x0 => ref7_Dec_b (ref7_Dec_f k) k x0
noncomputable def ref7_Dec  (n : Int) : Option (List UInt8) := lim (fun k (x : Int) => ref7_Dec_f k x) n
noncomputable abbrev ref7_Dec_T (self_ref7_Dec : Int → Option (List UInt8)) : Tab S := ⟨[⟨25, [.val (.data (.int .i64))], [.val (.data .str)], fun x => self_ref7_Dec x⟩], [], false, false⟩
noncomputable def ref7_Dec_L (self_ref7_Dec : Int → Option (List UInt8)) (k : Nat) : Nat → List (Lab S (List UInt8))
  | _ => []
theorem ref7_Dec_eq (self_ref7_Dec : Int → Option (List UInt8)) (k : Nat) (n : Int) : ref7_Dec_b self_ref7_Dec k n = exec S (ref7_Dec_T self_ref7_Dec) byt (labs S (ref7_Dec_T self_ref7_Dec) (ref7_Dec_L self_ref7_Dec k)) (ac [] Tryd.f25) (frame0 S [.val (.data (.int .i64))] n) (retK S (ref7_Dec_T self_ref7_Dec) Tryd.f25 [.val (.data (.int .i64))] [.val (.data .str)]) := by kernel_rfl
theorem ref7_Dec_vc (self_ref7_Dec : Int → Option (List UInt8)) (k : Nat) : VC S (ref7_Dec_T self_ref7_Dec) byt (ref7_Dec_L self_ref7_Dec k) (ref7_Dec_L self_ref7_Dec (k + 1)) (ac [] Tryd.f25) (retK S (ref7_Dec_T self_ref7_Dec) Tryd.f25 [.val (.data (.int .i64))] [.val (.data .str)]) = [] := by kernel_rfl
theorem ref7_Dec_sndk (self_ref7_Dec : Int → Option (List UInt8)) (hself : Snd Tryd.prog S ⟨25, [.val (.data (.int .i64))], [.val (.data .str)], fun x => self_ref7_Dec x⟩) (k : Nat) : Snd Tryd.prog S ⟨25, [.val (.data (.int .i64))], [.val (.data .str)], fun x => ref7_Dec_b self_ref7_Dec k x⟩ :=
  fn_ok progOk (T := (ref7_Dec_T self_ref7_Dec)) (all_cons hself (all_nil)) (all_nil) mixed Tryd.func25 rfl (by kernel_rfl) (ac_code [] Tryd.f25 rfl) (L := ref7_Dec_L self_ref7_Dec)
    (fun n l h x => by cases h) (fun k n l h => by cases h)
    (fun k => All.mem (ref7_Dec_vc self_ref7_Dec k) trivial) (fun x r h => ⟨k, (ref7_Dec_eq self_ref7_Dec k x).symm.trans h⟩) (by kernel_rfl) (by kernel_rfl) (Nat.le_of_ble_eq_true (by kernel_rfl))
theorem ref7_Dec_sndf : ∀ k, Snd Tryd.prog S ⟨25, [.val (.data (.int .i64))], [.val (.data .str)], fun x => ref7_Dec_f k x⟩
  | 0 => Snd.none ⟨_, Tryd.func25, by kernel_rfl, by kernel_rfl⟩ fun _ => rfl
  | k + 1 => ref7_Dec_sndk (ref7_Dec_f k) (ref7_Dec_sndf k) k
theorem ref7_Dec_snd : Snd Tryd.prog S ⟨25, [.val (.data (.int .i64))], [.val (.data .str)], fun x => ref7_Dec x⟩ := Snd.lim (ref7_Dec_sndf)
/-! ### 23 cotillion/cotillionref34.number -/
noncomputable def ref34_number_l0 : Nat → (List UInt8) → Int → Bool → Int → Option (Int × Bool)
  | 0, _, _, _, _ => none
  | k + 1, s, n, neg, i => if i < (s.length : Int) then
    if 0 ≤ i then
    if i < (s.length : Int) then
    if ((s.getD i.toNat 0).toNat : Int) < 48 then
    some (0, false) else
    if 0 ≤ i then
    if i < (s.length : Int) then
    if 57 < ((s.getD i.toNat 0).toNat : Int) then
    some (0, false) else
    if 0 ≤ i then
    if i < (s.length : Int) then
    bif neg then
    if ¬ (10 : Int) = 0 then
    if (w64 ((w64 (9223372036854775807 - (max (w64 (0 - (w64 (wu8 (((s.getD i.toNat 0).toNat : Int) - 48))))) 0))).tdiv 10)) < n then
    some (0, false) else
    if ¬ (10 : Int) = 0 then
    if n < (w64 ((w64 ((-9223372036854775808) - (min (w64 (0 - (w64 (wu8 (((s.getD i.toNat 0).toNat : Int) - 48))))) 0))).tdiv 10)) then
    some (0, false) else
    ref34_number_l0 k s (w64 ((w64 (10 * n)) + (w64 (0 - (w64 (wu8 (((s.getD i.toNat 0).toNat : Int) - 48))))))) neg (w64 (i + 1)) else none else none else
    if ¬ (10 : Int) = 0 then
    if (w64 ((w64 (9223372036854775807 - (max (w64 (wu8 (((s.getD i.toNat 0).toNat : Int) - 48))) 0))).tdiv 10)) < n then
    some (0, false) else
    if ¬ (10 : Int) = 0 then
    if n < (w64 ((w64 ((-9223372036854775808) - (min (w64 (wu8 (((s.getD i.toNat 0).toNat : Int) - 48))) 0))).tdiv 10)) then
    some (0, false) else
    ref34_number_l0 k s (w64 ((w64 (10 * n)) + (w64 (wu8 (((s.getD i.toNat 0).toNat : Int) - 48))))) neg (w64 (i + 1)) else none else none else none else none else none else none else none else none else
    (ref7_Dec n).bind fun r1 =>
    some (n, decide (r1 = s))
noncomputable def ref34_number_f (k : Nat) (s : List UInt8) : Option (Int × Bool) := if 0 < (s.length : Int) then
    if (0 : Int) ≤ 0 then
    if 0 < (s.length : Int) then
    if ((s.getD (0 : Int).toNat 0).toNat : Int) = 45 then
    if 1 = (s.length : Int) then
    some (0, false) else
    if 19 < (w64 ((s.length : Int) - 1)) then
    some (0, false) else
    ref34_number_l0 k s 0 (decide (((s.getD (0 : Int).toNat 0).toNat : Int) = 45)) 1 else
    if 0 = (s.length : Int) then
    some (0, false) else
    if 19 < (w64 ((s.length : Int) - 0)) then
    some (0, false) else
    ref34_number_l0 k s 0 (decide (((s.getD (0 : Int).toNat 0).toNat : Int) = 45)) 0 else none else none else
    if 0 = (s.length : Int) then
    some (0, false) else
    if 19 < (w64 ((s.length : Int) - 0)) then
    some (0, false) else
    ref34_number_l0 k s 0 false 0
noncomputable def ref34_number  (s : List UInt8) : Option (Int × Bool) := lim (fun k (x : List UInt8) => ref34_number_f k x) s
noncomputable abbrev ref34_number_T : Tab S := ⟨[⟨25, [.val (.data (.int .i64))], [.val (.data .str)], fun x => ref7_Dec x⟩], [], false, false⟩
noncomputable def ref34_number_L (k : Nat) : Nat → List (Lab S (Int × Bool))
  | 0 => [⟨[0, 4, 5, 7], [.val (.data .str), .val (.data (.int .i64)), .val (.data .bool), .val (.data (.int .i64))], fun x => ref34_number_l0 k x.1 x.2.1 x.2.2.1 x.2.2.2⟩]
  | _ + 1 => []
theorem ref34_number_eq (k : Nat) (s : List UInt8) : ref34_number_f k s = exec S (ref34_number_T) byt (labs S (ref34_number_T) (ref34_number_L k)) (ac [] Tryd.f23) (frame0 S [.val (.data .str)] s) (retK S (ref34_number_T) Tryd.f23 [.val (.data .str)] [.val (.data (.int .i64)), .val (.data .bool)]) := by kernel_rfl
theorem ref34_number_vc (k : Nat) : VC S (ref34_number_T) byt (ref34_number_L k) (ref34_number_L (k + 1)) (ac [] Tryd.f23) (retK S (ref34_number_T) Tryd.f23 [.val (.data .str)] [.val (.data (.int .i64)), .val (.data .bool)]) = [∀ x : List UInt8 × Int × Bool × Int, ref34_number_l0 (k + 1) x.1 x.2.1 x.2.2.1 x.2.2.2 = ref34_number_l0 (k + 1) x.1 x.2.1 x.2.2.1 x.2.2.2] := by kernel_rfl
theorem ref34_number_sndk (k : Nat) : Snd Tryd.prog S ⟨23, [.val (.data .str)], [.val (.data (.int .i64)), .val (.data .bool)], fun x => ref34_number_f k x⟩ :=
  fn_ok progOk (T := (ref34_number_T)) (all_cons ref7_Dec_snd (all_nil)) (all_nil) mixed Tryd.func23 rfl (by kernel_rfl) (ac_code [] Tryd.f23 rfl) (L := ref34_number_L)
    (fun n l h x => by match n, h with
        | 0, h => 
          rcases List.mem_cons.1 h with rfl | h
          · rfl
          cases h
        | _ + 1, h => cases h) (fun k n l h => by match n, h with
        | 0, h => 
          rcases List.mem_cons.1 h with rfl | h
          · rfl
          cases h
        | _ + 1, h => cases h)
    (fun k => All.mem (ref34_number_vc k) ⟨fun _ => rfl, trivial⟩) (fun x r h => ⟨k, (ref34_number_eq k x).symm.trans h⟩) (by kernel_rfl) (by kernel_rfl) (Nat.le_of_ble_eq_true (by kernel_rfl))
theorem ref34_number_snd : Snd Tryd.prog S ⟨23, [.val (.data .str)], [.val (.data (.int .i64)), .val (.data .bool)], fun x => ref34_number x⟩ := Snd.lim (ref34_number_sndk)
/-! ### 9 cotillion/cotillionref34.Parse -/
noncomputable def ref34_Parse_c0 : Nat → Int → Int → (List UInt8) → Int → (List (List UInt8)) → Int → Bool → Option (api_Op × Int)
  | 0, _, _, _, _, _, _, _ => none
  | k + 1, x4_Kind, x4_Inst, x4_Msg_Event, x4_Msg_N, w, i, x62 => bif x62 then
    if (0 : Int) ≤ 3 then
    if 3 < (w.length : Int) then
    (ref34_number (w.getD (3 : Int).toNat [])).bind fun r8 =>
    bif r8.2 then
    if (0 : Int) ≤ 2 then
    if 2 < (w.length : Int) then
    some (api_Op.mk 3 i (api_Msg.mk (w.getD (2 : Int).toNat []) r8.1), 0) else none else none else
    some (api_Op.mk 0 0 (api_Msg.mk [] 0), 22) else none else none else
    some (api_Op.mk 0 0 (api_Msg.mk [] 0), 22)
noncomputable def ref34_Parse_f (k : Nat) (n : api_Net) (line : List UInt8) : Option (api_Op × Int) := (ref34_Words line).bind fun r1 =>
    if line = s_tick then
    some (api_Op.mk 4 0 (api_Msg.mk [] 0), 0) else
    if line = s_run then
    some (api_Op.mk 5 0 (api_Msg.mk [] 0), 0) else
    if (r1.length : Int) < 2 then
    some (api_Op.mk 0 0 (api_Msg.mk [] 0), 22) else
    if (0 : Int) ≤ 1 then
    if 1 < (r1.length : Int) then
    (ref34_Inst n (r1.getD (1 : Int).toNat [])).bind fun r2 =>
    if r2 < 0 then
    some (api_Op.mk 0 0 (api_Msg.mk [] 0), 22) else
    if (0 : Int) ≤ 1 then
    if 1 < (r1.length : Int) then
    (ref34_Inst n (r1.getD (1 : Int).toNat [])).bind fun r3 =>
    if (0 : Int) ≤ 0 then
    if 0 < (r1.length : Int) then
    if (r1.getD (0 : Int).toNat []) = s_start then
    if (r1.length : Int) = 2 then
    some (api_Op.mk 1 r3 (api_Msg.mk [] 0), 0) else
    if (0 : Int) ≤ 0 then
    if 0 < (r1.length : Int) then
    if (r1.getD (0 : Int).toNat []) = s_stop then
    if (r1.length : Int) = 2 then
    some (api_Op.mk 2 r3 (api_Msg.mk [] 0), 0) else
    if (0 : Int) ≤ 0 then
    if 0 < (r1.length : Int) then
    if (r1.getD (0 : Int).toNat []) = s_post then
    if (r1.length : Int) = 4 then
    if (0 : Int) ≤ 2 then
    if 2 < (r1.length : Int) then
    (ref6_Name (r1.getD (2 : Int).toNat [])).bind fun r4 =>
    ref34_Parse_c0 k 0 0 [] 0 r1 r3 r4 else none else none else
    ref34_Parse_c0 k 0 0 [] 0 r1 r3 false else
    ref34_Parse_c0 k 0 0 [] 0 r1 r3 false else none else none else
    if (0 : Int) ≤ 0 then
    if 0 < (r1.length : Int) then
    if (r1.getD (0 : Int).toNat []) = s_post then
    if (r1.length : Int) = 4 then
    if (0 : Int) ≤ 2 then
    if 2 < (r1.length : Int) then
    (ref6_Name (r1.getD (2 : Int).toNat [])).bind fun r5 =>
    ref34_Parse_c0 k 0 0 [] 0 r1 r3 r5 else none else none else
    ref34_Parse_c0 k 0 0 [] 0 r1 r3 false else
    ref34_Parse_c0 k 0 0 [] 0 r1 r3 false else none else none else none else none else
    if (0 : Int) ≤ 0 then
    if 0 < (r1.length : Int) then
    if (r1.getD (0 : Int).toNat []) = s_stop then
    if (r1.length : Int) = 2 then
    some (api_Op.mk 2 r3 (api_Msg.mk [] 0), 0) else
    if (0 : Int) ≤ 0 then
    if 0 < (r1.length : Int) then
    if (r1.getD (0 : Int).toNat []) = s_post then
    if (r1.length : Int) = 4 then
    if (0 : Int) ≤ 2 then
    if 2 < (r1.length : Int) then
    (ref6_Name (r1.getD (2 : Int).toNat [])).bind fun r6 =>
    ref34_Parse_c0 k 0 0 [] 0 r1 r3 r6 else none else none else
    ref34_Parse_c0 k 0 0 [] 0 r1 r3 false else
    ref34_Parse_c0 k 0 0 [] 0 r1 r3 false else none else none else
    if (0 : Int) ≤ 0 then
    if 0 < (r1.length : Int) then
    if (r1.getD (0 : Int).toNat []) = s_post then
    if (r1.length : Int) = 4 then
    if (0 : Int) ≤ 2 then
    if 2 < (r1.length : Int) then
    (ref6_Name (r1.getD (2 : Int).toNat [])).bind fun r7 =>
    ref34_Parse_c0 k 0 0 [] 0 r1 r3 r7 else none else none else
    ref34_Parse_c0 k 0 0 [] 0 r1 r3 false else
    ref34_Parse_c0 k 0 0 [] 0 r1 r3 false else none else none else none else none else none else none else none else none else none else none
noncomputable def ref34_Parse  (n : api_Net) (line : List UInt8) : Option (api_Op × Int) := lim (fun k (x : api_Net × List UInt8) => ref34_Parse_f k x.1 x.2) (n, line)
noncomputable abbrev ref34_Parse_T : Tab S := ⟨[⟨20, [.val (.data .str)], [.val (.town .str)], fun x => ref34_Words x⟩, ⟨21, [.val (.data (.st 0)), .val (.data .str)], [.val (.data (.int .i64))], fun x => ref34_Inst x.1 x.2⟩, ⟨22, [.val (.data .str)], [.val (.data .bool)], fun x => ref6_Name x⟩, ⟨23, [.val (.data .str)], [.val (.data (.int .i64)), .val (.data .bool)], fun x => ref34_number x⟩], [], false, false⟩
noncomputable def ref34_Parse_L (k : Nat) : Nat → List (Lab S (api_Op × Int))
  | 0 => []
  | 1 => [⟨[4, 6, 7, 62], [.obj [.data (.int .i64), .data (.int .i64), .data .str, .data (.int .i64)], .val (.town .str), .val (.data (.int .i64)), .val (.data .bool)], fun x => ref34_Parse_c0 k x.1.1 x.1.2.1 x.1.2.2.1 x.1.2.2.2 x.2.1 x.2.2.1 x.2.2.2⟩]
  | _ + 2 => []
theorem ref34_Parse_eq (k : Nat) (n : api_Net) (line : List UInt8) : ref34_Parse_f k n line = exec S (ref34_Parse_T) byt (labs S (ref34_Parse_T) (ref34_Parse_L k)) (ac [15] Tryd.f9) (frame0 S [.val (.data (.st 0)), .val (.data .str)] (n, line)) (retK S (ref34_Parse_T) Tryd.f9 [.val (.data (.st 0)), .val (.data .str)] [.val (.data (.st 7)), .val (.data (.int .i64))]) := by kernel_rfl
theorem ref34_Parse_vc (k : Nat) : VC S (ref34_Parse_T) byt (ref34_Parse_L k) (ref34_Parse_L (k + 1)) (ac [15] Tryd.f9) (retK S (ref34_Parse_T) Tryd.f9 [.val (.data (.st 0)), .val (.data .str)] [.val (.data (.st 7)), .val (.data (.int .i64))]) = [∀ x : (Int × Int × List UInt8 × Int) × List (List UInt8) × Int × Bool, ref34_Parse_c0 (k + 1) x.1.1 x.1.2.1 x.1.2.2.1 x.1.2.2.2 x.2.1 x.2.2.1 x.2.2.2 = ref34_Parse_c0 (k + 1) x.1.1 x.1.2.1 x.1.2.2.1 x.1.2.2.2 x.2.1 x.2.2.1 x.2.2.2] := by kernel_rfl
theorem ref34_Parse_sndk (k : Nat) : Snd Tryd.prog S ⟨9, [.val (.data (.st 0)), .val (.data .str)], [.val (.data (.st 7)), .val (.data (.int .i64))], fun x => ref34_Parse_f k x.1 x.2⟩ :=
  fn_ok progOk (T := (ref34_Parse_T)) (all_cons ref34_Words_snd (all_cons ref34_Inst_snd (all_cons ref6_Name_snd (all_cons ref34_number_snd (all_nil))))) (all_nil) mixed Tryd.func9 rfl (by kernel_rfl) (ac_code [15] Tryd.f9 rfl) (L := ref34_Parse_L)
    (fun n l h x => by match n, h with
        | 0, h => cases h
        | 1, h => 
          rcases List.mem_cons.1 h with rfl | h
          · rfl
          cases h
        | _ + 2, h => cases h) (fun k n l h => by match n, h with
        | 0, h => cases h
        | 1, h => 
          rcases List.mem_cons.1 h with rfl | h
          · rfl
          cases h
        | _ + 2, h => cases h)
    (fun k => All.mem (ref34_Parse_vc k) ⟨fun _ => rfl, trivial⟩) (fun x r h => ⟨k, (ref34_Parse_eq k x.1 x.2).symm.trans h⟩) (by kernel_rfl) (by kernel_rfl) (Nat.le_of_ble_eq_true (by kernel_rfl))
theorem ref34_Parse_snd : Snd Tryd.prog S ⟨9, [.val (.data (.st 0)), .val (.data .str)], [.val (.data (.st 7)), .val (.data (.int .i64))], fun x => ref34_Parse x.1 x.2⟩ := Snd.lim (ref34_Parse_sndk)
/-! ### 3 cotillion/cotillionlaw34.ScriptParses -/
noncomputable def law34_ScriptParses_l1 : Nat → Int → Int → (List api_Table) → (List api_Part) → (List api_Line) → (List (List UInt8)) → (List (List UInt8)) → (List UInt8) → (List UInt8 × List UInt8 × List UInt8) → Int → Option Bool
  | 0, _, _, _, _, _, _, _, _, _, _ => none
  | k + 1, num, n_Age, n_Tables, n_Parts, n_Lines, n_Insts, n_Chans, t, x56, x57 => if x57 < 3 then
    if 0 ≤ x57 then
    if x57 < ([x56.1, x56.2.1, x56.2.2].length : Int) then
    (script_Parse (api_Net.mk n_Age n_Tables n_Parts n_Lines n_Insts n_Chans) ([x56.1, x56.2.1, x56.2.2].getD x57.toNat [])).bind fun r5 =>
    (ref34_Parse (api_Net.mk n_Age n_Tables n_Parts n_Lines n_Insts n_Chans) ([x56.1, x56.2.1, x56.2.2].getD x57.toNat [])).bind fun r6 =>
    if ¬ (r5.1.Kind = r6.1.Kind ∧ r5.1.Inst = r6.1.Inst ∧ r5.1.Msg.Event = r6.1.Msg.Event ∧ r5.1.Msg.N = r6.1.Msg.N) then
    some false else
    if r5.2 ≠ r6.2 then
    some false else
    law34_ScriptParses_l1 k num n_Age n_Tables n_Parts n_Lines n_Insts n_Chans t x56 (w64 (x57 + 1)) else none else none else
    (script_Parse (api_Net.mk n_Age n_Tables n_Parts n_Lines n_Insts n_Chans) t).bind fun r7 =>
    if r7.2 = 0 then
    if r7.1.Msg.N = num then
    (law34_known).bind fun r8 =>
    some r8 else
    some false else
    some false
noncomputable def law34_ScriptParses_l0 : Nat → (List UInt8) → (List Int) → Int → Int → (List api_Table) → (List api_Part) → (List api_Line) → (List (List UInt8)) → (List (List UInt8)) → (List UInt8 × List UInt8 × List UInt8 × List UInt8 × List UInt8 × List UInt8 × List UInt8 × List UInt8 × List UInt8 × List UInt8 × List UInt8 × List UInt8 × List UInt8 × List UInt8 × List UInt8 × List UInt8) → (List UInt8) → Int → Option Bool
  | 0, _, _, _, _, _, _, _, _, _, _, _, _ => none
  | k + 1, line, words, num, n_Age, n_Tables, n_Parts, n_Lines, n_Insts, n_Chans, all, s, i => if i < (words.length : Int) then
    if 0 < i then
    if s.length + s_v.length ≤ 9223372036854775807 then
    if 0 ≤ i then
    if i < (words.length : Int) then
    if ¬ (16 : Int) = 0 then
    if 0 ≤ ((words.getD i.toNat 0).tmod 16) then
    if ((words.getD i.toNat 0).tmod 16) < ([all.1, all.2.1, all.2.2.1, all.2.2.2.1, all.2.2.2.2.1, all.2.2.2.2.2.1, all.2.2.2.2.2.2.1, all.2.2.2.2.2.2.2.1, all.2.2.2.2.2.2.2.2.1, all.2.2.2.2.2.2.2.2.2.1, all.2.2.2.2.2.2.2.2.2.2.1, all.2.2.2.2.2.2.2.2.2.2.2.1, all.2.2.2.2.2.2.2.2.2.2.2.2.1, all.2.2.2.2.2.2.2.2.2.2.2.2.2.1, all.2.2.2.2.2.2.2.2.2.2.2.2.2.2.1, all.2.2.2.2.2.2.2.2.2.2.2.2.2.2.2].length : Int) then
    if (s ++ s_v).length + ([all.1, all.2.1, all.2.2.1, all.2.2.2.1, all.2.2.2.2.1, all.2.2.2.2.2.1, all.2.2.2.2.2.2.1, all.2.2.2.2.2.2.2.1, all.2.2.2.2.2.2.2.2.1, all.2.2.2.2.2.2.2.2.2.1, all.2.2.2.2.2.2.2.2.2.2.1, all.2.2.2.2.2.2.2.2.2.2.2.1, all.2.2.2.2.2.2.2.2.2.2.2.2.1, all.2.2.2.2.2.2.2.2.2.2.2.2.2.1, all.2.2.2.2.2.2.2.2.2.2.2.2.2.2.1, all.2.2.2.2.2.2.2.2.2.2.2.2.2.2.2].getD ((words.getD i.toNat 0).tmod 16).toNat []).length ≤ 9223372036854775807 then
    law34_ScriptParses_l0 k line words num n_Age n_Tables n_Parts n_Lines n_Insts n_Chans all ((s ++ s_v) ++ ([all.1, all.2.1, all.2.2.1, all.2.2.2.1, all.2.2.2.2.1, all.2.2.2.2.2.1, all.2.2.2.2.2.2.1, all.2.2.2.2.2.2.2.1, all.2.2.2.2.2.2.2.2.1, all.2.2.2.2.2.2.2.2.2.1, all.2.2.2.2.2.2.2.2.2.2.1, all.2.2.2.2.2.2.2.2.2.2.2.1, all.2.2.2.2.2.2.2.2.2.2.2.2.1, all.2.2.2.2.2.2.2.2.2.2.2.2.2.1, all.2.2.2.2.2.2.2.2.2.2.2.2.2.2.1, all.2.2.2.2.2.2.2.2.2.2.2.2.2.2.2].getD ((words.getD i.toNat 0).tmod 16).toNat [])) (w64 (i + 1)) else none else none else none else none else none else none else none else
    if 0 ≤ i then
    if i < (words.length : Int) then
    if ¬ (16 : Int) = 0 then
    if 0 ≤ ((words.getD i.toNat 0).tmod 16) then
    if ((words.getD i.toNat 0).tmod 16) < ([all.1, all.2.1, all.2.2.1, all.2.2.2.1, all.2.2.2.2.1, all.2.2.2.2.2.1, all.2.2.2.2.2.2.1, all.2.2.2.2.2.2.2.1, all.2.2.2.2.2.2.2.2.1, all.2.2.2.2.2.2.2.2.2.1, all.2.2.2.2.2.2.2.2.2.2.1, all.2.2.2.2.2.2.2.2.2.2.2.1, all.2.2.2.2.2.2.2.2.2.2.2.2.1, all.2.2.2.2.2.2.2.2.2.2.2.2.2.1, all.2.2.2.2.2.2.2.2.2.2.2.2.2.2.1, all.2.2.2.2.2.2.2.2.2.2.2.2.2.2.2].length : Int) then
    if s.length + ([all.1, all.2.1, all.2.2.1, all.2.2.2.1, all.2.2.2.2.1, all.2.2.2.2.2.1, all.2.2.2.2.2.2.1, all.2.2.2.2.2.2.2.1, all.2.2.2.2.2.2.2.2.1, all.2.2.2.2.2.2.2.2.2.1, all.2.2.2.2.2.2.2.2.2.2.1, all.2.2.2.2.2.2.2.2.2.2.2.1, all.2.2.2.2.2.2.2.2.2.2.2.2.1, all.2.2.2.2.2.2.2.2.2.2.2.2.2.1, all.2.2.2.2.2.2.2.2.2.2.2.2.2.2.1, all.2.2.2.2.2.2.2.2.2.2.2.2.2.2.2].getD ((words.getD i.toNat 0).tmod 16).toNat []).length ≤ 9223372036854775807 then
    law34_ScriptParses_l0 k line words num n_Age n_Tables n_Parts n_Lines n_Insts n_Chans all (s ++ ([all.1, all.2.1, all.2.2.1, all.2.2.2.1, all.2.2.2.2.1, all.2.2.2.2.2.1, all.2.2.2.2.2.2.1, all.2.2.2.2.2.2.2.1, all.2.2.2.2.2.2.2.2.1, all.2.2.2.2.2.2.2.2.2.1, all.2.2.2.2.2.2.2.2.2.2.1, all.2.2.2.2.2.2.2.2.2.2.2.1, all.2.2.2.2.2.2.2.2.2.2.2.2.1, all.2.2.2.2.2.2.2.2.2.2.2.2.2.1, all.2.2.2.2.2.2.2.2.2.2.2.2.2.2.1, all.2.2.2.2.2.2.2.2.2.2.2.2.2.2.2].getD ((words.getD i.toNat 0).tmod 16).toNat [])) (w64 (i + 1)) else none else none else none else none else none else none else
    (law34_digits num).bind fun r4 =>
    if s_post_a_go.length + r4.length ≤ 9223372036854775807 then
    law34_ScriptParses_l1 k num n_Age n_Tables n_Parts n_Lines n_Insts n_Chans (s_post_a_go ++ r4) (line, s, s_post_a_go ++ r4) 0 else none
noncomputable def law34_ScriptParses_f (k : Nat) (line : List UInt8) (words : List Int) (num : Int) : Option Bool := if 200 < (line.length : Int) then
    (law34_known).bind fun r1 =>
    some r1 else
    if 8 < (words.length : Int) then
    (law34_known).bind fun r2 =>
    some r2 else
    (law34_small).bind fun r3 =>
    law34_ScriptParses_l0 k line words num r3.Age r3.Tables r3.Parts r3.Lines r3.Insts r3.Chans arr_0 [] 0
noncomputable def law34_ScriptParses  (line : List UInt8) (words : List Int) (num : Int) : Option Bool := lim (fun k (x : List UInt8 × List Int × Int) => law34_ScriptParses_f k x.1 x.2.1 x.2.2) (line, words, num)
noncomputable abbrev law34_ScriptParses_T : Tab S := ⟨[⟨5, [], [.val (.data .bool)], fun x => law34_known⟩, ⟨6, [], [.val (.data (.st 0))], fun x => law34_small⟩, ⟨7, [.val (.data (.int .i64))], [.val (.data .str)], fun x => law34_digits x⟩, ⟨8, [.val (.data (.st 0)), .val (.data .str)], [.val (.data (.st 7)), .val (.data (.int .i64))], fun x => script_Parse x.1 x.2⟩, ⟨9, [.val (.data (.st 0)), .val (.data .str)], [.val (.data (.st 7)), .val (.data (.int .i64))], fun x => ref34_Parse x.1 x.2⟩], [], false, false⟩
noncomputable def law34_ScriptParses_L (k : Nat) : Nat → List (Lab S Bool)
  | 0 => [⟨[0, 1, 2, 7, 8, 9, 10], [.val (.data .str), .val (.data (.sl (.int .u8))), .val (.data (.int .i64)), .obj [.data (.int .i64), .data (.sl (.st 1)), .data (.sl (.st 5)), .data (.sl (.st 6)), .data (.sl .str), .data (.sl .str)], .ro (.st 15), .val (.data .str), .val (.data (.int .i64))], fun x => law34_ScriptParses_l0 k x.1 x.2.1 x.2.2.1 x.2.2.2.1.1 x.2.2.2.1.2.1 x.2.2.2.1.2.2.1 x.2.2.2.1.2.2.2.1 x.2.2.2.1.2.2.2.2.1 x.2.2.2.1.2.2.2.2.2 x.2.2.2.2.1 x.2.2.2.2.2.1 x.2.2.2.2.2.2⟩]
  | 1 => []
  | 2 => [⟨[2, 7, 11, 56, 57], [.val (.data (.int .i64)), .obj [.data (.int .i64), .data (.sl (.st 1)), .data (.sl (.st 5)), .data (.sl (.st 6)), .data (.sl .str), .data (.sl .str)], .val (.data .str), .val (.data (.st 16)), .val (.data (.int .i64))], fun x => law34_ScriptParses_l1 k x.1 x.2.1.1 x.2.1.2.1 x.2.1.2.2.1 x.2.1.2.2.2.1 x.2.1.2.2.2.2.1 x.2.1.2.2.2.2.2 x.2.2.1 x.2.2.2.1 x.2.2.2.2⟩]
  | _ + 3 => []
theorem law34_ScriptParses_eq (k : Nat) (line : List UInt8) (words : List Int) (num : Int) : law34_ScriptParses_f k line words num = exec S (law34_ScriptParses_T) byt (labs S (law34_ScriptParses_T) (law34_ScriptParses_L k)) (ac [] Tryd.f3) (frame0 S [.val (.data .str), .val (.data (.sl (.int .u8))), .val (.data (.int .i64))] (line, words, num)) (retK S (law34_ScriptParses_T) Tryd.f3 [.val (.data .str), .val (.data (.sl (.int .u8))), .val (.data (.int .i64))] [.val (.data .bool)]) := by kernel_rfl
theorem law34_ScriptParses_vc (k : Nat) : VC S (law34_ScriptParses_T) byt (law34_ScriptParses_L k) (law34_ScriptParses_L (k + 1)) (ac [] Tryd.f3) (retK S (law34_ScriptParses_T) Tryd.f3 [.val (.data .str), .val (.data (.sl (.int .u8))), .val (.data (.int .i64))] [.val (.data .bool)]) = [∀ x : List UInt8 × List Int × Int × (Int × List api_Table × List api_Part × List api_Line × List (List UInt8) × List (List UInt8)) × (List UInt8 × List UInt8 × List UInt8 × List UInt8 × List UInt8 × List UInt8 × List UInt8 × List UInt8 × List UInt8 × List UInt8 × List UInt8 × List UInt8 × List UInt8 × List UInt8 × List UInt8 × List UInt8) × List UInt8 × Int, law34_ScriptParses_l0 (k + 1) x.1 x.2.1 x.2.2.1 x.2.2.2.1.1 x.2.2.2.1.2.1 x.2.2.2.1.2.2.1 x.2.2.2.1.2.2.2.1 x.2.2.2.1.2.2.2.2.1 x.2.2.2.1.2.2.2.2.2 x.2.2.2.2.1 x.2.2.2.2.2.1 x.2.2.2.2.2.2 = law34_ScriptParses_l0 (k + 1) x.1 x.2.1 x.2.2.1 x.2.2.2.1.1 x.2.2.2.1.2.1 x.2.2.2.1.2.2.1 x.2.2.2.1.2.2.2.1 x.2.2.2.1.2.2.2.2.1 x.2.2.2.1.2.2.2.2.2 x.2.2.2.2.1 x.2.2.2.2.2.1 x.2.2.2.2.2.2, ∀ x : Int × (Int × List api_Table × List api_Part × List api_Line × List (List UInt8) × List (List UInt8)) × List UInt8 × (List UInt8 × List UInt8 × List UInt8) × Int, law34_ScriptParses_l1 (k + 1) x.1 x.2.1.1 x.2.1.2.1 x.2.1.2.2.1 x.2.1.2.2.2.1 x.2.1.2.2.2.2.1 x.2.1.2.2.2.2.2 x.2.2.1 x.2.2.2.1 x.2.2.2.2 = law34_ScriptParses_l1 (k + 1) x.1 x.2.1.1 x.2.1.2.1 x.2.1.2.2.1 x.2.1.2.2.2.1 x.2.1.2.2.2.2.1 x.2.1.2.2.2.2.2 x.2.2.1 x.2.2.2.1 x.2.2.2.2] := by kernel_rfl
theorem law34_ScriptParses_sndk (k : Nat) : Snd Tryd.prog S ⟨3, [.val (.data .str), .val (.data (.sl (.int .u8))), .val (.data (.int .i64))], [.val (.data .bool)], fun x => law34_ScriptParses_f k x.1 x.2.1 x.2.2⟩ :=
  fn_ok progOk (T := (law34_ScriptParses_T)) (all_cons law34_known_snd (all_cons law34_small_snd (all_cons law34_digits_snd (all_cons script_Parse_snd (all_cons ref34_Parse_snd (all_nil)))))) (all_nil) mixed Tryd.func3 rfl (by kernel_rfl) (ac_code [] Tryd.f3 rfl) (L := law34_ScriptParses_L)
    (fun n l h x => by match n, h with
        | 0, h => 
          rcases List.mem_cons.1 h with rfl | h
          · rfl
          cases h
        | 1, h => cases h
        | 2, h => 
          rcases List.mem_cons.1 h with rfl | h
          · rfl
          cases h
        | _ + 3, h => cases h) (fun k n l h => by match n, h with
        | 0, h => 
          rcases List.mem_cons.1 h with rfl | h
          · rfl
          cases h
        | 1, h => cases h
        | 2, h => 
          rcases List.mem_cons.1 h with rfl | h
          · rfl
          cases h
        | _ + 3, h => cases h)
    (fun k => All.mem (law34_ScriptParses_vc k) ⟨fun _ => rfl, ⟨fun _ => rfl, trivial⟩⟩) (fun x r h => ⟨k, (law34_ScriptParses_eq k x.1 x.2.1 x.2.2).symm.trans h⟩) (by kernel_rfl) (by kernel_rfl) (Nat.le_of_ble_eq_true (by kernel_rfl))
theorem law34_ScriptParses_snd : Snd Tryd.prog S ⟨3, [.val (.data .str), .val (.data (.sl (.int .u8))), .val (.data (.int .i64))], [.val (.data .bool)], fun x => law34_ScriptParses x.1 x.2.1 x.2.2⟩ := Snd.lim (law34_ScriptParses_sndk)
/-! ### 10 cotillion/cotillionref37.Place -/
noncomputable def ref37_Place  (v : Int) (n : Int) : Option Int := if ¬ n = 0 then
    if (v.tmod n) < 0 then
    some (w64 ((v.tmod n) + n)) else
    some (v.tmod n) else none
noncomputable abbrev ref37_Place_T : Tab S := ⟨[], [], false, false⟩
noncomputable def ref37_Place_L (k : Nat) : Nat → List (Lab S Int)
  | _ => []
theorem ref37_Place_eq (k : Nat) (v : Int) (n : Int) : ref37_Place v n = exec S (ref37_Place_T) byt (labs S (ref37_Place_T) (ref37_Place_L k)) (ac [] Tryd.f10) (frame0 S [.val (.data (.int .i64)), .val (.data (.int .i64))] (v, n)) (retK S (ref37_Place_T) Tryd.f10 [.val (.data (.int .i64)), .val (.data (.int .i64))] [.val (.data (.int .i64))]) := by kernel_rfl
theorem ref37_Place_vc (k : Nat) : VC S (ref37_Place_T) byt (ref37_Place_L k) (ref37_Place_L (k + 1)) (ac [] Tryd.f10) (retK S (ref37_Place_T) Tryd.f10 [.val (.data (.int .i64)), .val (.data (.int .i64))] [.val (.data (.int .i64))]) = [] := by kernel_rfl
theorem ref37_Place_snd : Snd Tryd.prog S ⟨10, [.val (.data (.int .i64)), .val (.data (.int .i64))], [.val (.data (.int .i64))], fun x => ref37_Place x.1 x.2⟩ :=
  fn_ok progOk (T := (ref37_Place_T)) (all_nil) (all_nil) mixed Tryd.func10 rfl (by kernel_rfl) (ac_code [] Tryd.f10 rfl) (L := ref37_Place_L)
    (fun n l h x => by cases h) (fun k n l h => by cases h)
    (fun k => All.mem (ref37_Place_vc k) trivial) (fun x r h => ⟨0, (ref37_Place_eq 0 x.1 x.2).symm.trans h⟩) (by kernel_rfl) (by kernel_rfl) (Nat.le_of_ble_eq_true (by kernel_rfl))
/-! ### 11 cotillion/cotillionref37.Event -/
noncomputable def ref37_Event  (k_ : Int) : Option (List UInt8) := (ref37_Place k_ 8).bind fun r1 =>
    if 0 ≤ r1 then
    if r1 < (row_0.length : Int) then
    some (row_0.getD r1.toNat []) else none else none
noncomputable abbrev ref37_Event_T : Tab S := ⟨[⟨10, [.val (.data (.int .i64)), .val (.data (.int .i64))], [.val (.data (.int .i64))], fun x => ref37_Place x.1 x.2⟩], [], false, false⟩
noncomputable def ref37_Event_L (k : Nat) : Nat → List (Lab S (List UInt8))
  | _ => []
theorem ref37_Event_eq (k : Nat) (k_ : Int) : ref37_Event k_ = exec S (ref37_Event_T) byt (labs S (ref37_Event_T) (ref37_Event_L k)) (ac [] Tryd.f11) (frame0 S [.val (.data (.int .i64))] k_) (retK S (ref37_Event_T) Tryd.f11 [.val (.data (.int .i64))] [.val (.data .str)]) := by kernel_rfl
theorem ref37_Event_vc (k : Nat) : VC S (ref37_Event_T) byt (ref37_Event_L k) (ref37_Event_L (k + 1)) (ac [] Tryd.f11) (retK S (ref37_Event_T) Tryd.f11 [.val (.data (.int .i64))] [.val (.data .str)]) = [] := by kernel_rfl
theorem ref37_Event_snd : Snd Tryd.prog S ⟨11, [.val (.data (.int .i64))], [.val (.data .str)], fun x => ref37_Event x⟩ :=
  fn_ok progOk (T := (ref37_Event_T)) (all_cons ref37_Place_snd (all_nil)) (all_nil) mixed Tryd.func11 rfl (by kernel_rfl) (ac_code [] Tryd.f11 rfl) (L := ref37_Event_L)
    (fun n l h x => by cases h) (fun k n l h => by cases h)
    (fun k => All.mem (ref37_Event_vc k) trivial) (fun x r h => ⟨0, (ref37_Event_eq 0 x).symm.trans h⟩) (by kernel_rfl) (by kernel_rfl) (Nat.le_of_ble_eq_true (by kernel_rfl))
/-! ### 13 cotillion/cotillionref34.Print -/
noncomputable def ref34_Print_c1 : Nat → Int → (List api_Table) → (List api_Part) → (List api_Line) → (List (List UInt8)) → (List (List UInt8)) → Int → Int → (List UInt8) → Int → (List UInt8) → Option (List UInt8 × Int)
  | 0, _, _, _, _, _, _, _, _, _, _, _ => none
  | k + 1, n_Age, n_Tables, n_Parts, n_Lines, n_Insts, n_Chans, o_Kind, o_Inst, o_Msg_Event, o_Msg_N, s => (ref34_Parse (api_Net.mk n_Age n_Tables n_Parts n_Lines n_Insts n_Chans) s).bind fun r2 =>
    if r2.2 ≠ 0 then
    some ([], 1) else
    if ¬ (r2.1.Kind = o_Kind ∧ r2.1.Inst = o_Inst ∧ r2.1.Msg.Event = o_Msg_Event ∧ r2.1.Msg.N = o_Msg_N) then
    some ([], 1) else
    some (s, 0)
noncomputable def ref34_Print_c0 : Nat → Int → (List api_Table) → (List api_Part) → (List api_Line) → (List (List UInt8)) → (List (List UInt8)) → Int → Int → (List UInt8) → Int → (List UInt8) → (List UInt8) → Option (List UInt8 × Int)
  | 0, _, _, _, _, _, _, _, _, _, _, _, _ => none
  | k + 1, n_Age, n_Tables, n_Parts, n_Lines, n_Insts, n_Chans, o_Kind, o_Inst, o_Msg_Event, o_Msg_N, s, a => if o_Kind = 1 then
    if s_start_.length + a.length ≤ 9223372036854775807 then
    ref34_Print_c1 k n_Age n_Tables n_Parts n_Lines n_Insts n_Chans o_Kind o_Inst o_Msg_Event o_Msg_N (s_start_ ++ a) else none else
    if o_Kind = 2 then
    if s_stop_.length + a.length ≤ 9223372036854775807 then
    ref34_Print_c1 k n_Age n_Tables n_Parts n_Lines n_Insts n_Chans o_Kind o_Inst o_Msg_Event o_Msg_N (s_stop_ ++ a) else none else
    if o_Kind = 3 then
    if s_post_.length + a.length ≤ 9223372036854775807 then
    if (s_post_ ++ a).length + s_v.length ≤ 9223372036854775807 then
    if ((s_post_ ++ a) ++ s_v).length + o_Msg_Event.length ≤ 9223372036854775807 then
    if (((s_post_ ++ a) ++ s_v) ++ o_Msg_Event).length + s_v.length ≤ 9223372036854775807 then
    (ref7_Dec o_Msg_N).bind fun r1 =>
    if ((((s_post_ ++ a) ++ s_v) ++ o_Msg_Event) ++ s_v).length + r1.length ≤ 9223372036854775807 then
    ref34_Print_c1 k n_Age n_Tables n_Parts n_Lines n_Insts n_Chans o_Kind o_Inst o_Msg_Event o_Msg_N (((((s_post_ ++ a) ++ s_v) ++ o_Msg_Event) ++ s_v) ++ r1) else none else none else none else none else none else
    if o_Kind = 4 then
    ref34_Print_c1 k n_Age n_Tables n_Parts n_Lines n_Insts n_Chans o_Kind o_Inst o_Msg_Event o_Msg_N s_tick else
    if o_Kind = 5 then
    ref34_Print_c1 k n_Age n_Tables n_Parts n_Lines n_Insts n_Chans o_Kind o_Inst o_Msg_Event o_Msg_N s_run else
    ref34_Print_c1 k n_Age n_Tables n_Parts n_Lines n_Insts n_Chans o_Kind o_Inst o_Msg_Event o_Msg_N s
noncomputable def ref34_Print_f (k : Nat) (n : api_Net) (o : api_Op) : Option (List UInt8 × Int) := if 0 ≤ o.Inst then
    if o.Inst < (n.Insts.length : Int) then
    if 0 ≤ o.Inst then
    if o.Inst < (n.Insts.length : Int) then
    ref34_Print_c0 k n.Age n.Tables n.Parts n.Lines n.Insts n.Chans o.Kind o.Inst o.Msg.Event o.Msg.N [] (n.Insts.getD o.Inst.toNat []) else none else none else
    ref34_Print_c0 k n.Age n.Tables n.Parts n.Lines n.Insts n.Chans o.Kind o.Inst o.Msg.Event o.Msg.N [] [] else
    ref34_Print_c0 k n.Age n.Tables n.Parts n.Lines n.Insts n.Chans o.Kind o.Inst o.Msg.Event o.Msg.N [] []
noncomputable def ref34_Print  (n : api_Net) (o : api_Op) : Option (List UInt8 × Int) := lim (fun k (x : api_Net × api_Op) => ref34_Print_f k x.1 x.2) (n, o)
noncomputable abbrev ref34_Print_T : Tab S := ⟨[⟨25, [.val (.data (.int .i64))], [.val (.data .str)], fun x => ref7_Dec x⟩, ⟨9, [.val (.data (.st 0)), .val (.data .str)], [.val (.data (.st 7)), .val (.data (.int .i64))], fun x => ref34_Parse x.1 x.2⟩], [], false, false⟩
noncomputable def ref34_Print_L (k : Nat) : Nat → List (Lab S (List UInt8 × Int))
  | 0 => []
  | 1 => [⟨[2, 3, 6, 7], [.obj [.data (.int .i64), .data (.sl (.st 1)), .data (.sl (.st 5)), .data (.sl (.st 6)), .data (.sl .str), .data (.sl .str)], .obj [.data (.int .i64), .data (.int .i64), .data .str, .data (.int .i64)], .val (.data .str), .val (.data .str)], fun x => ref34_Print_c0 k x.1.1 x.1.2.1 x.1.2.2.1 x.1.2.2.2.1 x.1.2.2.2.2.1 x.1.2.2.2.2.2 x.2.1.1 x.2.1.2.1 x.2.1.2.2.1 x.2.1.2.2.2 x.2.2.1 x.2.2.2⟩]
  | 2 => []
  | 3 => [⟨[2, 3, 6], [.obj [.data (.int .i64), .data (.sl (.st 1)), .data (.sl (.st 5)), .data (.sl (.st 6)), .data (.sl .str), .data (.sl .str)], .obj [.data (.int .i64), .data (.int .i64), .data .str, .data (.int .i64)], .val (.data .str)], fun x => ref34_Print_c1 k x.1.1 x.1.2.1 x.1.2.2.1 x.1.2.2.2.1 x.1.2.2.2.2.1 x.1.2.2.2.2.2 x.2.1.1 x.2.1.2.1 x.2.1.2.2.1 x.2.1.2.2.2 x.2.2⟩]
  | _ + 4 => []
theorem ref34_Print_eq (k : Nat) (n : api_Net) (o : api_Op) : ref34_Print_f k n o = exec S (ref34_Print_T) byt (labs S (ref34_Print_T) (ref34_Print_L k)) (ac [3, 5] Tryd.f13) (frame0 S [.val (.data (.st 0)), .val (.data (.st 7))] (n, o)) (retK S (ref34_Print_T) Tryd.f13 [.val (.data (.st 0)), .val (.data (.st 7))] [.val (.data .str), .val (.data (.int .i64))]) := by kernel_rfl
theorem ref34_Print_vc (k : Nat) : VC S (ref34_Print_T) byt (ref34_Print_L k) (ref34_Print_L (k + 1)) (ac [3, 5] Tryd.f13) (retK S (ref34_Print_T) Tryd.f13 [.val (.data (.st 0)), .val (.data (.st 7))] [.val (.data .str), .val (.data (.int .i64))]) = [∀ x : (Int × List api_Table × List api_Part × List api_Line × List (List UInt8) × List (List UInt8)) × (Int × Int × List UInt8 × Int) × List UInt8, ref34_Print_c1 (k + 1) x.1.1 x.1.2.1 x.1.2.2.1 x.1.2.2.2.1 x.1.2.2.2.2.1 x.1.2.2.2.2.2 x.2.1.1 x.2.1.2.1 x.2.1.2.2.1 x.2.1.2.2.2 x.2.2 = ref34_Print_c1 (k + 1) x.1.1 x.1.2.1 x.1.2.2.1 x.1.2.2.2.1 x.1.2.2.2.2.1 x.1.2.2.2.2.2 x.2.1.1 x.2.1.2.1 x.2.1.2.2.1 x.2.1.2.2.2 x.2.2, ∀ x : (Int × List api_Table × List api_Part × List api_Line × List (List UInt8) × List (List UInt8)) × (Int × Int × List UInt8 × Int) × List UInt8 × List UInt8, ref34_Print_c0 (k + 1) x.1.1 x.1.2.1 x.1.2.2.1 x.1.2.2.2.1 x.1.2.2.2.2.1 x.1.2.2.2.2.2 x.2.1.1 x.2.1.2.1 x.2.1.2.2.1 x.2.1.2.2.2 x.2.2.1 x.2.2.2 = ref34_Print_c0 (k + 1) x.1.1 x.1.2.1 x.1.2.2.1 x.1.2.2.2.1 x.1.2.2.2.2.1 x.1.2.2.2.2.2 x.2.1.1 x.2.1.2.1 x.2.1.2.2.1 x.2.1.2.2.2 x.2.2.1 x.2.2.2] := by kernel_rfl
theorem ref34_Print_sndk (k : Nat) : Snd Tryd.prog S ⟨13, [.val (.data (.st 0)), .val (.data (.st 7))], [.val (.data .str), .val (.data (.int .i64))], fun x => ref34_Print_f k x.1 x.2⟩ :=
  fn_ok progOk (T := (ref34_Print_T)) (all_cons ref7_Dec_snd (all_cons ref34_Parse_snd (all_nil))) (all_nil) mixed Tryd.func13 rfl (by kernel_rfl) (ac_code [3, 5] Tryd.f13 rfl) (L := ref34_Print_L)
    (fun n l h x => by match n, h with
        | 0, h => cases h
        | 1, h => 
          rcases List.mem_cons.1 h with rfl | h
          · rfl
          cases h
        | 2, h => cases h
        | 3, h => 
          rcases List.mem_cons.1 h with rfl | h
          · rfl
          cases h
        | _ + 4, h => cases h) (fun k n l h => by match n, h with
        | 0, h => cases h
        | 1, h => 
          rcases List.mem_cons.1 h with rfl | h
          · rfl
          cases h
        | 2, h => cases h
        | 3, h => 
          rcases List.mem_cons.1 h with rfl | h
          · rfl
          cases h
        | _ + 4, h => cases h)
    (fun k => All.mem (ref34_Print_vc k) ⟨fun _ => rfl, ⟨fun _ => rfl, trivial⟩⟩) (fun x r h => ⟨k, (ref34_Print_eq k x.1 x.2).symm.trans h⟩) (by kernel_rfl) (by kernel_rfl) (Nat.le_of_ble_eq_true (by kernel_rfl))
theorem ref34_Print_snd : Snd Tryd.prog S ⟨13, [.val (.data (.st 0)), .val (.data (.st 7))], [.val (.data .str), .val (.data (.int .i64))], fun x => ref34_Print x.1 x.2⟩ := Snd.lim (ref34_Print_sndk)
/-! ### 4 cotillion/cotillionlaw34.ScriptBack -/
noncomputable def law34_ScriptBack_l0 : Nat → Int → (List api_Table) → (List api_Part) → (List api_Line) → (List (List UInt8)) → (List (List UInt8)) → (Int × Int × List UInt8 × Int × Int × Int × List UInt8 × Int) → Int → Option Bool
  | 0, _, _, _, _, _, _, _, _ => none
  | k + 1, n_Age, n_Tables, n_Parts, n_Lines, n_Insts, n_Chans, x48, x49 => if x49 < 2 then
    if x49 = 0 then
    (script_Print (api_Net.mk n_Age n_Tables n_Parts n_Lines n_Insts n_Chans) (api_Op.mk x48.1 x48.2.1 (api_Msg.mk x48.2.2.1 x48.2.2.2.1))).bind fun r8 =>
    (ref34_Print (api_Net.mk n_Age n_Tables n_Parts n_Lines n_Insts n_Chans) (api_Op.mk x48.1 x48.2.1 (api_Msg.mk x48.2.2.1 x48.2.2.2.1))).bind fun r9 =>
    if r8.1 ≠ r9.1 then
    some false else
    if r8.2 ≠ r9.2 then
    some false else
    if r8.2 = 0 then
    (script_Parse (api_Net.mk n_Age n_Tables n_Parts n_Lines n_Insts n_Chans) r8.1).bind fun r10 =>
    if r10.2 ≠ 0 then
    some false else
    if ¬ (r10.1.Kind = x48.1 ∧ r10.1.Inst = x48.2.1 ∧ r10.1.Msg.Event = x48.2.2.1 ∧ r10.1.Msg.N = x48.2.2.2.1) then
    some false else
    law34_ScriptBack_l0 k n_Age n_Tables n_Parts n_Lines n_Insts n_Chans x48 (w64 (x49 + 1)) else
    law34_ScriptBack_l0 k n_Age n_Tables n_Parts n_Lines n_Insts n_Chans x48 (w64 (x49 + 1)) else
    if x49 = 1 then
    (script_Print (api_Net.mk n_Age n_Tables n_Parts n_Lines n_Insts n_Chans) (api_Op.mk x48.2.2.2.2.1 x48.2.2.2.2.2.1 (api_Msg.mk x48.2.2.2.2.2.2.1 x48.2.2.2.2.2.2.2))).bind fun r5 =>
    (ref34_Print (api_Net.mk n_Age n_Tables n_Parts n_Lines n_Insts n_Chans) (api_Op.mk x48.2.2.2.2.1 x48.2.2.2.2.2.1 (api_Msg.mk x48.2.2.2.2.2.2.1 x48.2.2.2.2.2.2.2))).bind fun r6 =>
    if r5.1 ≠ r6.1 then
    some false else
    if r5.2 ≠ r6.2 then
    some false else
    if r5.2 = 0 then
    (script_Parse (api_Net.mk n_Age n_Tables n_Parts n_Lines n_Insts n_Chans) r5.1).bind fun r7 =>
    if r7.2 ≠ 0 then
    some false else
    if ¬ (r7.1.Kind = x48.2.2.2.2.1 ∧ r7.1.Inst = x48.2.2.2.2.2.1 ∧ r7.1.Msg.Event = x48.2.2.2.2.2.2.1 ∧ r7.1.Msg.N = x48.2.2.2.2.2.2.2) then
    some false else
    law34_ScriptBack_l0 k n_Age n_Tables n_Parts n_Lines n_Insts n_Chans x48 (w64 (x49 + 1)) else
    law34_ScriptBack_l0 k n_Age n_Tables n_Parts n_Lines n_Insts n_Chans x48 (w64 (x49 + 1)) else none else
    (law34_known).bind fun r11 =>
    some r11
noncomputable def law34_ScriptBack_f (k : Nat) (o : api_Op) (kind : Int) (k_ : Int) : Option Bool := if 60 < (o.Msg.Event.length : Int) then
    (law34_known).bind fun r1 =>
    some r1 else
    (law34_small).bind fun r2 =>
    if ¬ (7 : Int) = 0 then
    (ref37_Place k_ 3).bind fun r3 =>
    if ¬ (3 : Int) = 0 then
    (ref37_Event (w64 (k_.tdiv 3))).bind fun r4 =>
    if (w64 (kind.tmod 7)) ≠ 3 then
    if 3 < (w64 (kind.tmod 7)) then
    law34_ScriptBack_l0 k r2.Age r2.Tables r2.Parts r2.Lines r2.Insts r2.Chans (o.Kind, o.Inst, o.Msg.Event, o.Msg.N, w64 (kind.tmod 7), 0, [], 0) 0 else
    law34_ScriptBack_l0 k r2.Age r2.Tables r2.Parts r2.Lines r2.Insts r2.Chans (o.Kind, o.Inst, o.Msg.Event, o.Msg.N, w64 (kind.tmod 7), r3, [], 0) 0 else
    if 3 < (w64 (kind.tmod 7)) then
    law34_ScriptBack_l0 k r2.Age r2.Tables r2.Parts r2.Lines r2.Insts r2.Chans (o.Kind, o.Inst, o.Msg.Event, o.Msg.N, w64 (kind.tmod 7), 0, r4, o.Msg.N) 0 else
    law34_ScriptBack_l0 k r2.Age r2.Tables r2.Parts r2.Lines r2.Insts r2.Chans (o.Kind, o.Inst, o.Msg.Event, o.Msg.N, w64 (kind.tmod 7), r3, r4, o.Msg.N) 0 else none else none
noncomputable def law34_ScriptBack  (o : api_Op) (kind : Int) (k_ : Int) : Option Bool := lim (fun k (x : api_Op × Int × Int) => law34_ScriptBack_f k x.1 x.2.1 x.2.2) (o, kind, k_)
noncomputable abbrev law34_ScriptBack_T : Tab S := ⟨[⟨5, [], [.val (.data .bool)], fun x => law34_known⟩, ⟨6, [], [.val (.data (.st 0))], fun x => law34_small⟩, ⟨10, [.val (.data (.int .i64)), .val (.data (.int .i64))], [.val (.data (.int .i64))], fun x => ref37_Place x.1 x.2⟩, ⟨11, [.val (.data (.int .i64))], [.val (.data .str)], fun x => ref37_Event x⟩, ⟨12, [.val (.data (.st 0)), .val (.data (.st 7))], [.val (.data .str), .val (.data (.int .i64))], fun x => script_Print x.1 x.2⟩, ⟨13, [.val (.data (.st 0)), .val (.data (.st 7))], [.val (.data .str), .val (.data (.int .i64))], fun x => ref34_Print x.1 x.2⟩, ⟨8, [.val (.data (.st 0)), .val (.data .str)], [.val (.data (.st 7)), .val (.data (.int .i64))], fun x => script_Parse x.1 x.2⟩], [], false, false⟩
noncomputable def law34_ScriptBack_L (k : Nat) : Nat → List (Lab S Bool)
  | 0 => [⟨[7, 48, 49], [.obj [.data (.int .i64), .data (.sl (.st 1)), .data (.sl (.st 5)), .data (.sl (.st 6)), .data (.sl .str), .data (.sl .str)], .val (.data (.st 19)), .val (.data (.int .i64))], fun x => law34_ScriptBack_l0 k x.1.1 x.1.2.1 x.1.2.2.1 x.1.2.2.2.1 x.1.2.2.2.2.1 x.1.2.2.2.2.2 x.2.1 x.2.2⟩]
  | _ + 1 => []
theorem law34_ScriptBack_eq (k : Nat) (o : api_Op) (kind : Int) (k_ : Int) : law34_ScriptBack_f k o kind k_ = exec S (law34_ScriptBack_T) byt (labs S (law34_ScriptBack_T) (law34_ScriptBack_L k)) (ac [] Tryd.f4) (frame0 S [.val (.data (.st 7)), .val (.data (.int .u8)), .val (.data (.int .i64))] (o, kind, k_)) (retK S (law34_ScriptBack_T) Tryd.f4 [.val (.data (.st 7)), .val (.data (.int .u8)), .val (.data (.int .i64))] [.val (.data .bool)]) := by kernel_rfl
theorem law34_ScriptBack_vc (k : Nat) : VC S (law34_ScriptBack_T) byt (law34_ScriptBack_L k) (law34_ScriptBack_L (k + 1)) (ac [] Tryd.f4) (retK S (law34_ScriptBack_T) Tryd.f4 [.val (.data (.st 7)), .val (.data (.int .u8)), .val (.data (.int .i64))] [.val (.data .bool)]) = [∀ x : (Int × List api_Table × List api_Part × List api_Line × List (List UInt8) × List (List UInt8)) × (Int × Int × List UInt8 × Int × Int × Int × List UInt8 × Int) × Int, law34_ScriptBack_l0 (k + 1) x.1.1 x.1.2.1 x.1.2.2.1 x.1.2.2.2.1 x.1.2.2.2.2.1 x.1.2.2.2.2.2 x.2.1 x.2.2 = law34_ScriptBack_l0 (k + 1) x.1.1 x.1.2.1 x.1.2.2.1 x.1.2.2.2.1 x.1.2.2.2.2.1 x.1.2.2.2.2.2 x.2.1 x.2.2] := by kernel_rfl
theorem law34_ScriptBack_sndk (k : Nat) : Snd Tryd.prog S ⟨4, [.val (.data (.st 7)), .val (.data (.int .u8)), .val (.data (.int .i64))], [.val (.data .bool)], fun x => law34_ScriptBack_f k x.1 x.2.1 x.2.2⟩ :=
  fn_ok progOk (T := (law34_ScriptBack_T)) (all_cons law34_known_snd (all_cons law34_small_snd (all_cons ref37_Place_snd (all_cons ref37_Event_snd (all_cons script_Print_snd (all_cons ref34_Print_snd (all_cons script_Parse_snd (all_nil)))))))) (all_nil) mixed Tryd.func4 rfl (by kernel_rfl) (ac_code [] Tryd.f4 rfl) (L := law34_ScriptBack_L)
    (fun n l h x => by match n, h with
        | 0, h => 
          rcases List.mem_cons.1 h with rfl | h
          · rfl
          cases h
        | _ + 1, h => cases h) (fun k n l h => by match n, h with
        | 0, h => 
          rcases List.mem_cons.1 h with rfl | h
          · rfl
          cases h
        | _ + 1, h => cases h)
    (fun k => All.mem (law34_ScriptBack_vc k) ⟨fun _ => rfl, trivial⟩) (fun x r h => ⟨k, (law34_ScriptBack_eq k x.1 x.2.1 x.2.2).symm.trans h⟩) (by kernel_rfl) (by kernel_rfl) (Nat.le_of_ble_eq_true (by kernel_rfl))
theorem law34_ScriptBack_snd : Snd Tryd.prog S ⟨4, [.val (.data (.st 7)), .val (.data (.int .u8)), .val (.data (.int .i64))], [.val (.data .bool)], fun x => law34_ScriptBack x.1 x.2.1 x.2.2⟩ := Snd.lim (law34_ScriptBack_sndk)
end Go.Sy.Sc
/-! script: names, numerals, words. -/
namespace Go.Sy.Sc
open Go.Sy
def isDigit (c : Int) : Bool := decide (48 ≤ c ∧ c ≤ 57)
def isLetter (c : Int) : Bool := decide ((97 ≤ c ∧ c ≤ 122) ∨ (65 ≤ c ∧ c ≤ 90) ∨ c = 95)
theorem kind_eq (c : Int) : lex_kind c = some (isLetter c || isDigit c, isDigit c) := by
  have fin : ∀ a b : Bool, ((a = true) ↔ ((97 ≤ c ∧ c ≤ 122) ∨ (65 ≤ c ∧ c ≤ 90) ∨ c = 95) ∨ (48 ≤ c ∧ c ≤ 57)) → ((b = true) ↔ (48 ≤ c ∧ c ≤ 57)) → some (a, b) = some (isLetter c || isDigit c, isDigit c) := by
    intro a b ha hb
    have e1 : a = (isLetter c || isDigit c) := by
      rw [Bool.eq_iff_iff, ha]; simp [isLetter, isDigit]
    have e2 : b = isDigit c := by
      rw [Bool.eq_iff_iff, hb]; simp [isDigit]
    rw [e1, e2]
  unfold lex_kind
  repeat' split
  all_goals
    refine fin _ _ ?_ ?_
    · constructor
      · intro h; first | omega | (cases h)
      · intro h; first | rfl | (exfalso; omega)
    · constructor
      · intro h; first | omega | (cases h)
      · intro h; first | rfl | (exfalso; omega)
theorem letter_eq (c : Int) : ref6_letter c = some (isLetter c) := by
  have fin : ∀ a : Bool, ((a = true) ↔ ((97 ≤ c ∧ c ≤ 122) ∨ (65 ≤ c ∧ c ≤ 90) ∨ c = 95)) → some a = some (isLetter c) := by
    intro a ha
    have e1 : a = isLetter c := by rw [Bool.eq_iff_iff, ha]; simp [isLetter]
    rw [e1]
  unfold ref6_letter
  repeat' split
  all_goals
    refine fin _ ?_
    first
      | (simp only [decide_eq_true_eq]; omega)
      | exact ⟨fun _ => by omega, fun _ => rfl⟩
theorem digit_eq (c : Int) : ref6_digit c = some (isDigit c) := by
  unfold ref6_digit isDigit
  by_cases h : 48 ≤ c
  · rw [if_pos h]; simp [h]
  · rw [if_neg h]; simp [h]
/-- Where blanks and remarks end: 'true' inside a remark. -/
def dg (b : UInt8) : Bool := isDigit (b.toNat : Int)
def lt (b : UInt8) : Bool := isLetter (b.toNat : Int)
def nm (b : UInt8) : Bool := lt b || dg b
/-- How far a run goes. -/
def runP (p : UInt8 → Bool) (t : List UInt8) (n : Nat) : Nat := n + ((t.drop n).takeWhile p).length
theorem runP_stop {p : UInt8 → Bool} {t : List UInt8} {n : Nat} (h : t.length ≤ n) : runP p t n = n := by
  unfold runP; rw [List.drop_eq_nil_of_le h]; rfl
theorem runP_yes {p : UInt8 → Bool} {t : List UInt8} {n : Nat} (h : n < t.length) (hp : p t[n] = true) : runP p t n = runP p t (n + 1) := by
  unfold runP; rw [List.drop_eq_getElem_cons h, List.takeWhile_cons_of_pos hp]; simp only [List.length_cons]; omega
theorem runP_no {p : UInt8 → Bool} {t : List UInt8} {n : Nat} (h : n < t.length) (hp : p t[n] = false) : runP p t n = n := by
  unfold runP; rw [List.drop_eq_getElem_cons h, List.takeWhile_cons_of_neg (by simp [hp])]; rfl
theorem takeWhile_le (p : UInt8 → Bool) : ∀ l : List UInt8, (l.takeWhile p).length ≤ l.length := fun l => by
  induction l with
  | nil => exact Nat.le_refl _
  | cons a l ih => rw [List.takeWhile_cons]; split <;> simp <;> omega
theorem runP_ge (p : UInt8 → Bool) (t : List UInt8) (n : Nat) (h : n ≤ t.length) : n ≤ runP p t n ∧ runP p t n ≤ t.length := by
  unfold runP
  have := takeWhile_le p (t.drop n)
  rw [List.length_drop] at this
  omega
theorem end_run (t : List UInt8) (f : Bool) (hl : t.length < 1000000000000) : ∀ m n, n + m = t.length → ∀ k, m + 1 ≤ k → lex_end_l0 k t ((n : Nat) : Int) f = some ((runP (fun b => bif f then dg b else nm b) t n : Nat) : Int) := by
  intro m
  induction m with
  | zero =>
    intro n h k hk
    obtain ⟨k, rfl⟩ : ∃ j, k = j + 1 := ⟨k - 1, by omega⟩
    simp only [lex_end_l0]
    rw [if_neg (by omega), runP_stop (by omega)]
  | succ m ih =>
    intro n h k hk
    obtain ⟨k, rfl⟩ : ∃ j, k = j + 1 := ⟨k - 1, by omega⟩
    have hlt : n < t.length := by omega
    have e : w64 ((n : Int) + 1) = ((n + 1 : Nat) : Int) := by rw [w64_in (by omega) (by omega)]; omega
    simp only [lex_end_l0, kind_eq, bind_some_eq]
    rw [if_pos (by omega), if_pos (by omega), if_pos (by omega), Int.toNat_natCast, getD_lt _ hlt, e, ih (n + 1) (by omega) k (by omega)]
    have key : ∀ a b : Bool, lt t[n] = a → dg t[n] = b → (bif !(a || b) then some ((n : Nat) : Int) else bif f then bif !b then some ((n : Nat) : Int) else some ((runP (fun b => bif f then dg b else nm b) t (n + 1) : Nat) : Int) else some ((runP (fun b => bif f then dg b else nm b) t (n + 1) : Nat) : Int)) = some ((runP (fun b => bif f then dg b else nm b) t n : Nat) : Int) := by
      intro a b ha hb
      cases f <;> cases a <;> cases b <;> simp only [Bool.or_self, Bool.not_true, Bool.not_false, Bool.or_true, Bool.true_or, Bool.or_false, Bool.false_or, cond_true, cond_false]
      all_goals
        first
          | (rw [runP_no hlt ?_]; simp [nm, ha, hb]; done)
          | (rw [runP_yes hlt ?_]; simp [nm, ha, hb]; done)
    exact key _ _ rfl rfl
theorem end_eq (t : List UInt8) (n : Nat) (hl : t.length < 1000000000000) (h : n < t.length) : lex_end t ((n : Nat) : Int) = some ((runP (fun b => bif dg t[n] then dg b else nm b) t n : Nat) : Int) := by
  refine lim_eq (t.length - n + 1) fun k hk => ?_
  simp only [lex_end_f, kind_eq, bind_some_eq]
  rw [if_pos (by omega), if_pos (by omega), Int.toNat_natCast, getD_lt _ h]
  exact end_run t _ hl (t.length - n) n (by omega) k (by omega)
theorem disj (b : UInt8) (h : lt b = true) : dg b = false := by
  unfold lt isLetter at h
  unfold dg isDigit
  rw [decide_eq_true_eq] at h
  rw [decide_eq_false_iff_not]
  omega
abbrev wordsL : List (List UInt8) := [arr_1.1, arr_1.2.1, arr_1.2.2.1, arr_1.2.2.2.1, arr_1.2.2.2.2.1, arr_1.2.2.2.2.2.1, arr_1.2.2.2.2.2.2.1, arr_1.2.2.2.2.2.2.2.1, arr_1.2.2.2.2.2.2.2.2.1, arr_1.2.2.2.2.2.2.2.2.2.1, arr_1.2.2.2.2.2.2.2.2.2.2.1, arr_1.2.2.2.2.2.2.2.2.2.2.2.1, arr_1.2.2.2.2.2.2.2.2.2.2.2.2.1, arr_1.2.2.2.2.2.2.2.2.2.2.2.2.2.1, arr_1.2.2.2.2.2.2.2.2.2.2.2.2.2.2.1, arr_1.2.2.2.2.2.2.2.2.2.2.2.2.2.2.2.1, arr_1.2.2.2.2.2.2.2.2.2.2.2.2.2.2.2.2.1, arr_1.2.2.2.2.2.2.2.2.2.2.2.2.2.2.2.2.2.1, arr_1.2.2.2.2.2.2.2.2.2.2.2.2.2.2.2.2.2.2.1, arr_1.2.2.2.2.2.2.2.2.2.2.2.2.2.2.2.2.2.2.2.1, arr_1.2.2.2.2.2.2.2.2.2.2.2.2.2.2.2.2.2.2.2.2.1, arr_1.2.2.2.2.2.2.2.2.2.2.2.2.2.2.2.2.2.2.2.2.2.1, arr_1.2.2.2.2.2.2.2.2.2.2.2.2.2.2.2.2.2.2.2.2.2.2.1, arr_1.2.2.2.2.2.2.2.2.2.2.2.2.2.2.2.2.2.2.2.2.2.2.2.1, arr_1.2.2.2.2.2.2.2.2.2.2.2.2.2.2.2.2.2.2.2.2.2.2.2.2.1, arr_1.2.2.2.2.2.2.2.2.2.2.2.2.2.2.2.2.2.2.2.2.2.2.2.2.2.1, arr_1.2.2.2.2.2.2.2.2.2.2.2.2.2.2.2.2.2.2.2.2.2.2.2.2.2.2.1, arr_1.2.2.2.2.2.2.2.2.2.2.2.2.2.2.2.2.2.2.2.2.2.2.2.2.2.2.2.1, arr_1.2.2.2.2.2.2.2.2.2.2.2.2.2.2.2.2.2.2.2.2.2.2.2.2.2.2.2.2.1, arr_1.2.2.2.2.2.2.2.2.2.2.2.2.2.2.2.2.2.2.2.2.2.2.2.2.2.2.2.2.2.1, arr_1.2.2.2.2.2.2.2.2.2.2.2.2.2.2.2.2.2.2.2.2.2.2.2.2.2.2.2.2.2.2.1, arr_1.2.2.2.2.2.2.2.2.2.2.2.2.2.2.2.2.2.2.2.2.2.2.2.2.2.2.2.2.2.2.2.1, arr_1.2.2.2.2.2.2.2.2.2.2.2.2.2.2.2.2.2.2.2.2.2.2.2.2.2.2.2.2.2.2.2.2.1, arr_1.2.2.2.2.2.2.2.2.2.2.2.2.2.2.2.2.2.2.2.2.2.2.2.2.2.2.2.2.2.2.2.2.2.1, arr_1.2.2.2.2.2.2.2.2.2.2.2.2.2.2.2.2.2.2.2.2.2.2.2.2.2.2.2.2.2.2.2.2.2.2]
def resP (s : List UInt8) : Bool := decide (s ∈ wordsL)
theorem words_len : wordsL.length = 35 := rfl
theorem rres_run (s : List UInt8) : ∀ m n, n + m = 35 → ∀ k, m + 1 ≤ k → ref6_Reserved_l0 k s arr_1 ((n : Nat) : Int) = some (decide (s ∈ wordsL.drop n)) := by
  intro m
  induction m with
  | zero =>
    intro n h k hk
    obtain ⟨k, rfl⟩ : ∃ j, k = j + 1 := ⟨k - 1, by omega⟩
    obtain rfl : n = 35 := by omega
    simp only [ref6_Reserved_l0]
    rw [if_neg (by omega)]
    rfl
  | succ m ih =>
    intro n h k hk
    obtain ⟨k, rfl⟩ : ∃ j, k = j + 1 := ⟨k - 1, by omega⟩
    have hlt : n < wordsL.length := by rw [words_len]; omega
    have e : w64 ((n : Int) + 1) = ((n + 1 : Nat) : Int) := by rw [w64_in (by omega) (by omega)]; omega
    have hlen : (n : Int) < (wordsL.length : Int) := by omega
    simp only [ref6_Reserved_l0]
    rw [if_pos (by omega), if_pos (by omega), if_pos hlen, e, ih (n + 1) (by omega) k (by omega), List.drop_eq_getElem_cons hlt]
    by_cases hx : wordsL.getD (((n : Nat) : Int).toNat) [] = s
    · rw [if_pos hx]
      rw [Int.toNat_natCast, getD_lt _ hlt] at hx
      rw [hx]
      simp
    · rw [if_neg hx]
      rw [Int.toNat_natCast, getD_lt _ hlt] at hx
      congr 1
      rw [decide_eq_decide, List.mem_cons]
      exact ⟨.inr, fun q => q.elim (fun q => absurd q.symm hx) id⟩
theorem rres_eq (s : List UInt8) : ref6_Reserved s = some (resP s) := lim_eq 36 fun k hk => rres_run s 35 0 rfl k hk
theorem res_yes {s w : List UInt8} (hw : w ∈ wordsL) (h : s = w) : resP s = true := by subst h; exact decide_eq_true hw
set_option maxRecDepth 100000 in
set_option maxHeartbeats 4000000 in
theorem lres_eq (s : List UInt8) : lex_Reserved s = some (resP s) := by
  unfold lex_Reserved
  by_cases hr : resP s = true
  · rw [hr]
    have hm : s ∈ wordsL := of_decide_eq_true hr
    simp only [wordsL, arr_1, List.mem_cons, List.not_mem_nil, or_false] at hm
    rcases hm with rfl | rfl | rfl | rfl | rfl | rfl | rfl | rfl | rfl | rfl | rfl | rfl | rfl | rfl | rfl | rfl | rfl | rfl | rfl | rfl | rfl | rfl | rfl | rfl | rfl | rfl | rfl | rfl | rfl | rfl | rfl | rfl | rfl | rfl | rfl <;> decide +kernel
  · have hr' : resP s = false := by simpa using hr
    have hm : s ∉ wordsL := of_decide_eq_false hr'
    rw [hr']
    simp only [wordsL, arr_1, List.mem_cons, List.not_mem_nil, or_false, not_or] at hm
    simp only [hm, if_false]
def nameP (s : List UInt8) : Bool := decide (s ≠ [] ∧ s.length ≤ 24) && !resP s && lt (s.getD 0 0) && s.all nm
theorem all_take (p : UInt8 → Bool) : ∀ l : List UInt8, (l.takeWhile p).length = l.length ↔ l.all p = true := by
  intro l
  induction l with
  | nil => simp
  | cons a l ih =>
    rw [List.takeWhile_cons]
    cases h : p a with
    | true => simp only [if_true, List.length_cons, List.all_cons, h, Bool.true_and, ← ih]; omega
    | false => simp [h]
theorem lname_eq (s : List UInt8) (hl : s.length < 1000000000000) : lex_Name s = some (nameP s) := by
  unfold lex_Name nameP
  by_cases h0 : s = []
  · subst h0; rw [if_pos rfl]; rfl
  · rw [if_neg h0]
    have hlen : 0 < s.length := List.length_pos_iff.2 h0
    by_cases h24 : 24 < s.length
    · rw [if_pos (by omega), decide_eq_false (fun q => by omega)]; simp
    · rw [if_neg (by omega), lres_eq, bind_some_eq, decide_eq_true ⟨h0, by omega⟩]
      cases hr : resP s with
      | true => simp
      | false =>
        rw [cond_false, if_pos (by omega), if_pos (by omega), kind_eq, bind_some_eq]
        have hdg : isDigit ((((s.getD (0 : Int).toNat 0)).toNat : Nat) : Int) = dg s[0] := by
          rw [show (0 : Int).toNat = 0 from rfl, getD_lt _ hlen]; rfl
        rw [hdg, getD_lt _ hlen]
        cases hd : dg s[0] with
        | true =>
          have : lt s[0] = false := by
            cases hL : lt s[0] with
            | false => rfl
            | true => rw [disj _ hL] at hd; cases hd
          rw [this]; simp
        | false =>
          rw [Bool.not_false, cond_true, show (0 : Int) = ((0 : Nat) : Int) from rfl, end_eq s 0 hl hlen, bind_some_eq, hd]
          congr 1
          rw [show (fun b => bif false then dg b else nm b) = nm from rfl]
          have ha := all_take nm s
          cases hall : s.all nm with
          | true =>
            have hL : lt s[0] = true := by
              have := List.all_eq_true.1 hall s[0] (List.getElem_mem hlen)
              simpa [nm, hd] using this
            rw [hL]
            have := ha.2 hall
            unfold runP
            rw [List.drop_zero, decide_eq_true (by omega)]
            rfl
          | false =>
            have : ¬ (s.takeWhile nm).length = s.length := fun q => by rw [ha.1 q] at hall; cases hall
            unfold runP
            rw [List.drop_zero, decide_eq_false (by omega)]
            simp
theorem rname_run (s : List UInt8) (hl : s.length < 1000000000000) : ∀ m n, n + m = s.length → ∀ k, m + 1 ≤ k → ref6_Name_l0 k s ((n : Nat) : Int) = some ((s.drop n).all nm && !resP s) := by
  intro m
  induction m with
  | zero =>
    intro n h k hk
    obtain ⟨k, rfl⟩ : ∃ j, k = j + 1 := ⟨k - 1, by omega⟩
    simp only [ref6_Name_l0]
    rw [if_neg (by omega), rres_eq, bind_some_eq, List.drop_eq_nil_of_le (by omega)]
    simp
  | succ m ih =>
    intro n h k hk
    obtain ⟨k, rfl⟩ : ∃ j, k = j + 1 := ⟨k - 1, by omega⟩
    have hlt : n < s.length := by omega
    have e : w64 ((n : Int) + 1) = ((n + 1 : Nat) : Int) := by rw [w64_in (by omega) (by omega)]; omega
    simp only [ref6_Name_l0, letter_eq, digit_eq, bind_some_eq]
    rw [if_pos (by omega), if_pos (by omega), if_pos (by omega), if_pos (by omega), if_pos (by omega), Int.toNat_natCast, getD_lt _ hlt, e, ih (n + 1) (by omega) k (by omega), List.drop_eq_getElem_cons hlt, List.all_cons]
    have hdg : isDigit ((s[n].toNat : Nat) : Int) = dg s[n] := rfl
    have hlt' : isLetter ((s[n].toNat : Nat) : Int) = lt s[n] := rfl
    rw [hdg, hlt']
    have hnm : nm s[n] = (lt s[n] || dg s[n]) := rfl
    rw [hnm]
    cases lt s[n] <;> cases dg s[n] <;> simp
theorem rname_eq (s : List UInt8) (hl : s.length < 1000000000000) : ref6_Name s = some (nameP s) := by
  refine lim_eq (s.length + 1) fun k hk => ?_
  unfold ref6_Name_f nameP
  by_cases h0 : s = []
  · subst h0; rfl
  · have hlen : 0 < s.length := List.length_pos_iff.2 h0
    rw [if_neg (by omega)]
    by_cases h24 : 24 < s.length
    · rw [if_pos (by omega), decide_eq_false (fun q => by omega)]; simp
    · rw [if_neg (by omega), if_pos (by omega), if_pos (by omega), decide_eq_true ⟨h0, by omega⟩, letter_eq, bind_some_eq, show (0 : Int).toNat = 0 from rfl, getD_lt _ hlen]
      have hlt' : isLetter ((s[0].toNat : Nat) : Int) = lt s[0] := rfl
      rw [hlt']
      have := rname_run s hl s.length 0 (by omega) k hk
      rw [show ((0 : Nat) : Int) = 0 from rfl, List.drop_zero] at this
      rw [this]
      cases lt s[0] <;> cases s.all nm <;> cases resP s <;> rfl
/-! Numerals. -/
theorem digit_cut : ∀ d, d < 10 → cut s_v_0123456789 ((d : Nat) : Int) ((d + 1 : Nat) : Int) = [UInt8.ofNat (48 + d)] := by decide +kernel
theorem Dec_run : ∀ j (n : Int), -(10 ^ j : Nat) < n → n < (10 ^ j : Nat) → -9223372036854775808 ≤ n → n ≤ 9223372036854775807 → 1 ≤ j → j ≤ 30 → ∀ k, j ≤ k → ref7_Dec_f k n = some (Lib.itoa n) ∧ (Lib.itoa n).length ≤ j + 1 := by
  intro j
  induction j with
  | zero => intro n _ _ _ _ h; omega
  | succ j ih =>
    intro n h1 h2 h3 h4 _ hj k hk
    obtain ⟨k, rfl⟩ : ∃ j, k = j + 1 := ⟨k - 1, by omega⟩
    have c10 : ∀ d : Nat, d < 10 → w64 (((d : Nat) : Int) + 1) = ((d + 1 : Nat) : Int) := fun d hd => by rw [w64_in (by omega) (by omega)]; omega
    have hlen10 : s_v_0123456789.length = 10 := rfl
    have hpow : 10 ^ (j + 1) = 10 ^ j * 10 := Nat.pow_succ ..
    simp only [ref7_Dec_f, ref7_Dec_b]
    by_cases hneg : n < 0
    · obtain ⟨u, rfl⟩ : ∃ u : Nat, n = -(u : Int) := ⟨n.natAbs, by omega⟩
      have hu1 : 1 ≤ u := by omega
      rw [Lib.itoa_neg u hu1]
      by_cases hb : u < 10
      · rw [if_neg (by omega), if_pos hneg]
        have e1 : w64 (0 - (-(u : Int))) = (u : Int) := by rw [w64_in (by omega) (by omega)]; omega
        rw [e1, c10 u hb, if_pos (by omega), if_pos (by rw [hlen10]; omega), if_pos (by omega), if_pos (by omega), digit_cut u hb, if_pos (by simp), dec_small hb]
        exact ⟨rfl, by simp⟩
      · have e1 : Int.tdiv (-(u : Int)) 10 = -((u / 10 : Nat) : Int) := by rw [Int.neg_tdiv, Int.tdiv_eq_ediv_of_nonneg (by omega)]; omega
        have e2 : Int.tmod (-(u : Int)) 10 = -((u % 10 : Nat) : Int) := by rw [Int.neg_tmod, Int.tmod_eq_emod_of_nonneg (by omega)]; omega
        have e3 : w64 (-((u / 10 : Nat) : Int)) = -((u / 10 : Nat) : Int) := w64_in (by omega) (by omega)
        have e4 : w64 (0 - (-((u % 10 : Nat) : Int))) = ((u % 10 : Nat) : Int) := by rw [w64_in (by omega) (by omega)]; omega
        have hj1 : 1 ≤ j := by
          rcases Nat.eq_zero_or_pos j with rfl | q
          · simp at h1 h2; omega
          · exact q
        obtain ⟨i1, i2⟩ := ih (-((u / 10 : Nat) : Int)) (by omega) (by omega) (by omega) (by omega) hj1 (by omega) k (by omega)
        rw [Lib.itoa_neg (u / 10) (by omega)] at i1 i2
        rw [if_pos (by omega), if_pos (by decide), if_pos (by decide), e1, e3, i1, bind_some_eq, e2, e4, c10 (u % 10) (by omega), if_pos (by omega), if_pos (by rw [hlen10]; omega), if_pos (by omega), if_pos (by omega), digit_cut (u % 10) (by omega)]
        rw [if_pos (by simp only [List.length_singleton]; omega), dec_big hb]
        refine ⟨rfl, ?_⟩
        simp only [List.length_cons, List.length_append, List.length_nil] at i2 ⊢
        omega
    · obtain ⟨u, rfl⟩ : ∃ u : Nat, n = (u : Int) := ⟨n.toNat, by omega⟩
      rw [Lib.itoa_nonneg u]
      rw [if_neg (by omega), if_neg hneg]
      by_cases hb : u < 10
      · rw [if_pos (by omega), c10 u hb, if_pos (by omega), if_pos (by rw [hlen10]; omega), if_pos (by omega), if_pos (by omega), digit_cut u hb, dec_small hb]
        exact ⟨rfl, by simp⟩
      · have e1 : Int.tdiv ((u : Nat) : Int) 10 = ((u / 10 : Nat) : Int) := by rw [Int.tdiv_eq_ediv_of_nonneg (by omega)]; omega
        have e2 : Int.tmod ((u : Nat) : Int) 10 = ((u % 10 : Nat) : Int) := by rw [Int.tmod_eq_emod_of_nonneg (by omega)]; omega
        have e3 : w64 ((u / 10 : Nat) : Int) = ((u / 10 : Nat) : Int) := w64_in (by omega) (by omega)
        have hj1 : 1 ≤ j := by
          rcases Nat.eq_zero_or_pos j with rfl | q
          · simp at h1 h2; omega
          · exact q
        obtain ⟨i1, i2⟩ := ih ((u / 10 : Nat) : Int) (by omega) (by omega) (by omega) (by omega) hj1 (by omega) k (by omega)
        rw [Lib.itoa_nonneg (u / 10)] at i1 i2
        rw [if_neg (by omega), if_pos (by decide), e1, e3, i1, bind_some_eq, e2, if_pos (by decide), if_pos (by decide), c10 (u % 10) (by omega), if_pos (by omega), if_pos (by rw [hlen10]; omega), if_pos (by omega), if_pos (by omega), digit_cut (u % 10) (by omega)]
        rw [if_pos (by simp only [List.length_singleton]; omega), dec_big hb]
        refine ⟨rfl, ?_⟩
        simp only [List.length_append, List.length_cons, List.length_nil] at i2 ⊢
        omega
theorem Dec_eq (n : Int) (h0 : -9223372036854775808 ≤ n) (h1 : n ≤ 9223372036854775807) : ref7_Dec n = some (Lib.itoa n) :=
  lim_eq 19 fun k hk => (Dec_run 19 n (by omega) (by omega) h0 h1 (by decide) (by decide) k hk).1
end Go.Sy.Sc
/-! script: words, instances, numerals read. -/
namespace Go.Sy.Sc
open Go.Sy
theorem digits_run : ∀ j (n : Int), -(10 ^ j : Nat) < n → n < (10 ^ j : Nat) → -9223372036854775808 ≤ n → n ≤ 9223372036854775807 → 1 ≤ j → j ≤ 30 → ∀ k, j ≤ k → law34_digits_f k n = some (Lib.itoa n) ∧ (Lib.itoa n).length ≤ j + 1 := by
  intro j
  induction j with
  | zero => intro n _ _ _ _ h; omega
  | succ j ih =>
    intro n h1 h2 h3 h4 _ hj k hk
    obtain ⟨k, rfl⟩ : ∃ j, k = j + 1 := ⟨k - 1, by omega⟩
    have c10 : ∀ d : Nat, d < 10 → w64 (((d : Nat) : Int) + 1) = ((d + 1 : Nat) : Int) := fun d hd => by rw [w64_in (by omega) (by omega)]; omega
    have hlen10 : s_v_0123456789.length = 10 := rfl
    have hpow : 10 ^ (j + 1) = 10 ^ j * 10 := Nat.pow_succ ..
    simp only [law34_digits_f, law34_digits_b]
    by_cases hneg : n < 0
    · obtain ⟨u, rfl⟩ : ∃ u : Nat, n = -(u : Int) := ⟨n.natAbs, by omega⟩
      have hu1 : 1 ≤ u := by omega
      rw [Lib.itoa_neg u hu1]
      by_cases hb : u < 10
      · rw [if_neg (by omega), if_pos hneg]
        have e1 : w64 (0 - (-(u : Int))) = (u : Int) := by rw [w64_in (by omega) (by omega)]; omega
        rw [e1, c10 u hb, if_pos (by omega), if_pos (by rw [hlen10]; omega), if_pos (by omega), if_pos (by omega), digit_cut u hb, if_pos (by simp), dec_small hb]
        exact ⟨rfl, by simp⟩
      · have e1 : Int.tdiv (-(u : Int)) 10 = -((u / 10 : Nat) : Int) := by rw [Int.neg_tdiv, Int.tdiv_eq_ediv_of_nonneg (by omega)]; omega
        have e2 : Int.tmod (-(u : Int)) 10 = -((u % 10 : Nat) : Int) := by rw [Int.neg_tmod, Int.tmod_eq_emod_of_nonneg (by omega)]; omega
        have e3 : w64 (-((u / 10 : Nat) : Int)) = -((u / 10 : Nat) : Int) := w64_in (by omega) (by omega)
        have e4 : w64 (0 - (-((u % 10 : Nat) : Int))) = ((u % 10 : Nat) : Int) := by rw [w64_in (by omega) (by omega)]; omega
        have hj1 : 1 ≤ j := by
          rcases Nat.eq_zero_or_pos j with rfl | q
          · simp at h1 h2; omega
          · exact q
        obtain ⟨i1, i2⟩ := ih (-((u / 10 : Nat) : Int)) (by omega) (by omega) (by omega) (by omega) hj1 (by omega) k (by omega)
        rw [Lib.itoa_neg (u / 10) (by omega)] at i1 i2
        rw [if_pos (by omega), if_pos (by decide), e1, e3, i1, bind_some_eq, if_pos (by decide), if_pos (by decide), e2, e4, c10 (u % 10) (by omega), if_pos (by omega), if_pos (by rw [hlen10]; omega), if_pos (by omega), if_pos (by omega), digit_cut (u % 10) (by omega)]
        rw [if_pos (by simp only [List.length_singleton]; omega), dec_big hb]
        refine ⟨rfl, ?_⟩
        simp only [List.length_cons, List.length_append, List.length_nil] at i2 ⊢
        omega
    · obtain ⟨u, rfl⟩ : ∃ u : Nat, n = (u : Int) := ⟨n.toNat, by omega⟩
      rw [Lib.itoa_nonneg u]
      rw [if_neg (by omega), if_neg hneg]
      by_cases hb : u < 10
      · rw [if_pos (by omega), c10 u hb, if_pos (by omega), if_pos (by rw [hlen10]; omega), if_pos (by omega), if_pos (by omega), digit_cut u hb, dec_small hb]
        exact ⟨rfl, by simp⟩
      · have e1 : Int.tdiv ((u : Nat) : Int) 10 = ((u / 10 : Nat) : Int) := by rw [Int.tdiv_eq_ediv_of_nonneg (by omega)]; omega
        have e2 : Int.tmod ((u : Nat) : Int) 10 = ((u % 10 : Nat) : Int) := by rw [Int.tmod_eq_emod_of_nonneg (by omega)]; omega
        have e3 : w64 ((u / 10 : Nat) : Int) = ((u / 10 : Nat) : Int) := w64_in (by omega) (by omega)
        have hj1 : 1 ≤ j := by
          rcases Nat.eq_zero_or_pos j with rfl | q
          · simp at h1 h2; omega
          · exact q
        obtain ⟨i1, i2⟩ := ih ((u / 10 : Nat) : Int) (by omega) (by omega) (by omega) (by omega) hj1 (by omega) k (by omega)
        rw [Lib.itoa_nonneg (u / 10)] at i1 i2
        rw [if_neg (by omega), if_pos (by decide), e1, e3, i1, bind_some_eq, if_pos (by decide), if_pos (by decide), e2, c10 (u % 10) (by omega), if_pos (by omega), if_pos (by rw [hlen10]; omega), if_pos (by omega), if_pos (by omega), digit_cut (u % 10) (by omega)]
        rw [if_pos (by simp only [List.length_singleton]; omega), dec_big hb]
        refine ⟨rfl, ?_⟩
        simp only [List.length_append, List.length_cons, List.length_nil] at i2 ⊢
        omega
theorem digits_eq (n : Int) (h0 : -9223372036854775808 ≤ n) (h1 : n ≤ 9223372036854775807) : law34_digits n = some (Lib.itoa n) :=
  lim_eq 19 fun k hk => (digits_run 19 n (by omega) (by omega) h0 h1 (by decide) (by decide) k hk).1
/-! Words. -/
theorem wordsP_skip : ∀ (l m : List UInt8), 32 ∉ l → wordsP (l ++ m) = match wordsP m with
    | w :: r => (l ++ w) :: r
    | [] => [l] := by
  intro l
  induction l with
  | nil => intro m _; cases h : wordsP m with
    | nil => exact absurd h (wordsP_ne m)
    | cons w r => exact h
  | cons b l ih =>
    intro m h
    have hb : b ≠ 32 := fun e => h (by rw [e]; exact List.mem_cons_self)
    have hl : 32 ∉ l := fun q => h (List.mem_cons_of_mem _ q)
    rw [List.cons_append]
    simp only [wordsP]
    rw [if_neg hb, ih m hl]
    cases h : wordsP m with
    | nil => exact absurd h (wordsP_ne m)
    | cons w r => rfl
theorem cutP (s : List UInt8) (a b : Nat) : cut s ((a : Nat) : Int) ((b : Nat) : Int) = (s.take b).drop a := by
  unfold cut
  rfl
theorem Words_run (s : List UInt8) (hl : s.length < 1000000) : ∀ m n f out, n + m = s.length + 1 → f ≤ n → out.length ≤ n → 32 ∉ ((s.take n).drop f) → ∀ k, m + 1 ≤ k → n ≤ s.length →
    ref34_Words_l0 k s out ((f : Nat) : Int) ((n : Nat) : Int) = some (out ++ wordsP (s.drop f)) := by
  intro m
  induction m with
  | zero => intro n f out h; omega
  | succ m ih =>
    intro n f out h hf ho hn k hk hle
    obtain ⟨k, rfl⟩ : ∃ j, k = j + 1 := ⟨k - 1, by omega⟩
    have e : w64 ((n : Int) + 1) = ((n + 1 : Nat) : Int) := by rw [w64_in (by omega) (by omega)]; omega
    simp only [ref34_Words_l0]
    rw [if_pos (by omega)]
    by_cases hend : n = s.length
    · subst hend
      rw [if_pos rfl, if_pos (by omega), if_pos (by omega), if_pos (by omega), if_pos (by omega), if_pos (by simp; omega), e]
      obtain ⟨k, rfl⟩ : ∃ j, k = j + 1 := ⟨k - 1, by omega⟩
      simp only [ref34_Words_l0]
      rw [if_neg (by omega), cutP, List.take_length]
      rw [List.take_length] at hn
      have := wordsP_skip (s.drop f) [] hn
      rw [List.append_nil] at this
      rw [this]
      simp [wordsP]
    · have hlt : n < s.length := by omega
      rw [if_neg (by omega), if_pos (by omega), if_pos (by omega), Int.toNat_natCast, getD_lt _ hlt]
      have htake : s.take (n + 1) = s.take n ++ [s[n]] := by rw [List.take_add_one, List.getElem?_eq_getElem hlt]; rfl
      have hdrop : s.drop f = (s.take n).drop f ++ s.drop n := by
        conv => lhs; rw [← List.take_append_drop n s]
        rw [List.drop_append_of_le_length (by rw [List.length_take]; omega)]
      have hdn : s.drop n = s[n] :: s.drop (n + 1) := List.drop_eq_getElem_cons hlt
      by_cases hb : s[n] = 32
      · have hb' : ((s[n].toNat : Nat) : Int) = 32 := by rw [hb]; rfl
        rw [if_pos hb', if_pos (by omega), if_pos (by omega), if_pos (by omega), if_pos (by omega), if_pos (by simp; omega), e]
        rw [ih (n + 1) (n + 1) _ (by omega) (Nat.le_refl _) (by simp; omega) (by rw [List.drop_eq_nil_of_le (by rw [List.length_take]; omega)]; simp) k (by omega) (by omega)]
        rw [hdrop, wordsP_skip _ _ hn, hdn, hb, cutP]
        simp [wordsP]
      · have hb' : ¬ ((s[n].toNat : Nat) : Int) = 32 := fun q => hb (by
          apply UInt8.toNat_inj.1
          show s[n].toNat = 32
          omega)
        rw [if_neg hb', e]
        refine ih (n + 1) f out (by omega) (by omega) (by omega) ?_ k (by omega) (by omega)
        rw [htake, List.drop_append_of_le_length (by rw [List.length_take]; omega), List.mem_append, List.mem_singleton]
        exact fun q => q.elim hn fun q => hb q.symm
theorem Words_eq (s : List UInt8) (hl : s.length < 1000000) : ref34_Words s = some (wordsP s) := lim_eq (s.length + 3) fun k hk => by
  have := Words_run s hl (s.length + 1) 0 0 [] (by omega) (by omega) (by simp) (by simp) k (by omega) (by omega)
  exact (by simpa using this : ref34_Words_l0 k s [] 0 0 = some (wordsP s))
/-! Instances. -/
def idxP (l : List (List UInt8)) (v : List UInt8) : Nat → Int
  | n => match l with
    | [] => -1
    | x :: r => if x = v then (n : Int) else idxP r v (n + 1)
theorem Inst_run (s : List UInt8) (a : Int) (b c d : _) (l ch : List (List UInt8)) (hl : l.length < 1000000) : ∀ m n, n + m = l.length → ∀ k, m + 1 ≤ k → ref34_Inst_l0 k s a b c d l ch ((n : Nat) : Int) = some (idxP (l.drop n) s n) := by
  intro m
  induction m with
  | zero =>
    intro n h k hk
    obtain ⟨k, rfl⟩ : ∃ j, k = j + 1 := ⟨k - 1, by omega⟩
    simp only [ref34_Inst_l0]
    rw [if_neg (by omega), List.drop_eq_nil_of_le (by omega)]
    rfl
  | succ m ih =>
    intro n h k hk
    obtain ⟨k, rfl⟩ : ∃ j, k = j + 1 := ⟨k - 1, by omega⟩
    have hlt : n < l.length := by omega
    have e : w64 ((n : Int) + 1) = ((n + 1 : Nat) : Int) := by rw [w64_in (by omega) (by omega)]; omega
    simp only [ref34_Inst_l0]
    rw [if_pos (by omega), if_pos (by omega), if_pos (by omega), e, ih (n + 1) (by omega) k (by omega), Int.toNat_natCast, getD_lt _ hlt, List.drop_eq_getElem_cons hlt]
    simp only [idxP]
    by_cases hx : l[n] = s
    · rw [if_pos hx, if_pos hx]
    · rw [if_neg hx, if_neg hx]
theorem Inst_eq (n : api_Net) (s : List UInt8) (hl : n.Insts.length < 1000000) : ref34_Inst n s = some (idxP n.Insts s 0) := lim_eq (n.Insts.length + 1) fun k hk => by
  have := Inst_run s n.Age n.Tables n.Parts n.Lines n.Insts n.Chans hl n.Insts.length 0 (by omega) k (by omega)
  exact (by simpa using this : ref34_Inst_l0 k s n.Age n.Tables n.Parts n.Lines n.Insts n.Chans 0 = some (idxP n.Insts s 0))
theorem Index_run (l : List (List UInt8)) (s : List UInt8) (hl : l.length < 1000000) : ∀ m n, n + m = l.length → ∀ k, m + 1 ≤ k → slices_Index_string_string_l0 k l s ((l.length : Nat) : Int) ((n : Nat) : Int) = some (idxP (l.drop n) s n) := by
  intro m
  induction m with
  | zero =>
    intro n h k hk
    obtain ⟨k, rfl⟩ : ∃ j, k = j + 1 := ⟨k - 1, by omega⟩
    simp only [slices_Index_string_string_l0]
    rw [if_neg (by omega), List.drop_eq_nil_of_le (by omega)]
    rfl
  | succ m ih =>
    intro n h k hk
    obtain ⟨k, rfl⟩ : ∃ j, k = j + 1 := ⟨k - 1, by omega⟩
    have hlt : n < l.length := by omega
    have e : w64 ((n : Int) + 1) = ((n + 1 : Nat) : Int) := by rw [w64_in (by omega) (by omega)]; omega
    simp only [slices_Index_string_string_l0]
    rw [if_pos (by omega), if_pos (by omega), if_pos (by omega), e, ih (n + 1) (by omega) k (by omega), Int.toNat_natCast, getD_lt _ hlt, List.drop_eq_getElem_cons hlt]
    simp only [idxP]
    by_cases hx : l[n] = s
    · rw [if_pos hx.symm, if_pos hx]
    · rw [if_neg (Ne.symm hx), if_neg hx]
theorem Index_eq (l : List (List UInt8)) (s : List UInt8) (hl : l.length < 1000000) : slices_Index_string_string l s = some (idxP l s 0) := lim_eq (l.length + 1) fun k hk => by
  have := Index_run l s hl l.length 0 (by omega) k (by omega)
  exact (by simpa using this : slices_Index_string_string_l0 k l s ((l.length : Nat) : Int) 0 = some (idxP l s 0))
end Go.Sy.Sc
/-! script: a numeral read. -/
namespace Go.Sy.Sc
open Go.Sy
def in64 (v : Int) : Prop := -9223372036854775808 ≤ v ∧ v ≤ 9223372036854775807
theorem w64_rng (n : Int) : in64 (w64 n) := by
  unfold in64 w64
  rw [IntKind.wrap_i64]
  omega
/-- The number that a numeral is. -/
def numP (s : List UInt8) : Option Int := match Lib.parseIntB 64 s with
  | .ok v => if Lib.itoa v = s then some v else none
  | _ => none
theorem numP_iff (s : List UInt8) (v : Int) : numP s = some v ↔ in64 v ∧ Lib.itoa v = s := by
  unfold numP
  constructor
  · intro h
    cases hp : Lib.parseIntB 64 s with
    | ok u =>
      rw [hp] at h
      dsimp only at h
      split at h
      · rename_i hi
        cases h
        exact ⟨parse_range s v hp, hi⟩
      · cases h
    | range => rw [hp] at h; cases h
    | _ => rw [hp] at h; cases h
  · rintro ⟨h, rfl⟩
    rw [parse_itoa v h.1 h.2]
    dsimp only
    rw [if_pos rfl]
theorem end_res (s : List UInt8) (m : Int) (h : in64 m) : ((ref7_Dec m).bind fun r1 => some (m, decide (r1 = s))) = some (m, decide (Lib.itoa m = s)) := by
  rw [Dec_eq m h.1 h.2, bind_some_eq]
/-- Whatever it reads: it ends, and what it is content with is the numeral of what it gives. -/
theorem number_any (s : List UInt8) (neg : Bool) (hl : s.length < 1000000) : ∀ m n acc, n + m = s.length → in64 acc → ∃ r b, (∀ k, m + 1 ≤ k → ref34_number_l0 k s acc neg ((n : Nat) : Int) = some (r, b)) ∧ (b = true → in64 r ∧ Lib.itoa r = s) := by
  intro m
  induction m with
  | zero =>
    intro n acc h ha
    refine ⟨acc, decide (Lib.itoa acc = s), fun k hk => ?_, fun hb => ⟨ha, of_decide_eq_true hb⟩⟩
    obtain ⟨k, rfl⟩ : ∃ j, k = j + 1 := ⟨k - 1, by omega⟩
    simp only [ref34_number_l0]
    rw [if_neg (by omega)]
    exact end_res s acc ha
  | succ m ih =>
    intro n acc h ha
    have hlt : n < s.length := by omega
    have e : w64 ((n : Int) + 1) = ((n + 1 : Nat) : Int) := by rw [w64_in (by omega) (by omega)]; omega
    have no : ∀ F : Nat → Option (Int × Bool), (∀ k, 1 ≤ k → F k = some (0, false)) → ∃ r b, (∀ k, m + 1 + 1 ≤ k → F k = some (r, b)) ∧ (b = true → in64 r ∧ Lib.itoa r = s) := fun F hF => ⟨0, false, fun k hk => hF k (by omega), fun h => nomatch h⟩
    have go : ∀ (F : Nat → Option (Int × Bool)) (acc' : Int), in64 acc' → (∀ k, F (k + 1) = ref34_number_l0 k s acc' neg ((n + 1 : Nat) : Int)) → ∃ r b, (∀ k, m + 1 + 1 ≤ k → F k = some (r, b)) ∧ (b = true → in64 r ∧ Lib.itoa r = s) := fun F acc' hacc hF => by
      obtain ⟨r, b, h1, h2⟩ := ih (n + 1) acc' (by omega) hacc
      refine ⟨r, b, fun k hk => ?_, h2⟩
      obtain ⟨k, rfl⟩ : ∃ j, k = j + 1 := ⟨k - 1, by omega⟩
      rw [hF k]
      exact h1 k (by omega)
    have step : ∀ k, ref34_number_l0 (k + 1) s acc neg ((n : Nat) : Int) = if ((s.getD n 0).toNat : Int) < 48 then some (0, false) else if 57 < ((s.getD n 0).toNat : Int) then some (0, false) else
        bif neg then (if (w64 ((w64 (9223372036854775807 - (max (w64 (0 - (w64 (wu8 (((s.getD n 0).toNat : Int) - 48))))) 0))).tdiv 10)) < acc then some (0, false) else
          if acc < (w64 ((w64 ((-9223372036854775808) - (min (w64 (0 - (w64 (wu8 (((s.getD n 0).toNat : Int) - 48))))) 0))).tdiv 10)) then some (0, false) else
          ref34_number_l0 k s (w64 ((w64 (10 * acc)) + (w64 (0 - (w64 (wu8 (((s.getD n 0).toNat : Int) - 48))))))) neg ((n + 1 : Nat) : Int))
        else (if (w64 ((w64 (9223372036854775807 - (max (w64 (wu8 (((s.getD n 0).toNat : Int) - 48))) 0))).tdiv 10)) < acc then some (0, false) else
          if acc < (w64 ((w64 ((-9223372036854775808) - (min (w64 (wu8 (((s.getD n 0).toNat : Int) - 48))) 0))).tdiv 10)) then some (0, false) else
          ref34_number_l0 k s (w64 ((w64 (10 * acc)) + (w64 (wu8 (((s.getD n 0).toNat : Int) - 48))))) neg ((n + 1 : Nat) : Int)) := by
      intro k
      simp only [ref34_number_l0]
      have p1 : ((n : Nat) : Int) < (s.length : Int) := by omega
      have p0 : (0 : Int) ≤ ((n : Nat) : Int) := by omega
      have h10 : ¬ (10 : Int) = 0 := by decide
      simp only [if_pos p1, if_pos p0, if_pos h10, Int.toNat_natCast, e]
    by_cases c1 : ((s.getD n 0).toNat : Int) < 48
    · refine no _ fun k hk => ?_
      obtain ⟨k, rfl⟩ : ∃ j, k = j + 1 := ⟨k - 1, by omega⟩
      rw [step, if_pos c1]
    by_cases c2 : 57 < ((s.getD n 0).toNat : Int)
    · refine no _ fun k hk => ?_
      obtain ⟨k, rfl⟩ : ∃ j, k = j + 1 := ⟨k - 1, by omega⟩
      rw [step, if_neg c1, if_pos c2]
    cases neg with
    | true =>
      by_cases c3 : (w64 ((w64 (9223372036854775807 - (max (w64 (0 - (w64 (wu8 (((s.getD n 0).toNat : Int) - 48))))) 0))).tdiv 10)) < acc
      · refine no _ fun k hk => ?_
        obtain ⟨k, rfl⟩ : ∃ j, k = j + 1 := ⟨k - 1, by omega⟩
        rw [step, if_neg c1, if_neg c2, cond_true, if_pos c3]
      by_cases c4 : acc < (w64 ((w64 ((-9223372036854775808) - (min (w64 (0 - (w64 (wu8 (((s.getD n 0).toNat : Int) - 48))))) 0))).tdiv 10))
      · refine no _ fun k hk => ?_
        obtain ⟨k, rfl⟩ : ∃ j, k = j + 1 := ⟨k - 1, by omega⟩
        rw [step, if_neg c1, if_neg c2, cond_true, if_neg c3, if_pos c4]
      refine go _ (w64 ((w64 (10 * acc)) + (w64 (0 - (w64 (wu8 (((s.getD n 0).toNat : Int) - 48))))))) (w64_rng _) fun k => ?_
      rw [step, if_neg c1, if_neg c2, cond_true, if_neg c3, if_neg c4]
    | false =>
      by_cases c3 : (w64 ((w64 (9223372036854775807 - (max (w64 (wu8 (((s.getD n 0).toNat : Int) - 48))) 0))).tdiv 10)) < acc
      · refine no _ fun k hk => ?_
        obtain ⟨k, rfl⟩ : ∃ j, k = j + 1 := ⟨k - 1, by omega⟩
        rw [step, if_neg c1, if_neg c2, cond_false, if_pos c3]
      by_cases c4 : acc < (w64 ((w64 ((-9223372036854775808) - (min (w64 (wu8 (((s.getD n 0).toNat : Int) - 48))) 0))).tdiv 10))
      · refine no _ fun k hk => ?_
        obtain ⟨k, rfl⟩ : ∃ j, k = j + 1 := ⟨k - 1, by omega⟩
        rw [step, if_neg c1, if_neg c2, cond_false, if_neg c3, if_pos c4]
      refine go _ (w64 ((w64 (10 * acc)) + (w64 (wu8 (((s.getD n 0).toNat : Int) - 48))))) (w64_rng _) fun k => ?_
      rw [step, if_neg c1, if_neg c2, cond_false, if_neg c3, if_neg c4]
/-- Digits that are a number: it is read. -/
theorem number_pos (s : List UInt8) (hl : s.length < 1000000) : ∀ m n acc u, n + m = s.length → acc ≤ 9223372036854775807 → valU 9223372036854775807 acc (s.drop n) = some u → ∀ k, m + 1 ≤ k → ref34_number_l0 k s ((acc : Nat) : Int) false ((n : Nat) : Int) = some ((u : Int), decide (Lib.itoa (u : Int) = s)) := by
  intro m
  induction m with
  | zero =>
    intro n acc u h ha hv k hk
    obtain ⟨k, rfl⟩ : ∃ j, k = j + 1 := ⟨k - 1, by omega⟩
    rw [List.drop_eq_nil_of_le (by omega)] at hv
    cases hv
    simp only [ref34_number_l0]
    rw [if_neg (by omega)]
    exact end_res s _ ⟨by omega, by omega⟩
  | succ m ih =>
    intro n acc u h ha hv k hk
    obtain ⟨k, rfl⟩ : ∃ j, k = j + 1 := ⟨k - 1, by omega⟩
    have hlt : n < s.length := by omega
    have e : w64 ((n : Int) + 1) = ((n + 1 : Nat) : Int) := by rw [w64_in (by omega) (by omega)]; omega
    rw [List.drop_eq_getElem_cons hlt] at hv
    simp only [valU] at hv
    split at hv
    · rename_i hd
      split at hv
      · cases hv
      · rename_i hb
        have hb' : acc ≤ (9223372036854775807 - (s[n].toNat - 48)) / 10 := by omega
        have hacc : 10 * acc + (s[n].toNat - 48) ≤ 9223372036854775807 := by omega
        simp only [ref34_number_l0]
        rw [if_pos (by omega), if_pos (by omega), if_pos (by omega), Int.toNat_natCast, getD_lt _ hlt, if_neg (by omega), if_pos (by omega), if_pos (by omega), if_neg (by omega), if_pos (by omega), if_pos (by omega), cond_false]
        have d1 : w64 (wu8 (((s[n].toNat : Nat) : Int) - 48)) = ((s[n].toNat - 48 : Nat) : Int) := by
          rw [wu8_in (by omega) (by omega), w64_in (by omega) (by omega)]; omega
        rw [d1]
        have m1 : max (((s[n].toNat - 48 : Nat) : Int)) 0 = ((s[n].toNat - 48 : Nat) : Int) := by omega
        have m2 : min (((s[n].toNat - 48 : Nat) : Int)) 0 = 0 := by omega
        rw [m1, m2]
        have t1 : w64 ((w64 (9223372036854775807 - ((s[n].toNat - 48 : Nat) : Int))).tdiv 10) = (((9223372036854775807 - (s[n].toNat - 48)) / 10 : Nat) : Int) := by
          rw [w64_in (n := 9223372036854775807 - ((s[n].toNat - 48 : Nat) : Int)) (by omega) (by omega), Int.tdiv_eq_ediv_of_nonneg (by omega), w64_in (by omega) (by omega)]
          omega
        have t2 : w64 ((w64 ((-9223372036854775808) - 0)).tdiv 10) = -922337203685477580 := by decide
        rw [t1, t2, if_pos (by decide), if_neg (by omega), if_pos (by decide), if_neg (by omega), e]
        have t3 : w64 (w64 (10 * ((acc : Nat) : Int)) + ((s[n].toNat - 48 : Nat) : Int)) = ((10 * acc + (s[n].toNat - 48) : Nat) : Int) := by
          rw [w64_in (n := 10 * ((acc : Nat) : Int)) (by omega) (by omega), w64_in (by omega) (by omega)]; omega
        rw [t3]
        exact ih (n + 1) _ u (by omega) hacc hv k (by omega)
    · cases hv
theorem number_neg (s : List UInt8) (hl : s.length < 1000000) : ∀ m n acc u, n + m = s.length → acc ≤ 9223372036854775808 → valU 9223372036854775808 acc (s.drop n) = some u → ∀ k, m + 1 ≤ k → ref34_number_l0 k s (-((acc : Nat) : Int)) true ((n : Nat) : Int) = some (-(u : Int), decide (Lib.itoa (-(u : Int)) = s)) := by
  intro m
  induction m with
  | zero =>
    intro n acc u h ha hv k hk
    obtain ⟨k, rfl⟩ : ∃ j, k = j + 1 := ⟨k - 1, by omega⟩
    rw [List.drop_eq_nil_of_le (by omega)] at hv
    cases hv
    simp only [ref34_number_l0]
    rw [if_neg (by omega)]
    exact end_res s _ ⟨by omega, by omega⟩
  | succ m ih =>
    intro n acc u h ha hv k hk
    obtain ⟨k, rfl⟩ : ∃ j, k = j + 1 := ⟨k - 1, by omega⟩
    have hlt : n < s.length := by omega
    have e : w64 ((n : Int) + 1) = ((n + 1 : Nat) : Int) := by rw [w64_in (by omega) (by omega)]; omega
    rw [List.drop_eq_getElem_cons hlt] at hv
    simp only [valU] at hv
    split at hv
    · rename_i hd
      split at hv
      · cases hv
      · rename_i hb
        have hb' : acc ≤ (9223372036854775808 - (s[n].toNat - 48)) / 10 := by omega
        have hacc : 10 * acc + (s[n].toNat - 48) ≤ 9223372036854775808 := by omega
        simp only [ref34_number_l0]
        rw [if_pos (by omega), if_pos (by omega), if_pos (by omega), Int.toNat_natCast, getD_lt _ hlt, if_neg (by omega), if_pos (by omega), if_pos (by omega), if_neg (by omega), if_pos (by omega), if_pos (by omega), cond_true]
        have d1 : w64 (0 - w64 (wu8 (((s[n].toNat : Nat) : Int) - 48))) = -((s[n].toNat - 48 : Nat) : Int) := by
          rw [wu8_in (by omega) (by omega), w64_in (n := ((s[n].toNat : Nat) : Int) - 48) (by omega) (by omega), w64_in (by omega) (by omega)]; omega
        rw [d1]
        have m1 : max (-((s[n].toNat - 48 : Nat) : Int)) 0 = 0 := by omega
        have m2 : min (-((s[n].toNat - 48 : Nat) : Int)) 0 = -((s[n].toNat - 48 : Nat) : Int) := by omega
        rw [m1, m2]
        have t1 : w64 ((w64 ((-9223372036854775808) - -((s[n].toNat - 48 : Nat) : Int))).tdiv 10) = -(((9223372036854775808 - (s[n].toNat - 48)) / 10 : Nat) : Int) := by
          rw [w64_in (n := (-9223372036854775808) - -((s[n].toNat - 48 : Nat) : Int)) (by omega) (by omega),
            show (-9223372036854775808 : Int) - -((s[n].toNat - 48 : Nat) : Int) = -((9223372036854775808 - (s[n].toNat - 48) : Nat) : Int) from by omega, Int.neg_tdiv, Int.tdiv_eq_ediv_of_nonneg (by omega), w64_in (by omega) (by omega)]
          omega
        have t2 : w64 ((w64 (9223372036854775807 - 0)).tdiv 10) = 922337203685477580 := by decide
        rw [t1, t2, if_pos (by decide), if_neg (by omega), if_pos (by decide), if_neg (by omega), e]
        have t3 : w64 (w64 (10 * -((acc : Nat) : Int)) + -((s[n].toNat - 48 : Nat) : Int)) = -((10 * acc + (s[n].toNat - 48) : Nat) : Int) := by
          rw [w64_in (n := 10 * -((acc : Nat) : Int)) (by omega) (by omega), w64_in (by omega) (by omega)]; omega
        rw [t3]
        exact ih (n + 1) _ u (by omega) hacc hv k (by omega)
    · cases hv
theorem w64_len (s : List UInt8) (hl : s.length < 1000000) (j : Nat) (hj : j ≤ s.length) : w64 ((s.length : Int) - ((j : Nat) : Int)) = ((s.length - j : Nat) : Int) := by rw [w64_in (by omega) (by omega)]; omega
theorem number_eq (s : List UInt8) (hl : s.length < 1000000) : ∃ r, ref34_number s = some (r, (numP s).isSome) ∧ ∀ v, numP s = some v → r = v := by
  -- it ends, and is content with numerals alone
  have hany : ∃ r b, (∀ k, s.length + 3 ≤ k → ref34_number_f k s = some (r, b)) ∧ (b = true → in64 r ∧ Lib.itoa r = s) := by
    have zero : in64 0 := ⟨by omega, by omega⟩
    by_cases h0 : s.length = 0
    · refine ⟨0, false, fun k hk => ?_, fun h => nomatch h⟩
      unfold ref34_number_f
      rw [if_neg (by omega), if_pos (by omega)]
    · by_cases h45 : ((s.getD 0 0).toNat : Int) = 45
      · by_cases h1 : s.length = 1
        · refine ⟨0, false, fun k hk => ?_, fun h => nomatch h⟩
          unfold ref34_number_f
          rw [if_pos (by omega), if_pos (by omega), if_pos (by omega), show (0 : Int).toNat = 0 from rfl, if_pos h45, if_pos (by omega)]
        · by_cases h19 : 19 < s.length - 1
          · refine ⟨0, false, fun k hk => ?_, fun h => nomatch h⟩
            unfold ref34_number_f
            rw [if_pos (by omega), if_pos (by omega), if_pos (by omega), show (0 : Int).toNat = 0 from rfl, if_pos h45, if_neg (by omega)]
            have := w64_len s hl 1 (by omega)
            rw [show w64 ((s.length : Int) - 1) = ((s.length - 1 : Nat) : Int) from this, if_pos (by omega)]
          · obtain ⟨r, b, q1, q2⟩ := number_any s (decide (((s.getD 0 0).toNat : Int) = 45)) hl (s.length - 1) 1 0 (by omega) zero
            refine ⟨r, b, fun k hk => ?_, q2⟩
            unfold ref34_number_f
            rw [if_pos (by omega), if_pos (by omega), if_pos (by omega), show (0 : Int).toNat = 0 from rfl, if_pos h45, if_neg (by omega)]
            have := w64_len s hl 1 (by omega)
            rw [show w64 ((s.length : Int) - 1) = ((s.length - 1 : Nat) : Int) from this, if_neg (by omega)]
            exact q1 k (by omega)
      · by_cases h19 : 19 < s.length
        · refine ⟨0, false, fun k hk => ?_, fun h => nomatch h⟩
          unfold ref34_number_f
          rw [if_pos (by omega), if_pos (by omega), if_pos (by omega), show (0 : Int).toNat = 0 from rfl, if_neg h45, if_neg (by omega)]
          have := w64_len s hl 0 (by omega)
          rw [show w64 ((s.length : Int) - 0) = ((s.length - 0 : Nat) : Int) from this, if_pos (by omega)]
        · obtain ⟨r, b, q1, q2⟩ := number_any s (decide (((s.getD 0 0).toNat : Int) = 45)) hl s.length 0 0 (by omega) zero
          refine ⟨r, b, fun k hk => ?_, q2⟩
          unfold ref34_number_f
          rw [if_pos (by omega), if_pos (by omega), if_pos (by omega), show (0 : Int).toNat = 0 from rfl, if_neg h45, if_neg (by omega)]
          have := w64_len s hl 0 (by omega)
          rw [show w64 ((s.length : Int) - 0) = ((s.length - 0 : Nat) : Int) from this, if_neg (by omega)]
          exact q1 k (by omega)
  obtain ⟨r, b, h1, h2⟩ := hany
  have hrun : ref34_number s = some (r, b) := lim_eq (s.length + 3) fun k hk => h1 k hk
  cases hn : numP s with
  | none =>
    refine ⟨r, ?_, fun v h => nomatch h⟩
    rw [hrun]
    cases b with
    | false => rfl
    | true =>
      have := (numP_iff s r).2 (h2 rfl)
      rw [hn] at this
      cases this
  | some v =>
    obtain ⟨hv, rfl⟩ := (numP_iff s v).1 hn
    suffices h : ref34_number (Lib.itoa v) = some (v, true) from ⟨v, h, fun u hu => (Option.some.inj hu)⟩
    refine lim_eq ((Lib.itoa v).length + 3) fun k hk => ?_
    have hd : ∀ c ∈ Lib.decDigits v.natAbs, 48 ≤ c.toNat ∧ c.toNat ≤ 57 := dec_digits _ _ (Nat.le_refl _)
    have hne := dec_ne v.natAbs
    have hlen : (Lib.decDigits v.natAbs).length ≤ 19 := dec_len 18 v.natAbs (by have := hv.1; have := hv.2; omega)
    have hpos := List.length_pos_iff.2 hne
    by_cases hneg : v < 0
    · obtain ⟨u, rfl⟩ : ∃ u : Nat, v = -(u : Int) := ⟨v.natAbs, by omega⟩
      rw [show (-(u : Int)).natAbs = u from by omega] at *
      rw [Lib.itoa_neg u (by omega)] at *
      have hle : u ≤ 9223372036854775808 := by have := hv.1; omega
      have hval := valU_dec 9223372036854775808 (by decide) u u (Nat.le_refl _) hle
      have hl1 : (45 :: Lib.decDigits u).length = (Lib.decDigits u).length + 1 := rfl
      have hc : (((45 :: Lib.decDigits u).getD 0 0).toNat : Int) = 45 := rfl
      show ref34_number_f k (45 :: Lib.decDigits u) = _
      unfold ref34_number_f
      rw [if_pos (by omega), if_pos (by omega), if_pos (by omega), show (0 : Int).toNat = 0 from rfl, if_pos hc, if_neg (by omega)]
      have := w64_len (45 :: Lib.decDigits u) hl 1 (by omega)
      rw [show w64 (((45 :: Lib.decDigits u).length : Int) - 1) = (((45 :: Lib.decDigits u).length - 1 : Nat) : Int) from this, if_neg (by omega)]
      have := number_neg (45 :: Lib.decDigits u) hl ((Lib.decDigits u).length) 1 0 u (by omega) (by omega) hval k (by omega)
      rw [Lib.itoa_neg u (by omega), decide_eq_true rfl] at this
      exact this
    · obtain ⟨u, rfl⟩ : ∃ u : Nat, v = (u : Int) := ⟨v.natAbs, by omega⟩
      rw [show ((u : Nat) : Int).natAbs = u from by omega] at *
      rw [Lib.itoa_nonneg u] at *
      have hle : u ≤ 9223372036854775807 := by have := hv.2; omega
      have hval := valU_dec 9223372036854775807 (by decide) u u (Nat.le_refl _) hle
      have h45 : ¬ (((Lib.decDigits u).getD 0 0).toNat : Int) = 45 := by
        rw [getD_lt _ hpos]
        have := hd _ (List.getElem_mem hpos)
        omega
      show ref34_number_f k (Lib.decDigits u) = _
      unfold ref34_number_f
      rw [if_pos (by omega), if_pos (by omega), if_pos (by omega), show (0 : Int).toNat = 0 from rfl, if_neg h45, if_neg (by omega)]
      have := w64_len (Lib.decDigits u) hl 0 (by omega)
      rw [show w64 (((Lib.decDigits u).length : Int) - 0) = (((Lib.decDigits u).length - 0 : Nat) : Int) from this, if_neg (by omega), decide_eq_false h45]
      have := number_pos (Lib.decDigits u) hl ((Lib.decDigits u).length) 0 0 u (by omega) (by omega) hval k (by omega)
      rw [Lib.itoa_nonneg u, decide_eq_true rfl] at this
      exact this
end Go.Sy.Sc
