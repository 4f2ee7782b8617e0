import Derived.Shelf.Small.Strs
import Derived.Shelf.Strings.Search3
import Derived.Shelf.Strconv.ParseIntPublic10
import Derived.Ground.NamesProg
import Derived.Lib.Walk
import Derived.WalkKit
import Derived.BigCall
import Derived.BigGuard
import Derived.Stop.IfaceNil
import Derived.Stop.LaidErr
import Derived.Shelf.Vars
import Derived.MakeChecks
import Derived.LaidHandle
import Derived.ChangeSame
import Derived.ChangeVars
import Derived.JoinedOf
import Derived.RowKit
import Derived.HandedShaped
import Derived.LaidMore
import Derived.LaidLaws
import Derived.Test.YtdppdmpmkgcieaaDoorProg
import Derived.Test.YtdppdmpmkgcieaaDoorRows
import Derived.Test.YtdppdmpmkgcieaaDoorSc
set_option linter.unusedVariables false
set_option linter.unusedSimpArgs false
/-! The library's contracts of strings.IndexByte, strings.Contains and strconv.ParseInt, laid at this program. -/
namespace Go.Proofs
open Go.Shelf
def Tryd.laysIB_ren : Go.Shelf.Ren := ⟨fun | 137 => 29 | 217 => 43 | 266 => 57 | n => n, fun | 9 => 9 | 5 => 5 | 3 => 3 | n => n, fun | n => n⟩
theorem Tryd.laysIB : Go.Proofs.Lays.n137 Tryd.prog Tryd.laysIB_ren := {
  mixed := by kernel_rfl
  f137 := Tryd.func29.trans (congrArg some (by kernel_rfl))
  f217 := Tryd.func43.trans (congrArg some (by kernel_rfl))
  f266 := Tryd.func57.trans (congrArg some (by kernel_rfl))
  t3 := Tryd.underlying3
  a3 := Tryd.isAgg3
  z3 := Tryd.sizeOf3
  v3 := Tryd.zeroValue3
  t5 := Tryd.underlying5
  a5 := Tryd.isAgg5
  z5 := Tryd.sizeOf5
  v5 := Tryd.zeroValue5
  t9 := Tryd.underlying9
  a9 := Tryd.isAgg9
  z9 := Tryd.sizeOf9
  v9 := Tryd.zeroValue9 }
def Tryd.laysCo_ren : Go.Shelf.Ren := ⟨fun | 144 => 45 | 143 => 60 | 219 => 74 | 217 => 43 | 225 => 86 | 224 => 87 | 267 => 88 | 266 => 57 | 314 => 94 | n => n, fun | 9 => 9 | 4 => 4 | 3 => 3 | 5 => 5 | 46 => 134 | 146 => 158 | 51 => 157 | n => n, fun | 1 => 0 | n => n⟩
theorem Tryd.laysCo : Go.Proofs.Lays.n144 Tryd.prog Tryd.laysCo_ren := {
  mixed := by kernel_rfl
  f143 := Tryd.func60.trans (congrArg some (by kernel_rfl))
  f144 := Tryd.func45.trans (congrArg some (by kernel_rfl))
  f217 := Tryd.func43.trans (congrArg some (by kernel_rfl))
  f219 := Tryd.func74.trans (congrArg some (by kernel_rfl))
  f224 := Tryd.func87.trans (congrArg some (by kernel_rfl))
  f225 := Tryd.func86.trans (congrArg some (by kernel_rfl))
  f266 := Tryd.func57.trans (congrArg some (by kernel_rfl))
  f267 := Tryd.func88.trans (congrArg some (by kernel_rfl))
  f314 := Tryd.func94.trans (congrArg some (by kernel_rfl))
  t3 := Tryd.underlying3
  a3 := Tryd.isAgg3
  z3 := Tryd.sizeOf3
  v3 := Tryd.zeroValue3
  t4 := Tryd.underlying4
  a4 := Tryd.isAgg4
  z4 := Tryd.sizeOf4
  v4 := Tryd.zeroValue4
  t5 := Tryd.underlying5
  a5 := Tryd.isAgg5
  z5 := Tryd.sizeOf5
  v5 := Tryd.zeroValue5
  t9 := Tryd.underlying9
  a9 := Tryd.isAgg9
  z9 := Tryd.sizeOf9
  v9 := Tryd.zeroValue9
  t46 := Tryd.underlying134
  a46 := Tryd.isAgg134
  z46 := Tryd.sizeOf134
  v46 := Tryd.zeroValue134
  t51 := Tryd.underlying157
  a51 := Tryd.isAgg157
  z51 := Tryd.sizeOf157
  v51 := Tryd.zeroValue157
  t146 := Tryd.underlying158
  a146 := Tryd.isAgg158
  z146 := Tryd.sizeOf158
  v146 := Tryd.zeroValue158
  g1 := by kernel_rfl }
def Tryd.laysPI_ren : Go.Shelf.Ren := ⟨fun | 174 => 44 | 247 => 58 | 245 => 59 | 287 => 69 | 279 => 70 | 280 => 71 | 281 => 72 | 282 => 73 | 321 => 81 | 322 => 82 | 316 => 83 | 171 => 85 | 205 => 84 | 243 => 93 | 246 => 95 | 283 => 96 | 284 => 97 | 285 => 98 | 286 => 99 | 129 => 101 | 317 => 100 | 318 => 102 | 319 => 103 | 320 => 104 | 337 => 105 | 338 => 106 | n => n, fun | 9 => 9 | 3 => 3 | 2 => 2 | 75 => 76 | 85 => 77 | 4 => 4 | 167 => 130 | 5 => 5 | 53 => 131 | 175 => 132 | 46 => 134 | 168 => 135 | 37 => 144 | 0 => 0 | 210 => 147 | 21 => 21 | 127 => 153 | 145 => 156 | 143 => 154 | 171 => 162 | 173 => 165 | 212 => 168 | 51 => 157 | 20 => 20 | 213 => 169 | 232 => 173 | 233 => 174 | 80 => 175 | n => n, fun | 15 => 1 | 16 => 2 | 17 => 3 | 18 => 4 | 19 => 5 | n => n⟩
theorem Tryd.laysPI : Go.Proofs.LaysC.n174 Tryd.prog Tryd.laysPI_ren := {
  mixed := by kernel_rfl
  f129 := Tryd.func101.trans (congrArg some (by kernel_rfl))
  f171 := Tryd.func85.trans (congrArg some (by kernel_rfl))
  f174 := Tryd.func44.trans (congrArg some (by kernel_rfl))
  f205 := Tryd.func84.trans (congrArg some (by kernel_rfl))
  f243 := Tryd.func93.trans (congrArg some (by kernel_rfl))
  f245 := Tryd.func59.trans (congrArg some (by kernel_rfl))
  f246 := Tryd.func95.trans (congrArg some (by kernel_rfl))
  f247 := Tryd.func58.trans (congrArg some (by kernel_rfl))
  f279 := Tryd.func70.trans (congrArg some (by kernel_rfl))
  f280 := Tryd.func71.trans (congrArg some (by kernel_rfl))
  f281 := Tryd.func72.trans (congrArg some (by kernel_rfl))
  f282 := Tryd.func73.trans (congrArg some (by kernel_rfl))
  f283 := Tryd.func96.trans (congrArg some (by kernel_rfl))
  f284 := Tryd.func97.trans (congrArg some (by kernel_rfl))
  f285 := Tryd.func98.trans (congrArg some (by kernel_rfl))
  f286 := Tryd.func99.trans (congrArg some (by kernel_rfl))
  f287 := Tryd.func69.trans (congrArg some (by kernel_rfl))
  f316 := Tryd.func83.trans (congrArg some (by kernel_rfl))
  f317 := Tryd.func100.trans (congrArg some (by kernel_rfl))
  f318 := Tryd.func102.trans (congrArg some (by kernel_rfl))
  f319 := Tryd.func103.trans (congrArg some (by kernel_rfl))
  f320 := Tryd.func104.trans (congrArg some (by kernel_rfl))
  f321 := Tryd.func81.trans (congrArg some (by kernel_rfl))
  f322 := Tryd.func82.trans (congrArg some (by kernel_rfl))
  f337 := Tryd.func105.trans (congrArg some (by kernel_rfl))
  f338 := Tryd.func106.trans (congrArg some (by kernel_rfl))
  t0 := Tryd.underlying0
  a0 := Tryd.isAgg0
  z0 := Tryd.sizeOf0
  v0 := Tryd.zeroValue0
  t2 := Tryd.underlying2
  a2 := Tryd.isAgg2
  z2 := Tryd.sizeOf2
  v2 := Tryd.zeroValue2
  t3 := Tryd.underlying3
  a3 := Tryd.isAgg3
  z3 := Tryd.sizeOf3
  v3 := Tryd.zeroValue3
  t4 := Tryd.underlying4
  a4 := Tryd.isAgg4
  z4 := Tryd.sizeOf4
  v4 := Tryd.zeroValue4
  t5 := Tryd.underlying5
  a5 := Tryd.isAgg5
  z5 := Tryd.sizeOf5
  v5 := Tryd.zeroValue5
  t9 := Tryd.underlying9
  a9 := Tryd.isAgg9
  z9 := Tryd.sizeOf9
  v9 := Tryd.zeroValue9
  t20 := Tryd.underlying20
  a20 := Tryd.isAgg20
  z20 := Tryd.sizeOf20
  v20 := Tryd.zeroValue20
  t21 := Tryd.underlying21
  a21 := Tryd.isAgg21
  z21 := Tryd.sizeOf21
  v21 := Tryd.zeroValue21
  t37 := Tryd.underlying144
  a37 := Tryd.isAgg144
  z37 := Tryd.sizeOf144
  v37 := Tryd.zeroValue144
  t46 := Tryd.underlying134
  a46 := Tryd.isAgg134
  z46 := Tryd.sizeOf134
  v46 := Tryd.zeroValue134
  t51 := Tryd.underlying157
  a51 := Tryd.isAgg157
  z51 := Tryd.sizeOf157
  v51 := Tryd.zeroValue157
  t53 := Tryd.underlying131
  a53 := Tryd.isAgg131
  z53 := Tryd.sizeOf131
  v53 := Tryd.zeroValue131
  t75 := Tryd.underlying76
  a75 := Tryd.isAgg76
  z75 := Tryd.sizeOf76
  v75 := Tryd.zeroValue76
  t85 := Tryd.underlying77
  a85 := Tryd.isAgg77
  z85 := Tryd.sizeOf77
  v85 := Tryd.zeroValue77
  t127 := Tryd.underlying153
  a127 := Tryd.isAgg153
  z127 := Tryd.sizeOf153
  v127 := Tryd.zeroValue153
  t143 := Tryd.underlying154
  a143 := Tryd.isAgg154
  z143 := Tryd.sizeOf154
  v143 := Tryd.zeroValue154
  t145 := Tryd.underlying156
  a145 := Tryd.isAgg156
  z145 := Tryd.sizeOf156
  v145 := Tryd.zeroValue156
  t167 := Tryd.underlying130
  a167 := Tryd.isAgg130
  z167 := Tryd.sizeOf130
  v167 := Tryd.zeroValue130
  t168 := Tryd.underlying135
  a168 := Tryd.isAgg135
  z168 := Tryd.sizeOf135
  v168 := Tryd.zeroValue135
  t171 := Tryd.underlying162
  a171 := Tryd.isAgg162
  z171 := Tryd.sizeOf162
  v171 := Tryd.zeroValue162
  t173 := Tryd.underlying165
  a173 := Tryd.isAgg165
  z173 := Tryd.sizeOf165
  v173 := Tryd.zeroValue165
  t175 := Tryd.underlying132
  a175 := Tryd.isAgg132
  z175 := Tryd.sizeOf132
  v175 := Tryd.zeroValue132
  t210 := Tryd.underlying147
  a210 := Tryd.isAgg147
  z210 := Tryd.sizeOf147
  v210 := Tryd.zeroValue147
  t212 := Tryd.underlying168
  a212 := Tryd.isAgg168
  z212 := Tryd.sizeOf168
  v212 := Tryd.zeroValue168
  t213 := Tryd.underlying169
  a213 := Tryd.isAgg169
  z213 := Tryd.sizeOf169
  t232 := Tryd.underlying173
  a232 := Tryd.isAgg173
  z232 := Tryd.sizeOf173
  v232 := Tryd.zeroValue173
  t233 := Tryd.underlying174
  a233 := Tryd.isAgg174
  z233 := Tryd.sizeOf174
  v233 := Tryd.zeroValue174
  g15 := by kernel_rfl
  g16 := by kernel_rfl
  g17 := by kernel_rfl
  g18 := by kernel_rfl
  g19 := by kernel_rfl
  t80 := Tryd.underlying175
  a80 := Tryd.isAgg175
  z80 := Tryd.sizeOf175
  v80 := Tryd.zeroValue175
  i0 := by kernel_rfl
  i2 := by kernel_rfl
  i3 := by kernel_rfl
  i4 := by kernel_rfl
  i5 := by kernel_rfl
  i9 := by kernel_rfl
  i20 := by kernel_rfl
  i21 := by kernel_rfl
  i37 := by kernel_rfl
  i46 := by kernel_rfl
  i51 := by kernel_rfl
  i53 := by kernel_rfl
  i75 := by kernel_rfl
  i80 := by kernel_rfl
  i85 := by kernel_rfl
  i127 := by kernel_rfl
  i143 := by kernel_rfl
  i145 := by kernel_rfl
  i167 := by kernel_rfl
  i168 := by kernel_rfl
  i171 := by kernel_rfl
  i173 := by kernel_rfl
  i175 := by kernel_rfl
  i210 := by kernel_rfl
  i212 := by kernel_rfl
  i232 := by kernel_rfl
  i233 := by kernel_rfl
  m15 := by kernel_rfl
  m16 := by kernel_rfl
  m17 := by kernel_rfl
  m18 := by kernel_rfl
  m19 := by kernel_rfl
  c0 := by kernel_rfl
  c2 := by kernel_rfl
  c3 := by kernel_rfl
  c4 := by kernel_rfl
  c5 := by kernel_rfl
  c9 := by kernel_rfl
  c20 := by kernel_rfl
  c21 := by kernel_rfl
  c37 := by kernel_rfl
  c46 := by kernel_rfl
  c51 := by kernel_rfl
  c53 := by kernel_rfl
  c75 := by kernel_rfl
  c80 := by kernel_rfl
  c85 := by kernel_rfl
  c127 := by kernel_rfl
  c143 := by kernel_rfl
  c145 := by kernel_rfl
  c167 := by kernel_rfl
  c168 := by kernel_rfl
  c171 := by kernel_rfl
  c173 := by kernel_rfl
  c175 := by kernel_rfl
  c210 := by kernel_rfl
  c212 := by kernel_rfl
  c213 := by kernel_rfl
  c232 := by kernel_rfl
  c233 := by kernel_rfl }
theorem Tryd.c_IndexByte (s : ByteArray) (c : Int) (w : World) :
    Calls Tryd.prog 29 #[.string s, .int .u8 c] w fun e w' => e = .returned (.int .i64 (Lib.indexByte s.data.toList c.toNat.toUInt8)) ∧ w' = w := Any.strings_IndexByte Tryd.laysIB s c w
end Go.Proofs
/-! lex.number, walked over the library's contract. -/
namespace Go.Sy.Lx
open Go.Proofs Go.RowKit Go.Shelf Go.Lib
@[go_sem] theorem iface76 : Tryd.prog.isIface 76 = true := by kernel_rfl
/-- What lex.number tells of digits. -/
def numOf (l : List UInt8) : Int × Int :=
  if (1 < l.length ∧ l.getD 0 0 = 48) then (0, 11) else match Lib.parseIntB 64 l with
    | .ok v => (v, 0)
    | _ => (0, 16)
theorem get0 (s : ByteArray) (h : 0 < s.size) : s.data.toList.getD 0 0 = s[0]'h := by
  rw [List.getD_eq_getElem?_getD, Array.getElem?_toList]
  have : s.data[0]? = some (s[0]'h) := by
    rw [Array.getElem?_eq_getElem (by exact h)]; rfl
  rw [this]; rfl
theorem len0 (s : ByteArray) : s.data.toList.length = s.size := Array.length_toList
theorem num0 (s : ByteArray) (h1 : 1 < (s.size : Int)) (h2 : 0 < s.size) (h : (((s[0]'h2).toNat : Int) == 48) = true) : numOf s.data.toList = (0, 11) := by
  unfold numOf
  rw [if_pos]
  refine ⟨by rw [len0]; omega, ?_⟩
  rw [get0 s h2]
  have h' : ((s[0]'h2).toNat : Int) = 48 := by simpa using h
  exact UInt8.toNat_inj.1 (by show _ = 48; omega)
theorem num1 (s : ByteArray) (h2 : 0 < s.size) (h : (((s[0]'h2).toNat : Int) == 48) = false) : numOf s.data.toList = match Lib.parseIntB 64 s.data.toList with
    | .ok v => (v, 0)
    | _ => (0, 16) := by
  unfold numOf
  rw [if_neg]
  rintro ⟨_, h3⟩
  rw [get0 s h2] at h3
  rw [h3] at h
  simp at h
theorem num2 (s : ByteArray) (h : (s.size : Int) ≤ 1) : numOf s.data.toList = match Lib.parseIntB 64 s.data.toList with
    | .ok v => (v, 0)
    | _ => (0, 16) := by
  unfold numOf
  rw [if_neg]
  rintro ⟨h3, _⟩
  rw [len0] at h3
  omega
theorem num_ok {l : List UInt8} {v : Int} (h : Lib.parseIntB 64 l = .ok v) : (match Lib.parseIntB 64 l with
    | .ok v => (v, (0 : Int))
    | _ => (0, 16)) = (v, 0) := by rw [h]
theorem num_no {l : List UInt8} (h : ∀ v, Lib.parseIntB 64 l ≠ .ok v) : (match Lib.parseIntB 64 l with
    | .ok v => (v, (0 : Int))
    | _ => (0, 16)) = (0, 16) := by
  cases e : Lib.parseIntB 64 l with
  | ok v => exact absurd e (h v)
  | _ => rfl
/-- A call of strconv.ParseInt, its end by what the digits are. -/
theorem parse_calls (s : ByteArray) (w : World) (hl : s.size ≤ 281474976710656) (e1 e2 : Value) (h1 : w.cell? ⟨1, 0, none⟩ = some e1) (h2 : w.cell? ⟨2, 0, none⟩ = some e2) (k1 : e1 = .nilIface ∨ ∃ te pe, e1 = .iface te pe) (k2 : e2 = .nilIface ∨ ∃ te pe, e2 = .iface te pe) :
    Calls Tryd.prog 44 #[.string s, .int .i64 10, .int .i64 64] w fun e w' => ∃ v er, e = .returned (.tuple #[.int .i64 v, er]) ∧ Below w.heap.size w w' ∧
      ((er = .nilIface ∧ Lib.parseIntB 64 s.data.toList = .ok v) ∨ ((∃ t p, er = .iface t p) ∧ ∀ v, Lib.parseIntB 64 s.data.toList ≠ .ok v)) := by
  rcases h : Lib.parseIntB 64 s.data.toList with v | _ | _
  · refine (Any.strconv_ParseInt_10_at64_ok Tryd.laysPI s (by omega) v h w).mono ?_
    rintro e w' ⟨rfl, hw⟩
    refine ⟨v, _, rfl, ?_, .inl ⟨rfl, rfl⟩⟩
    rcases hw with rfl | ⟨t, rfl⟩
    · exact Below.refl _ _
    · exact Lib.bytesWorld_below _ _ _
  · refine (Any.strconv_ParseInt_10_at64_syntax Tryd.laysPI s hl h e1 w h1 k1).mono ?_
    rintro e w' ⟨N, rfl, _, _, hb⟩
    exact ⟨_, _, rfl, hb, .inr ⟨⟨_, _, rfl⟩, fun v hv => by cases hv⟩⟩
  · refine (Any.strconv_ParseInt_10_at64_range Tryd.laysPI s hl h e2 w h2 k2).mono ?_
    rintro e w' ⟨N, rfl, _, _, hb⟩
    exact ⟨_, _, rfl, hb, .inr ⟨⟨_, _, rfl⟩, fun v hv => by cases hv⟩⟩
set_option maxHeartbeats 4000000 in
set_option maxRecDepth 100000 in
theorem number_calls (s : ByteArray) (w : World) (hl : s.size ≤ 281474976710656) (e1 e2 : Value) (h1 : w.cell? ⟨1, 0, none⟩ = some e1) (h2 : w.cell? ⟨2, 0, none⟩ = some e2) (k1 : e1 = .nilIface ∨ ∃ te pe, e1 = .iface te pe) (k2 : e2 = .nilIface ∨ ∃ te pe, e2 = .iface te pe) :
    Calls Tryd.prog 30 #[.string s] w fun e w' => e = .returned (.tuple #[.int .i64 (numOf s.data.toList).1, .int .i64 (numOf s.data.toList).2]) ∧ Below w.heap.size w w' := by
  have hp := parse_calls s w hl e1 e2 h1 h2 k1 k2
  clear h1 h2 k1 k2
  go_enter Tryd.func30, Tryd.ntmps30
  go_wp2_with (go_at_call 44; refine hp.mono ?_; rintro e w' ⟨v, er, rfl, hb, hc⟩)
  all_goals (try (rcases hc with ⟨rfl, hv⟩ | ⟨⟨t, p, rfl⟩, hv⟩))
  all_goals (try simp [go_sem, Oper.upon, Result.andThen, eqGuard_nil_constR, run_neq_iface_nil, run_neq_nil_nil_at, iface76])
  all_goals (try go_wp2)
  all_goals go_ret2
  · refine ⟨?_, Below.refl _ _⟩
    rw [num0 s (by assumption) (by assumption) (by assumption)]; rfl
  · refine ⟨?_, hb⟩
    rw [num1 s (by assumption) (by assumption), num_ok hv]; rfl
  · refine ⟨?_, hb⟩
    rw [num1 s (by assumption) (by assumption), num_no hv]; rfl
  · refine ⟨?_, hb⟩
    rw [num2 s (by assumption), num_ok hv]; rfl
  · refine ⟨?_, hb⟩
    rw [num2 s (by assumption), num_no hv]; rfl
end Go.Sy.Lx
set_option maxRecDepth 100000
namespace Go.Sy.Lx
open Go.Sy Go.Proofs
structure api_Token where
  Kind : Int
  At : Int
  End : Int
  Text : List UInt8
  N : Int
  deriving DecidableEq
def api_Token.z : api_Token := ⟨0, 0, 0, [], 0⟩
structure api_Fault where
  Code : Int
  At : Int
  deriving DecidableEq
def api_Fault.z : api_Fault := ⟨0, 0⟩
def C : Nat → Type
  | 0 => api_Token
  | 1 => api_Fault
  | 2 => List UInt8 × List UInt8 × List UInt8 × List UInt8 × List UInt8 × List UInt8 × List UInt8
  | 3 => List UInt8 × List UInt8 × List UInt8 × List UInt8 × List UInt8 × List UInt8 × List UInt8 × List UInt8 × List UInt8 × List UInt8 × List UInt8 × List UInt8 × List UInt8 × List UInt8 × List UInt8 × List UInt8 × List UInt8 × List UInt8 × List UInt8 × List UInt8 × List UInt8 × List UInt8 × List UInt8 × List UInt8 × List UInt8 × List UInt8 × List UInt8 × List UInt8 × List UInt8 × List UInt8 × List UInt8 × List UInt8 × List UInt8 × List UInt8 × List UInt8
  | _ + 4 => Unit
def F : Nat → List Ty
  | 0 => [.int .i64, .int .i64, .int .i64, .str, .int .i64]
  | 1 => [.int .i64, .int .i64]
  | 2 => [.str, .str, .str, .str, .str, .str, .str]
  | 3 => [.str, .str, .str, .str, .str, .str, .str, .str, .str, .str, .str, .str, .str, .str, .str, .str, .str, .str, .str, .str, .str, .str, .str, .str, .str, .str, .str, .str, .str, .str, .str, .str, .str, .str, .str]
  | _ + 4 => []
def ex : (t : Nat) → C t → Tup C (F t)
  | 0, (x : api_Token) => (x.Kind, x.At, x.End, x.Text, x.N)
  | 1, (x : api_Fault) => (x.Code, x.At)
  | 2, (x : List UInt8 × List UInt8 × List UInt8 × List UInt8 × List UInt8 × List UInt8 × List UInt8) => (x.1, x.2.1, x.2.2.1, x.2.2.2.1, x.2.2.2.2.1, x.2.2.2.2.2.1, x.2.2.2.2.2.2)
  | 3, (x : List UInt8 × List UInt8 × List UInt8 × List UInt8 × List UInt8 × List UInt8 × List UInt8 × List UInt8 × List UInt8 × List UInt8 × List UInt8 × List UInt8 × List UInt8 × List UInt8 × List UInt8 × List UInt8 × List UInt8 × List UInt8 × List UInt8 × List UInt8 × List UInt8 × List UInt8 × List UInt8 × List UInt8 × List UInt8 × List UInt8 × List UInt8 × List UInt8 × List UInt8 × List UInt8 × List UInt8 × List UInt8 × List UInt8 × List UInt8 × List UInt8) => (x.1, x.2.1, x.2.2.1, x.2.2.2.1, x.2.2.2.2.1, x.2.2.2.2.2.1, x.2.2.2.2.2.2.1, x.2.2.2.2.2.2.2.1, x.2.2.2.2.2.2.2.2.1, x.2.2.2.2.2.2.2.2.2.1, x.2.2.2.2.2.2.2.2.2.2.1, x.2.2.2.2.2.2.2.2.2.2.2.1, x.2.2.2.2.2.2.2.2.2.2.2.2.1, x.2.2.2.2.2.2.2.2.2.2.2.2.2.1, x.2.2.2.2.2.2.2.2.2.2.2.2.2.2.1, x.2.2.2.2.2.2.2.2.2.2.2.2.2.2.2.1, x.2.2.2.2.2.2.2.2.2.2.2.2.2.2.2.2.1, x.2.2.2.2.2.2.2.2.2.2.2.2.2.2.2.2.2.1, x.2.2.2.2.2.2.2.2.2.2.2.2.2.2.2.2.2.2.1, x.2.2.2.2.2.2.2.2.2.2.2.2.2.2.2.2.2.2.2.1, x.2.2.2.2.2.2.2.2.2.2.2.2.2.2.2.2.2.2.2.2.1, x.2.2.2.2.2.2.2.2.2.2.2.2.2.2.2.2.2.2.2.2.2.1, x.2.2.2.2.2.2.2.2.2.2.2.2.2.2.2.2.2.2.2.2.2.2.1, x.2.2.2.2.2.2.2.2.2.2.2.2.2.2.2.2.2.2.2.2.2.2.2.1, x.2.2.2.2.2.2.2.2.2.2.2.2.2.2.2.2.2.2.2.2.2.2.2.2.1, x.2.2.2.2.2.2.2.2.2.2.2.2.2.2.2.2.2.2.2.2.2.2.2.2.2.1, x.2.2.2.2.2.2.2.2.2.2.2.2.2.2.2.2.2.2.2.2.2.2.2.2.2.2.1, x.2.2.2.2.2.2.2.2.2.2.2.2.2.2.2.2.2.2.2.2.2.2.2.2.2.2.2.1, x.2.2.2.2.2.2.2.2.2.2.2.2.2.2.2.2.2.2.2.2.2.2.2.2.2.2.2.2.1, x.2.2.2.2.2.2.2.2.2.2.2.2.2.2.2.2.2.2.2.2.2.2.2.2.2.2.2.2.2.1, x.2.2.2.2.2.2.2.2.2.2.2.2.2.2.2.2.2.2.2.2.2.2.2.2.2.2.2.2.2.2.1, x.2.2.2.2.2.2.2.2.2.2.2.2.2.2.2.2.2.2.2.2.2.2.2.2.2.2.2.2.2.2.2.1, x.2.2.2.2.2.2.2.2.2.2.2.2.2.2.2.2.2.2.2.2.2.2.2.2.2.2.2.2.2.2.2.2.1, x.2.2.2.2.2.2.2.2.2.2.2.2.2.2.2.2.2.2.2.2.2.2.2.2.2.2.2.2.2.2.2.2.2.1, x.2.2.2.2.2.2.2.2.2.2.2.2.2.2.2.2.2.2.2.2.2.2.2.2.2.2.2.2.2.2.2.2.2.2)
  | _ + 4, _ => ()
def im : (t : Nat) → Tup C (F t) → C t
  | 0, (a0, a1, a2, a3, a4) => api_Token.mk a0 a1 a2 a3 a4
  | 1, (a0, a1) => api_Fault.mk a0 a1
  | 2, (a0, a1, a2, a3, a4, a5, a6) => (a0, a1, a2, a3, a4, a5, a6)
  | 3, (a0, a1, a2, a3, a4, a5, a6, a7, a8, a9, a10, a11, a12, a13, a14, a15, a16, a17, a18, a19, a20, a21, a22, a23, a24, a25, a26, a27, a28, a29, a30, a31, a32, a33, a34) => (a0, a1, a2, a3, a4, a5, a6, a7, a8, a9, a10, a11, a12, a13, a14, a15, a16, a17, a18, a19, a20, a21, a22, a23, a24, a25, a26, a27, a28, a29, a30, a31, a32, a33, a34)
  | _ + 4, _ => ()
def fldT : Nat → List (Nat × Ty)
  | 0 => [(0, .int .i64), (1, .int .i64), (2, .int .i64), (3, .str), (4, .int .i64)]
  | 1 => [(0, .int .i64), (1, .int .i64)]
  | 2 => rowFlds (.str) 7 0
  | 3 => rowFlds (.str) 35 0
  | _ + 4 => []
def z : (t : Nat) → C t
  | 0 => api_Token.z
  | 1 => api_Fault.z
  | 2 => ([], [], [], [], [], [], [])
  | 3 => ([], [], [], [], [], [], [], [], [], [], [], [], [], [], [], [], [], [], [], [], [], [], [], [], [], [], [], [], [], [], [], [], [], [], [])
  | _ + 4 => ()
def tyT : List (Nat × Ty) := [(2, .int .i64), (3, .int .i64), (4, .bool), (5, .int .u8), (9, .str), (23, .sl (.st 0)), (24, .int .i64), (26, .st 1), (32, .st 0), (46, .st 3), (80, .st 2)]
def arT : List (Nat × (Nat × Ty)) := [(46, 35, .str), (80, 7, .str)]
def eqT : List (Nat × Unit) := [(26, ()), (32, ())]
def ptT : List (Nat × Unit) := []
abbrev S : Sen := ⟨C, F, ex, im, fun u f => (fldT u)[f]?, z, look tyT, fun t => (look ptT t).isSome, look arT, fun t => (look eqT t).isSome, [(0, fun v => ∃ m, v = .int .i64 m), (1, fun v => v = .nilIface ∨ ∃ t p, v = .iface t p), (2, fun v => v = .nilIface ∨ ∃ t p, v = .iface t p)]⟩
def bytT : List (Nat × Nat) := [(23, 48)]
def byt (t : Nat) : Nat := (look bytT t).getD 1
theorem senOk : SenOk S := ⟨fun | 0 => rfl | 1 => rfl | 2 => rfl | 3 => rfl | _ + 4 => rfl, fun | 0, _ => rfl | 1, _ => rfl | 2, _ => rfl | 3, _ => rfl | _ + 4, _ => rfl⟩
theorem ty2 : TyAt Tryd.prog S byt 2 (.int .i64) := tyAt_int rfl (by kernel_rfl) (by kernel_rfl) (by kernel_rfl)
theorem ty3 : TyAt Tryd.prog S byt 3 (.int .i64) := tyAt_int rfl (by kernel_rfl) (by kernel_rfl) (by kernel_rfl)
theorem ty4 : TyAt Tryd.prog S byt 4 (.bool) := tyAt_bool rfl (by kernel_rfl) (by kernel_rfl) (by kernel_rfl)
theorem ty5 : TyAt Tryd.prog S byt 5 (.int .u8) := tyAt_int rfl (by kernel_rfl) (by kernel_rfl) (by kernel_rfl)
theorem ty9 : TyAt Tryd.prog S byt 9 (.str) := tyAt_str rfl (by kernel_rfl) (by kernel_rfl) (by kernel_rfl)
theorem ty23 : TyAt Tryd.prog S byt 23 (.sl (.st 0)) := tyAt_sl rfl (by kernel_rfl) (by kernel_rfl) Tryd.underlying23 rfl rfl (by kernel_rfl) (by kernel_rfl)
theorem ty24 : TyAt Tryd.prog S byt 24 (.int .i64) := tyAt_int rfl (by kernel_rfl) (by kernel_rfl) (by kernel_rfl)
theorem ty26 : TyAt Tryd.prog S byt 26 (.st 1) := tyAt_st (l := fldT 1) rfl (by kernel_rfl) rfl (by kernel_rfl) (by kernel_rfl) rfl (by kernel_rfl) Tryd.underlying26 (by kernel_rfl) (fun _ => rfl) rfl
theorem ty32 : TyAt Tryd.prog S byt 32 (.st 0) := tyAt_st (l := fldT 0) rfl (by kernel_rfl) rfl (by kernel_rfl) (by kernel_rfl) rfl (by kernel_rfl) Tryd.underlying32 (by kernel_rfl) (fun _ => rfl) rfl
theorem ty46 : TyAt Tryd.prog S byt 46 (.st 3) := tyAt_ar rfl (by kernel_rfl) rfl (by kernel_rfl) (by kernel_rfl) rfl (by kernel_rfl) Tryd.underlying46 rfl rfl rfl (by kernel_rfl) (fun _ => rfl) rfl
theorem ty80 : TyAt Tryd.prog S byt 80 (.st 2) := tyAt_ar rfl (by kernel_rfl) rfl (by kernel_rfl) (by kernel_rfl) rfl (by kernel_rfl) Tryd.underlying80 rfl rfl rfl (by kernel_rfl) (fun _ => rfl) rfl
theorem progOk : ProgOk Tryd.prog S byt := ⟨senOk, fun t T h0 => by
  have h := look_mem (show look tyT t = some T from h0)
  simp only [tyT, List.mem_cons, Prod.mk.injEq, List.not_mem_nil, or_false] at h
  rcases h with ⟨rfl, rfl⟩ | ⟨rfl, rfl⟩ | ⟨rfl, rfl⟩ | ⟨rfl, rfl⟩ | ⟨rfl, rfl⟩ | ⟨rfl, rfl⟩ | ⟨rfl, rfl⟩ | ⟨rfl, rfl⟩ | ⟨rfl, rfl⟩ | ⟨rfl, rfl⟩ | ⟨rfl, rfl⟩
  · exact ty2
  · exact ty3
  · exact ty4
  · exact ty5
  · exact ty9
  · exact ty23
  · exact ty24
  · exact ty26
  · exact ty32
  · exact ty46
  · exact ty80, fun t h => by
  have h2 : ∃ u, look ptT t = some u := Option.isSome_iff_exists.1 h
  obtain ⟨u, h2⟩ := h2
  have h := look_mem h2
  simp [ptT] at h, fun t h => by
  have h2 : ∃ u, look eqT t = some u := Option.isSome_iff_exists.1 h
  obtain ⟨u, h2⟩ := h2
  have h := look_mem h2
  simp only [eqT, List.mem_cons, Prod.mk.injEq, List.not_mem_nil, or_false] at h
  rcases h with ⟨rfl, _⟩ | ⟨rfl, _⟩
  · exact ⟨1, rfl, ⟨_, Tryd.underlying26, eqFlds_of (by kernel_rfl)⟩, by kernel_rfl, by kernel_rfl⟩
  · exact ⟨0, rfl, ⟨_, Tryd.underlying32, eqFlds_of (by kernel_rfl)⟩, by kernel_rfl, by kernel_rfl⟩⟩
theorem mixed : Tryd.prog.follows .mixedOrders = true := by kernel_rfl
def bz (e : Ty) : Nat := 1
def tyA : List (Nat × Ty) := [(2, .int .i64), (4, .bool), (9, .str)]
/-- The arguments' types alone. -/
abbrev SA : Sen := S.withT (look tyA) (fun _ => false) (fun _ => none) (fun _ => false)
theorem tyA2 : TyAt Tryd.prog SA byt 2 (.int .i64) := tyAt_int rfl (by kernel_rfl) (by kernel_rfl) (by kernel_rfl)
theorem tyA4 : TyAt Tryd.prog SA byt 4 (.bool) := tyAt_bool rfl (by kernel_rfl) (by kernel_rfl) (by kernel_rfl)
theorem tyA9 : TyAt Tryd.prog SA byt 9 (.str) := tyAt_str rfl (by kernel_rfl) (by kernel_rfl) (by kernel_rfl)
theorem senOkA : SenOk SA := ⟨senOk.flat, senOk.exim⟩
theorem progOkA : ProgOk Tryd.prog SA byt := ⟨senOkA, fun t e h0 => by
  have h := look_mem (show look tyA t = some (e) from h0)
  simp only [tyA, List.mem_cons, Prod.mk.injEq, List.not_mem_nil, or_false] at h
  rcases h with ⟨rfl, h⟩ | ⟨rfl, h⟩ | ⟨rfl, h⟩
  · subst h; exact tyA2
  · subst h; exact tyA4
  · subst h; exact tyA9, fun t h => (nomatch h), fun t h => (nomatch h)⟩
theorem hbz : ∀ t e, SA.ty t = some (.sl e) → byt t = bz e := fun t e h0 => by
  have h := look_mem (show look tyA t = some (.sl e) from h0)
  simp only [tyA, List.mem_cons, Prod.mk.injEq, List.not_mem_nil, or_false] at h
  rcases h with ⟨rfl, h⟩ | ⟨rfl, h⟩ | ⟨rfl, h⟩
  · cases h
  · cases h
  · cases h
theorem slOk : SlOk SA := fun t e h0 => by
  have h := look_mem (show look tyA t = some (.sl e) from h0)
  simp only [tyA, List.mem_cons, Prod.mk.injEq, List.not_mem_nil, or_false] at h
  rcases h with ⟨rfl, h⟩ | ⟨rfl, h⟩ | ⟨rfl, h⟩
  · cases h
  · cases h
  · cases h
theorem stOk : StOk Tryd.prog SA := fun t e h0 => by
  have h := look_mem (show look tyA t = some (.st e) from h0)
  simp only [tyA, List.mem_cons, Prod.mk.injEq, List.not_mem_nil, or_false] at h
  rcases h with ⟨rfl, h⟩ | ⟨rfl, h⟩ | ⟨rfl, h⟩
  · cases h
  · cases h
  · cases h
abbrev s_a_12_no : List UInt8 := [97, 45, 62, 49, 50, 32, 35, 32, 110, 111]
abbrev s_v : List UInt8 := [32, 9, 10, 13]
abbrev s_v_ : List UInt8 := [45, 62, 32, 61, 61, 32, 33, 61, 32, 60, 61, 32, 62, 61, 32, 38, 38, 32, 124, 124]
abbrev s_v__ : List UInt8 := [123, 125, 40, 41, 91, 93, 59, 44, 46, 58, 61, 60, 62, 43, 45, 42, 47, 37, 33, 36]
abbrev s_x_007 : List UInt8 := [120, 32, 61, 32, 48, 48, 55, 59]
abbrev s_a_b : List UInt8 := [97, 32, 38, 32, 98]
abbrev s_v___ : List UInt8 := [45, 62]
abbrev s_go : List UInt8 := [103, 111]
abbrev s_system : List UInt8 := [115, 121, 115, 116, 101, 109]
abbrev s_age : List UInt8 := [97, 103, 101]
abbrev s_chart : List UInt8 := [99, 104, 97, 114, 116]
abbrev s_steps : List UInt8 := [115, 116, 101, 112, 115]
abbrev s_fuel : List UInt8 := [102, 117, 101, 108]
abbrev s_var : List UInt8 := [118, 97, 114]
abbrev s_port : List UInt8 := [112, 111, 114, 116]
abbrev s_timer : List UInt8 := [116, 105, 109, 101, 114]
abbrev s_state : List UInt8 := [115, 116, 97, 116, 101]
abbrev s_parallel : List UInt8 := [112, 97, 114, 97, 108, 108, 101, 108]
abbrev s_history : List UInt8 := [104, 105, 115, 116, 111, 114, 121]
abbrev s_deep : List UInt8 := [100, 101, 101, 112]
abbrev s_entry : List UInt8 := [101, 110, 116, 114, 121]
abbrev s_exit : List UInt8 := [101, 120, 105, 116]
abbrev s_on : List UInt8 := [111, 110]
abbrev s_auto : List UInt8 := [97, 117, 116, 111]
abbrev s_raise : List UInt8 := [114, 97, 105, 115, 101]
abbrev s_send : List UInt8 := [115, 101, 110, 100]
abbrev s_arm : List UInt8 := [97, 114, 109]
abbrev s_cancel : List UInt8 := [99, 97, 110, 99, 101, 108]
abbrev s_v_if : List UInt8 := [105, 102]
abbrev s_v_else : List UInt8 := [101, 108, 115, 101]
abbrev s_loop : List UInt8 := [108, 111, 111, 112]
abbrev s_v_in : List UInt8 := [105, 110]
abbrev s_inst : List UInt8 := [105, 110, 115, 116]
abbrev s_quantum : List UInt8 := [113, 117, 97, 110, 116, 117, 109]
abbrev s_ext : List UInt8 := [101, 120, 116]
abbrev s_prio : List UInt8 := [112, 114, 105, 111]
abbrev s_chan : List UInt8 := [99, 104, 97, 110]
abbrev s_cap : List UInt8 := [99, 97, 112]
abbrev s_cert : List UInt8 := [99, 101, 114, 116]
abbrev s_insts : List UInt8 := [105, 110, 115, 116, 115]
abbrev s_chans : List UInt8 := [99, 104, 97, 110, 115]
abbrev s_cell : List UInt8 := [99, 101, 108, 108]
abbrev s_off : List UInt8 := [111, 102, 102]
abbrev s_v____ : List UInt8 := [61, 61]
abbrev s_v_____ : List UInt8 := [33, 61]
abbrev s_v______ : List UInt8 := [60, 61]
abbrev s_v_______ : List UInt8 := [62, 61]
abbrev s_v________ : List UInt8 := [38, 38]
abbrev s_v_________ : List UInt8 := [124, 124]
abbrev s_v_0123456789 : List UInt8 := [48, 49, 50, 51, 52, 53, 54, 55, 56, 57]
abbrev s_v_0 : List UInt8 := [48]
abbrev s_v_9223372036854775808 : List UInt8 := [57, 50, 50, 51, 51, 55, 50, 48, 51, 54, 56, 53, 52, 55, 55, 53, 56, 48, 56]
abbrev arr_0 : List UInt8 × List UInt8 × List UInt8 × List UInt8 × List UInt8 × List UInt8 × List UInt8 := (s_v___, s_v____, s_v_____, s_v______, s_v_______, s_v________, s_v_________)
abbrev arr_1 : List UInt8 × List UInt8 × List UInt8 × List UInt8 × List UInt8 × List UInt8 × List UInt8 × List UInt8 × List UInt8 × List UInt8 × List UInt8 × List UInt8 × List UInt8 × List UInt8 × List UInt8 × List UInt8 × List UInt8 × List UInt8 × List UInt8 × List UInt8 × List UInt8 × List UInt8 × List UInt8 × List UInt8 × List UInt8 × List UInt8 × List UInt8 × List UInt8 × List UInt8 × List UInt8 × List UInt8 × List UInt8 × List UInt8 × List UInt8 × List UInt8 := (s_system, s_age, s_chart, s_steps, s_fuel, s_var, s_port, s_timer, s_state, s_parallel, s_history, s_deep, s_entry, s_exit, s_on, s_auto, s_raise, s_send, s_arm, s_cancel, s_v_if, s_v_else, s_loop, s_v_in, s_inst, s_quantum, s_ext, s_prio, s_chan, s_cap, s_cert, s_insts, s_chans, s_cell, s_off)
end Go.Sy.Lx
/-! Three callees of lex by their contracts. -/
namespace Go.Sy.Lx
open Go.Sy Go.Proofs
theorem chg_of {w w' : World} {M : St} (h : RowKit.Below w.heap.size w w') : Chg w w' M := by
  obtain ⟨a, b, c, d, e⟩ := h
  exact ⟨a, b, c, d, fun k hk _ => e k hk, fun k o hk _ => cell_of_heap (e k hk), fun k o hk hs => by rw [cell_of_heap (e k hk)]; exact hs, fun k o hk => frz_of_heap (e k hk)⟩
theorem noSplit : SplitSt (fun _ _ => False) (fun _ _ => False) (fun _ _ => False) := ⟨fun _ _ => ⟨fun h => h.elim, fun h => h.elim id id⟩, fun _ _ h _ => h⟩
theorem glob_at {w : World} {M : St} (h : Glob S w M) : (∃ m, w.cell? ⟨0, 0, none⟩ = some (.int .i64 m)) ∧ (∃ e, w.cell? ⟨1, 0, none⟩ = some e ∧ (e = .nilIface ∨ ∃ t p, e = .iface t p)) ∧ ∃ e, w.cell? ⟨2, 0, none⟩ = some e ∧ (e = .nilIface ∨ ∃ t p, e = .iface t p) := by
  obtain ⟨_, _, v0, c0, m, rfl⟩ := h (0, fun v => ∃ m, v = .int .i64 m) (by simp)
  obtain ⟨_, _, v1, c1, p1⟩ := h (1, fun v => v = .nilIface ∨ ∃ t p, v = .iface t p) (by simp)
  obtain ⟨_, _, v2, c2, p2⟩ := h (2, fun v => v = .nilIface ∨ ∃ t p, v = .iface t p) (by simp)
  exact ⟨⟨m, c0⟩, ⟨v1, c1, p1⟩, v2, c2, p2⟩
noncomputable def p_IndexByte (s : List UInt8) (c : Int) : Option Int := some (Lib.indexByte s c.toNat.toUInt8)
noncomputable def p_Contains (s sub : List UInt8) : Option Bool := if s.length < 4294967281 then some (Lib.contains s sub) else none
noncomputable def p_number (l : List UInt8) : Option (Int × Int) := if l.length ≤ 281474976710656 then some (numOf l) else none
theorem str_len (l : List UInt8) : (⟨l.toArray⟩ : ByteArray).size = l.length := by show l.toArray.size = _; simp
theorem p_IndexByte_snd29 : Snd Tryd.prog S ⟨29, [.val (.data .str), .val (.data (.int .u8))], [.val (.data (.int .i64))], fun x => p_IndexByte x.1 x.2⟩ := by
  refine ⟨⟨Tryd.f29, Tryd.func29, by kernel_rfl, by kernel_rfl⟩, fun w s M x args r hx hs hG hr => ?_⟩
  obtain ⟨M1, M2, v, rr, _, rfl, ⟨⟨_, n, h1⟩, h2⟩, M3, M4, v', rr', _, rfl, ⟨⟨_, n', h3⟩, h4⟩, _, rfl⟩ := hx
  have hv := RepV_str (w := w) (s := s) ⟨h2, n, h1⟩
  have hv' := RepV_int (w := w) (s := s) ⟨h4, n', h3⟩
  subst hv hv'
  cases hr
  refine (Tryd.c_IndexByte _ _ w).mono ?_
  rintro e w' ⟨rfl, rfl⟩
  refine ⟨[.int .i64 _], fun _ _ => False, fun _ _ => False, rfl, Chg.refl _ _, ⟨_, _, _, _, noSplit, rfl, ⟨⟨fun _ _ h => h, 1, rfl⟩, rfl⟩, fun _ _ h => h, rfl⟩, fun _ _ h => h.elim, fun _ _ h => h.elim⟩
theorem p_Contains_snd45 : Snd Tryd.prog S ⟨45, [.val (.data .str), .val (.data .str)], [.val (.data .bool)], fun x => p_Contains x.1 x.2⟩ := by
  refine ⟨⟨Tryd.f45, Tryd.func45, by kernel_rfl, by kernel_rfl⟩, fun w s M x args r hx hs hG hr => ?_⟩
  obtain ⟨M1, M2, v, rr, _, rfl, ⟨⟨_, n, h1⟩, h2⟩, M3, M4, v', rr', _, rfl, ⟨⟨_, n', h3⟩, h4⟩, _, rfl⟩ := hx
  have hv := RepV_str (w := w) (s := s) ⟨h2, n, h1⟩
  have hv' := RepV_str (w := w) (s := s) ⟨h4, n', h3⟩
  subst hv hv'
  obtain ⟨⟨m, hm⟩, _⟩ := glob_at hG
  have hr : p_Contains x.1 x.2 = some r := hr
  unfold p_Contains at hr
  split at hr
  · rename_i hl
    cases hr
    refine (Any.strings_Contains Tryd.laysCo ⟨x.1.toArray⟩ ⟨x.2.toArray⟩ m w (Nat.lt_of_le_of_lt (Nat.le_of_eq (str_len _)) hl) hm).mono ?_
    rintro e w' ⟨rfl, rfl⟩
    refine ⟨[.bool _], fun _ _ => False, fun _ _ => False, rfl, Chg.refl _ _, ⟨_, _, _, _, noSplit, rfl, ⟨⟨fun _ _ h => h, 1, ?_⟩, rfl⟩, fun _ _ h => h, rfl⟩, fun _ _ h => h.elim, fun _ _ h => h.elim⟩
    rfl
  · cases hr
theorem p_number_snd30 : Snd Tryd.prog S ⟨30, [.val (.data .str)], [.val (.data (.int .i64)), .val (.data (.int .i64))], fun x => p_number x⟩ := by
  refine ⟨⟨Tryd.f30, Tryd.func30, by kernel_rfl, by kernel_rfl⟩, fun w s M x args r hx hs hG hr => ?_⟩
  obtain ⟨M1, M2, v, rr, _, rfl, ⟨⟨_, n, h1⟩, h2⟩, _, rfl⟩ := hx
  have hv := RepV_str (w := w) (s := s) ⟨h2, n, h1⟩
  subst hv
  obtain ⟨_, ⟨e1, c1, k1⟩, e2, c2, k2⟩ := glob_at hG
  have hr : p_number x = some r := hr
  unfold p_number at hr
  split at hr
  · rename_i hl
    cases hr
    refine (number_calls ⟨x.toArray⟩ w (Nat.le_trans (Nat.le_of_eq (str_len _)) hl) e1 e2 c1 c2 k1 k2).mono ?_
    rintro e w' ⟨rfl, hb⟩
    refine ⟨[.int .i64 _, .int .i64 _], fun _ _ => False, fun _ _ => False, rfl, chg_of hb, ⟨_, _, _, _, noSplit, rfl, ⟨⟨fun _ _ h => h, 1, ?_⟩, rfl⟩, _, _, _, _, noSplit, rfl, ⟨⟨fun _ _ h => h, 1, ?_⟩, rfl⟩, fun _ _ h => h, rfl⟩, fun _ _ h => h.elim, fun _ _ h => h.elim⟩
    · rfl
    · rfl
  · cases hr
end Go.Sy.Lx
set_option maxRecDepth 100000
namespace Go.Sy.Lx
open Go.Sy Go.Proofs
/-! ### 19 cotillion/lex.skip -/
mutual
noncomputable def lex_skip_l0 : Nat → (List UInt8) → Int → Option Int
  | 0, _, _ => none
  | k + 1, text, v_at => if v_at < (text.length : Int) then
    if 0 ≤ v_at then
    if v_at < (text.length : Int) then
    (p_IndexByte s_v ((text.getD v_at.toNat 0).toNat : Int)).bind fun r1 =>
    if 0 ≤ r1 then
    lex_skip_l0 k text (w64 (v_at + 1)) else
    if 0 ≤ v_at then
    if v_at < (text.length : Int) then
    if ((text.getD v_at.toNat 0).toNat : Int) = 35 then
    lex_skip_l1 k text v_at else
    some v_at else none else none else none else none else
    some v_at
noncomputable def lex_skip_l1 : Nat → (List UInt8) → Int → Option Int
  | 0, _, _ => none
  | k + 1, text, v_at => if v_at < (text.length : Int) then
    if 0 ≤ v_at then
    if v_at < (text.length : Int) then
    if ((text.getD v_at.toNat 0).toNat : Int) ≠ 10 then
    lex_skip_l1 k text (w64 (v_at + 1)) else
    lex_skip_l0 k text v_at else none else none else
    lex_skip_l0 k text v_at
end
noncomputable def lex_skip_f (k : Nat) (text : List UInt8) (v_at : Int) : Option Int := lex_skip_l0 k text v_at
noncomputable def lex_skip (text : List UInt8) (v_at : Int) : Option Int := lim (fun k (x : List UInt8 × Int) => lex_skip_f k x.1 x.2) (text, v_at)
noncomputable abbrev lex_skip_T : Tab S := ⟨[⟨29, [.val (.data .str), .val (.data (.int .u8))], [.val (.data (.int .i64))], fun x => p_IndexByte x.1 x.2⟩], [], false, false⟩
noncomputable def lex_skip_L (k : Nat) : Nat → List (Lab S Int)
  | 0 => [⟨[0, 1], [.val (.data .str), .val (.data (.int .i64))], fun x => lex_skip_l0 k x.1 x.2⟩]
  | 1 => []
  | 2 => [⟨[0, 1], [.val (.data .str), .val (.data (.int .i64))], fun x => lex_skip_l1 k x.1 x.2⟩]
  | _ + 3 => []
theorem lex_skip_eq (k : Nat) (text : List UInt8) (v_at : Int) : lex_skip_f k text v_at = exec S (lex_skip_T) byt (labs S (lex_skip_T) (lex_skip_L k)) (ac [] Tryd.f19) (frame0 S [.val (.data .str), .val (.data (.int .i64))] (text, v_at)) (retK S (lex_skip_T) Tryd.f19 [.val (.data .str), .val (.data (.int .i64))] [.val (.data (.int .i64))]) := by kernel_rfl
theorem lex_skip_vc (k : Nat) : VC S (lex_skip_T) byt (lex_skip_L k) (lex_skip_L (k + 1)) (ac [] Tryd.f19) (retK S (lex_skip_T) Tryd.f19 [.val (.data .str), .val (.data (.int .i64))] [.val (.data (.int .i64))]) = [∀ x : List UInt8 × Int, lex_skip_l1 (k + 1) x.1 x.2 = lex_skip_l1 (k + 1) x.1 x.2, ∀ x : List UInt8 × Int, lex_skip_l0 (k + 1) x.1 x.2 = lex_skip_l0 (k + 1) x.1 x.2] := by kernel_rfl
theorem lex_skip_sndk (k : Nat) : Snd Tryd.prog S ⟨19, [.val (.data .str), .val (.data (.int .i64))], [.val (.data (.int .i64))], fun x => lex_skip_f k x.1 x.2⟩ :=
  fn_ok progOk (T := (lex_skip_T)) (all_cons p_IndexByte_snd29 (all_nil)) (all_nil) mixed Tryd.func19 rfl (by kernel_rfl) (ac_code [] Tryd.f19 rfl) (L := lex_skip_L)
    (fun n l h x => by match n, h with
        | 0, h => 
          rcases List.mem_cons.1 h with rfl | h
          · rfl
          cases h
        | 1, h => cases h
        | 2, h => 
          rcases List.mem_cons.1 h with rfl | h
          · rfl
          cases h
        | _ + 3, h => cases h) (fun k n l h => by match n, h with
        | 0, h => 
          rcases List.mem_cons.1 h with rfl | h
          · rfl
          cases h
        | 1, h => cases h
        | 2, h => 
          rcases List.mem_cons.1 h with rfl | h
          · rfl
          cases h
        | _ + 3, h => cases h)
    (fun k => All.mem (lex_skip_vc k) ⟨fun _ => rfl, ⟨fun _ => rfl, trivial⟩⟩) (fun x r h => ⟨k, (lex_skip_eq k x.1 x.2).symm.trans h⟩) (by kernel_rfl) (by kernel_rfl) (Nat.le_of_ble_eq_true (by kernel_rfl))
theorem lex_skip_snd : Snd Tryd.prog S ⟨19, [.val (.data .str), .val (.data (.int .i64))], [.val (.data (.int .i64))], fun x => lex_skip x.1 x.2⟩ := Snd.lim lex_skip_sndk
/-! ### 23 cotillion/lex.kind -/
noncomputable def lex_kind  (c : Int) : Option (Bool × Bool) := if 48 ≤ c then
    if c ≤ 57 then
    some (true, true) else
    if 97 ≤ c then
    if c ≤ 122 then
    if c ≤ 122 then
    some (true, false) else
    some (false, false) else
    if 65 ≤ c then
    if c ≤ 90 then
    if c ≤ 90 then
    some (true, false) else
    some (false, false) else
    if c = 95 then
    some (true, false) else
    some (false, false) else
    if c = 95 then
    some (true, false) else
    some (false, false) else
    if 65 ≤ c then
    if c ≤ 90 then
    if c ≤ 90 then
    some (true, false) else
    some (false, false) else
    if c = 95 then
    some (true, false) else
    some (false, false) else
    if c = 95 then
    some (true, false) else
    some (false, false) else
    if 97 ≤ c then
    if c ≤ 122 then
    if c ≤ 122 then
    some (true, false) else
    some (false, false) else
    if 65 ≤ c then
    if c ≤ 90 then
    if c ≤ 90 then
    some (true, false) else
    some (false, false) else
    if c = 95 then
    some (true, false) else
    some (false, false) else
    if c = 95 then
    some (true, false) else
    some (false, false) else
    if 65 ≤ c then
    if c ≤ 90 then
    if c ≤ 90 then
    some (true, false) else
    some (false, false) else
    if c = 95 then
    some (true, false) else
    some (false, false) else
    if c = 95 then
    some (true, false) else
    some (false, false)
noncomputable abbrev lex_kind_T : Tab S := ⟨[], [], false, false⟩
noncomputable def lex_kind_L (k : Nat) : Nat → List (Lab S (Bool × Bool))
  | _ => []
theorem lex_kind_eq (k : Nat) (c : Int) : lex_kind c = exec S (lex_kind_T) byt (labs S (lex_kind_T) (lex_kind_L k)) (ac [] Tryd.f23) (frame0 S [.val (.data (.int .u8))] c) (retK S (lex_kind_T) Tryd.f23 [.val (.data (.int .u8))] [.val (.data .bool), .val (.data .bool)]) := by kernel_rfl
theorem lex_kind_vc (k : Nat) : VC S (lex_kind_T) byt (lex_kind_L k) (lex_kind_L (k + 1)) (ac [] Tryd.f23) (retK S (lex_kind_T) Tryd.f23 [.val (.data (.int .u8))] [.val (.data .bool), .val (.data .bool)]) = [] := by kernel_rfl
theorem lex_kind_snd : Snd Tryd.prog S ⟨23, [.val (.data (.int .u8))], [.val (.data .bool), .val (.data .bool)], fun x => lex_kind x⟩ :=
  fn_ok progOk (T := (lex_kind_T)) (all_nil) (all_nil) mixed Tryd.func23 rfl (by kernel_rfl) (ac_code [] Tryd.f23 rfl) (L := lex_kind_L)
    (fun n l h x => by cases h) (fun k n l h => by cases h)
    (fun k => All.mem (lex_kind_vc k) trivial) (fun x r h => ⟨0, (lex_kind_eq 0 x).symm.trans h⟩) (by kernel_rfl) (by kernel_rfl) (Nat.le_of_ble_eq_true (by kernel_rfl))
/-! ### 24 cotillion/lex.end -/
noncomputable def lex_end_l0 : Nat → (List UInt8) → Int → Bool → Option Int
  | 0, _, _, _ => none
  | k + 1, text, v_at, number => if v_at < (text.length : Int) then
    if 0 ≤ v_at then
    if v_at < (text.length : Int) then
    (lex_kind ((text.getD v_at.toNat 0).toNat : Int)).bind fun r2 =>
    bif !r2.1 then
    some v_at else
    bif number then
    bif !r2.2 then
    some v_at else
    lex_end_l0 k text (w64 (v_at + 1)) number else
    lex_end_l0 k text (w64 (v_at + 1)) number else none else none else
    some v_at
noncomputable def lex_end_f (k : Nat) (text : List UInt8) (v_at : Int) : Option Int := if 0 ≤ v_at then
    if v_at < (text.length : Int) then
    (lex_kind ((text.getD v_at.toNat 0).toNat : Int)).bind fun r1 =>
    lex_end_l0 k text v_at r1.2 else none else none
noncomputable def lex_end (text : List UInt8) (v_at : Int) : Option Int := lim (fun k (x : List UInt8 × Int) => lex_end_f k x.1 x.2) (text, v_at)
noncomputable abbrev lex_end_T : Tab S := ⟨[⟨23, [.val (.data (.int .u8))], [.val (.data .bool), .val (.data .bool)], fun x => lex_kind x⟩], [], false, false⟩
noncomputable def lex_end_L (k : Nat) : Nat → List (Lab S Int)
  | 0 => [⟨[0, 1, 6], [.val (.data .str), .val (.data (.int .i64)), .val (.data .bool)], fun x => lex_end_l0 k x.1 x.2.1 x.2.2⟩]
  | _ + 1 => []
theorem lex_end_eq (k : Nat) (text : List UInt8) (v_at : Int) : lex_end_f k text v_at = exec S (lex_end_T) byt (labs S (lex_end_T) (lex_end_L k)) (ac [] Tryd.f24) (frame0 S [.val (.data .str), .val (.data (.int .i64))] (text, v_at)) (retK S (lex_end_T) Tryd.f24 [.val (.data .str), .val (.data (.int .i64))] [.val (.data (.int .i64))]) := by kernel_rfl
theorem lex_end_vc (k : Nat) : VC S (lex_end_T) byt (lex_end_L k) (lex_end_L (k + 1)) (ac [] Tryd.f24) (retK S (lex_end_T) Tryd.f24 [.val (.data .str), .val (.data (.int .i64))] [.val (.data (.int .i64))]) = [∀ x : List UInt8 × Int × Bool, lex_end_l0 (k + 1) x.1 x.2.1 x.2.2 = lex_end_l0 (k + 1) x.1 x.2.1 x.2.2] := by kernel_rfl
theorem lex_end_sndk (k : Nat) : Snd Tryd.prog S ⟨24, [.val (.data .str), .val (.data (.int .i64))], [.val (.data (.int .i64))], fun x => lex_end_f k x.1 x.2⟩ :=
  fn_ok progOk (T := (lex_end_T)) (all_cons lex_kind_snd (all_nil)) (all_nil) mixed Tryd.func24 rfl (by kernel_rfl) (ac_code [] Tryd.f24 rfl) (L := lex_end_L)
    (fun n l h x => by match n, h with
        | 0, h => 
          rcases List.mem_cons.1 h with rfl | h
          · rfl
          cases h
        | _ + 1, h => cases h) (fun k n l h => by match n, h with
        | 0, h => 
          rcases List.mem_cons.1 h with rfl | h
          · rfl
          cases h
        | _ + 1, h => cases h)
    (fun k => All.mem (lex_end_vc k) ⟨fun _ => rfl, trivial⟩) (fun x r h => ⟨k, (lex_end_eq k x.1 x.2).symm.trans h⟩) (by kernel_rfl) (by kernel_rfl) (Nat.le_of_ble_eq_true (by kernel_rfl))
theorem lex_end_snd : Snd Tryd.prog S ⟨24, [.val (.data .str), .val (.data (.int .i64))], [.val (.data (.int .i64))], fun x => lex_end x.1 x.2⟩ := Snd.lim lex_end_sndk
/-! ### 31 cotillion/lex.sign -/
noncomputable def lex_sign  (text : List UInt8) (v_at : Int) : Option Int := if (w64 (v_at + 1)) < (text.length : Int) then
    if 0 ≤ (w64 (v_at + 1)) then
    if (w64 (v_at + 1)) < (text.length : Int) then
    if ((text.getD (w64 (v_at + 1)).toNat 0).toNat : Int) ≠ 32 then
    if 0 ≤ (w64 (v_at + 2)) then
    if (w64 (v_at + 2)) ≤ (text.length : Int) then
    if 0 ≤ v_at then
    if v_at ≤ (w64 (v_at + 2)) then
    (p_Contains s_v_ (cut text v_at (w64 (v_at + 2)))).bind fun r1 =>
    bif r1 then
    some (w64 (v_at + 2)) else
    if 0 ≤ v_at then
    if v_at < (text.length : Int) then
    (p_IndexByte s_v__ ((text.getD v_at.toNat 0).toNat : Int)).bind fun r2 =>
    if 0 ≤ r2 then
    some (w64 (v_at + 1)) else
    some v_at else none else none else none else none else none else none else
    if 0 ≤ v_at then
    if v_at < (text.length : Int) then
    (p_IndexByte s_v__ ((text.getD v_at.toNat 0).toNat : Int)).bind fun r3 =>
    if 0 ≤ r3 then
    some (w64 (v_at + 1)) else
    some v_at else none else none else none else none else
    if 0 ≤ v_at then
    if v_at < (text.length : Int) then
    (p_IndexByte s_v__ ((text.getD v_at.toNat 0).toNat : Int)).bind fun r4 =>
    if 0 ≤ r4 then
    some (w64 (v_at + 1)) else
    some v_at else none else none
noncomputable abbrev lex_sign_T : Tab S := ⟨[⟨45, [.val (.data .str), .val (.data .str)], [.val (.data .bool)], fun x => p_Contains x.1 x.2⟩, ⟨29, [.val (.data .str), .val (.data (.int .u8))], [.val (.data (.int .i64))], fun x => p_IndexByte x.1 x.2⟩], [], false, false⟩
noncomputable def lex_sign_L (k : Nat) : Nat → List (Lab S Int)
  | _ => []
theorem lex_sign_eq (k : Nat) (text : List UInt8) (v_at : Int) : lex_sign text v_at = exec S (lex_sign_T) byt (labs S (lex_sign_T) (lex_sign_L k)) (ac [] Tryd.f31) (frame0 S [.val (.data .str), .val (.data (.int .i64))] (text, v_at)) (retK S (lex_sign_T) Tryd.f31 [.val (.data .str), .val (.data (.int .i64))] [.val (.data (.int .i64))]) := by kernel_rfl
theorem lex_sign_vc (k : Nat) : VC S (lex_sign_T) byt (lex_sign_L k) (lex_sign_L (k + 1)) (ac [] Tryd.f31) (retK S (lex_sign_T) Tryd.f31 [.val (.data .str), .val (.data (.int .i64))] [.val (.data (.int .i64))]) = [] := by kernel_rfl
theorem lex_sign_snd : Snd Tryd.prog S ⟨31, [.val (.data .str), .val (.data (.int .i64))], [.val (.data (.int .i64))], fun x => lex_sign x.1 x.2⟩ :=
  fn_ok progOk (T := (lex_sign_T)) (all_cons p_Contains_snd45 (all_cons p_IndexByte_snd29 (all_nil))) (all_nil) mixed Tryd.func31 rfl (by kernel_rfl) (ac_code [] Tryd.f31 rfl) (L := lex_sign_L)
    (fun n l h x => by cases h) (fun k n l h => by cases h)
    (fun k => All.mem (lex_sign_vc k) trivial) (fun x r h => ⟨0, (lex_sign_eq 0 x.1 x.2).symm.trans h⟩) (by kernel_rfl) (by kernel_rfl) (Nat.le_of_ble_eq_true (by kernel_rfl))
/-! ### 20 cotillion/lex.token -/
noncomputable def lex_token  (text : List UInt8) (v_at : Int) : Option (api_Token × Int) := if 0 ≤ v_at then
    if v_at < (text.length : Int) then
    (lex_kind ((text.getD v_at.toNat 0).toNat : Int)).bind fun r1 =>
    bif r1.2 then
    (lex_end text v_at).bind fun r2 =>
    if 0 ≤ r2 then
    if r2 ≤ (text.length : Int) then
    if 0 ≤ v_at then
    if v_at ≤ r2 then
    (p_number (cut text v_at r2)).bind fun r3 =>
    if r3.2 ≠ 0 then
    some (api_Token.mk 0 0 0 [] 0, r3.2) else
    if 0 ≤ r2 then
    if r2 ≤ (text.length : Int) then
    if 0 ≤ v_at then
    if v_at ≤ r2 then
    some (api_Token.mk 2 v_at r2 (cut text v_at r2) r3.1, 0) else none else none else none else none else none else none else none else none else
    bif r1.1 then
    (lex_end text v_at).bind fun r4 =>
    if 24 < (w64 (r4 - v_at)) then
    some (api_Token.mk 0 0 0 [] 0, 13) else
    if 0 ≤ r4 then
    if r4 ≤ (text.length : Int) then
    if 0 ≤ v_at then
    if v_at ≤ r4 then
    some (api_Token.mk 1 v_at r4 (cut text v_at r4) 0, 0) else none else none else none else none else
    (lex_sign text v_at).bind fun r5 =>
    if r5 = v_at then
    some (api_Token.mk 0 0 0 [] 0, 10) else
    if 0 ≤ r5 then
    if r5 ≤ (text.length : Int) then
    if 0 ≤ v_at then
    if v_at ≤ r5 then
    some (api_Token.mk 3 v_at r5 (cut text v_at r5) 0, 0) else none else none else none else none else none else none
noncomputable abbrev lex_token_T : Tab S := ⟨[⟨23, [.val (.data (.int .u8))], [.val (.data .bool), .val (.data .bool)], fun x => lex_kind x⟩, ⟨24, [.val (.data .str), .val (.data (.int .i64))], [.val (.data (.int .i64))], fun x => lex_end x.1 x.2⟩, ⟨30, [.val (.data .str)], [.val (.data (.int .i64)), .val (.data (.int .i64))], fun x => p_number x⟩, ⟨31, [.val (.data .str), .val (.data (.int .i64))], [.val (.data (.int .i64))], fun x => lex_sign x.1 x.2⟩], [], false, false⟩
noncomputable def lex_token_L (k : Nat) : Nat → List (Lab S (api_Token × Int))
  | _ => []
theorem lex_token_eq (k : Nat) (text : List UInt8) (v_at : Int) : lex_token text v_at = exec S (lex_token_T) byt (labs S (lex_token_T) (lex_token_L k)) (ac [] Tryd.f20) (frame0 S [.val (.data .str), .val (.data (.int .i64))] (text, v_at)) (retK S (lex_token_T) Tryd.f20 [.val (.data .str), .val (.data (.int .i64))] [.val (.data (.st 0)), .val (.data (.int .i64))]) := by kernel_rfl
theorem lex_token_vc (k : Nat) : VC S (lex_token_T) byt (lex_token_L k) (lex_token_L (k + 1)) (ac [] Tryd.f20) (retK S (lex_token_T) Tryd.f20 [.val (.data .str), .val (.data (.int .i64))] [.val (.data (.st 0)), .val (.data (.int .i64))]) = [] := by kernel_rfl
theorem lex_token_snd : Snd Tryd.prog S ⟨20, [.val (.data .str), .val (.data (.int .i64))], [.val (.data (.st 0)), .val (.data (.int .i64))], fun x => lex_token x.1 x.2⟩ :=
  fn_ok progOk (T := (lex_token_T)) (all_cons lex_kind_snd (all_cons lex_end_snd (all_cons p_number_snd30 (all_cons lex_sign_snd (all_nil))))) (all_nil) mixed Tryd.func20 rfl (by kernel_rfl) (ac_code [] Tryd.f20 rfl) (L := lex_token_L)
    (fun n l h x => by cases h) (fun k n l h => by cases h)
    (fun k => All.mem (lex_token_vc k) trivial) (fun x r h => ⟨0, (lex_token_eq 0 x.1 x.2).symm.trans h⟩) (by kernel_rfl) (by kernel_rfl) (Nat.le_of_ble_eq_true (by kernel_rfl))
/-! ### 9 cotillion/lex.All -/
noncomputable def lex_All_l0 : Nat → (List UInt8) → Int → Int → (List api_Token) → Int → Option (List api_Token × api_Fault)
  | 0, _, _, _, _, _ => none
  | k + 1, text, x3_Code, x3_At, l, v_at => if v_at < (text.length : Int) then
    (lex_token text v_at).bind fun r2 =>
    if r2.2 ≠ 0 then
    some ([], api_Fault.mk r2.2 v_at) else
    if (l.length + [r2.1].length) * 48 ≤ 140737488355328 then
    (lex_skip text r2.1.End).bind fun r3 =>
    lex_All_l0 k text x3_Code x3_At (l ++ [r2.1]) r3 else none else
    if (l.length + [api_Token.mk 4 v_at v_at [] 0].length) * 48 ≤ 140737488355328 then
    some (l ++ [api_Token.mk 4 v_at v_at [] 0], api_Fault.mk 0 0) else none
noncomputable def lex_All_f (k : Nat) (text : List UInt8) : Option (List api_Token × api_Fault) := if 16384 < (text.length : Int) then
    some ([], api_Fault.mk 13 16384) else
    (lex_skip text 0).bind fun r1 =>
    lex_All_l0 k text 0 0 [] r1
noncomputable def lex_All (text : List UInt8) : Option (List api_Token × api_Fault) := lim (fun k (x : List UInt8) => lex_All_f k x) text
noncomputable abbrev lex_All_T : Tab S := ⟨[⟨19, [.val (.data .str), .val (.data (.int .i64))], [.val (.data (.int .i64))], fun x => lex_skip x.1 x.2⟩, ⟨20, [.val (.data .str), .val (.data (.int .i64))], [.val (.data (.st 0)), .val (.data (.int .i64))], fun x => lex_token x.1 x.2⟩], [], false, false⟩
noncomputable def lex_All_L (k : Nat) : Nat → List (Lab S (List api_Token × api_Fault))
  | 0 => [⟨[0, 3, 4, 5], [.val (.data .str), .obj [.data (.int .i64), .data (.int .i64)], .val (.town (.st 0)), .val (.data (.int .i64))], fun x => lex_All_l0 k x.1 x.2.1.1 x.2.1.2 x.2.2.1 x.2.2.2⟩]
  | _ + 1 => []
theorem lex_All_eq (k : Nat) (text : List UInt8) : lex_All_f k text = exec S (lex_All_T) byt (labs S (lex_All_T) (lex_All_L k)) (ac [] Tryd.f9) (frame0 S [.val (.data .str)] text) (retK S (lex_All_T) Tryd.f9 [.val (.data .str)] [.val (.town (.st 0)), .val (.data (.st 1))]) := by kernel_rfl
theorem lex_All_vc (k : Nat) : VC S (lex_All_T) byt (lex_All_L k) (lex_All_L (k + 1)) (ac [] Tryd.f9) (retK S (lex_All_T) Tryd.f9 [.val (.data .str)] [.val (.town (.st 0)), .val (.data (.st 1))]) = [∀ x : List UInt8 × (Int × Int) × List api_Token × Int, lex_All_l0 (k + 1) x.1 x.2.1.1 x.2.1.2 x.2.2.1 x.2.2.2 = lex_All_l0 (k + 1) x.1 x.2.1.1 x.2.1.2 x.2.2.1 x.2.2.2] := by kernel_rfl
theorem lex_All_sndk (k : Nat) : Snd Tryd.prog S ⟨9, [.val (.data .str)], [.val (.town (.st 0)), .val (.data (.st 1))], fun x => lex_All_f k x⟩ :=
  fn_ok progOk (T := (lex_All_T)) (all_cons lex_skip_snd (all_cons lex_token_snd (all_nil))) (all_nil) mixed Tryd.func9 rfl (by kernel_rfl) (ac_code [] Tryd.f9 rfl) (L := lex_All_L)
    (fun n l h x => by match n, h with
        | 0, h => 
          rcases List.mem_cons.1 h with rfl | h
          · rfl
          cases h
        | _ + 1, h => cases h) (fun k n l h => by match n, h with
        | 0, h => 
          rcases List.mem_cons.1 h with rfl | h
          · rfl
          cases h
        | _ + 1, h => cases h)
    (fun k => All.mem (lex_All_vc k) ⟨fun _ => rfl, trivial⟩) (fun x r h => ⟨k, (lex_All_eq k x).symm.trans h⟩) (by kernel_rfl) (by kernel_rfl) (Nat.le_of_ble_eq_true (by kernel_rfl))
theorem lex_All_snd : Snd Tryd.prog S ⟨9, [.val (.data .str)], [.val (.town (.st 0)), .val (.data (.st 1))], fun x => lex_All x⟩ := Snd.lim lex_All_sndk
/-! ### 14 cotillion/lex.Reserved -/
noncomputable def lex_Reserved  (s : List UInt8) : Option Bool := if s = s_system then
    if s = s_system then
    some true else
    some false else
    if s = s_age then
    if s = s_age then
    some true else
    some false else
    if s = s_chart then
    if s = s_chart then
    some true else
    some false else
    if s = s_steps then
    if s = s_steps then
    some true else
    some false else
    if s = s_fuel then
    if s = s_fuel then
    some true else
    some false else
    if s = s_var then
    if s = s_var then
    some true else
    some false else
    if s = s_port then
    if s = s_port then
    some true else
    some false else
    if s = s_timer then
    if s = s_timer then
    some true else
    some false else
    if s = s_state then
    if s = s_state then
    some true else
    some false else
    if s = s_parallel then
    if s = s_parallel then
    some true else
    some false else
    if s = s_history then
    if s = s_history then
    some true else
    some false else
    if s = s_deep then
    if s = s_deep then
    some true else
    some false else
    if s = s_entry then
    if s = s_entry then
    some true else
    some false else
    if s = s_exit then
    if s = s_exit then
    some true else
    some false else
    if s = s_on then
    if s = s_on then
    some true else
    some false else
    if s = s_auto then
    if s = s_auto then
    some true else
    some false else
    if s = s_raise then
    if s = s_raise then
    some true else
    some false else
    if s = s_send then
    if s = s_send then
    some true else
    some false else
    if s = s_arm then
    if s = s_arm then
    some true else
    some false else
    if s = s_cancel then
    if s = s_cancel then
    some true else
    some false else
    if s = s_v_if then
    if s = s_v_if then
    some true else
    some false else
    if s = s_v_else then
    if s = s_v_else then
    some true else
    some false else
    if s = s_loop then
    if s = s_loop then
    some true else
    some false else
    if s = s_v_in then
    if s = s_v_in then
    some true else
    some false else
    if s = s_inst then
    if s = s_inst then
    some true else
    some false else
    if s = s_quantum then
    if s = s_quantum then
    some true else
    some false else
    if s = s_ext then
    if s = s_ext then
    some true else
    some false else
    if s = s_prio then
    if s = s_prio then
    some true else
    some false else
    if s = s_chan then
    if s = s_chan then
    some true else
    some false else
    if s = s_cap then
    if s = s_cap then
    some true else
    some false else
    if s = s_cert then
    if s = s_cert then
    some true else
    some false else
    if s = s_insts then
    if s = s_insts then
    some true else
    some false else
    if s = s_chans then
    if s = s_chans then
    some true else
    some false else
    if s = s_cell then
    if s = s_cell then
    some true else
    some false else
    if s = s_off then
    some true else
    some false
noncomputable abbrev lex_Reserved_T : Tab S := ⟨[], [], false, false⟩
noncomputable def lex_Reserved_L (k : Nat) : Nat → List (Lab S Bool)
  | _ => []
theorem lex_Reserved_eq (k : Nat) (s : List UInt8) : lex_Reserved s = exec S (lex_Reserved_T) byt (labs S (lex_Reserved_T) (lex_Reserved_L k)) (ac [] Tryd.f14) (frame0 S [.val (.data .str)] s) (retK S (lex_Reserved_T) Tryd.f14 [.val (.data .str)] [.val (.data .bool)]) := by kernel_rfl
theorem lex_Reserved_vc (k : Nat) : VC S (lex_Reserved_T) byt (lex_Reserved_L k) (lex_Reserved_L (k + 1)) (ac [] Tryd.f14) (retK S (lex_Reserved_T) Tryd.f14 [.val (.data .str)] [.val (.data .bool)]) = [] := by kernel_rfl
theorem lex_Reserved_snd : Snd Tryd.prog S ⟨14, [.val (.data .str)], [.val (.data .bool)], fun x => lex_Reserved x⟩ :=
  fn_ok progOk (T := (lex_Reserved_T)) (all_nil) (all_nil) mixed Tryd.func14 rfl (by kernel_rfl) (ac_code [] Tryd.f14 rfl) (L := lex_Reserved_L)
    (fun n l h x => by cases h) (fun k n l h => by cases h)
    (fun k => All.mem (lex_Reserved_vc k) trivial) (fun x r h => ⟨0, (lex_Reserved_eq 0 x).symm.trans h⟩) (by kernel_rfl) (by kernel_rfl) (Nat.le_of_ble_eq_true (by kernel_rfl))
/-! ### 12 cotillion/lex.Name -/
noncomputable def lex_Name  (s : List UInt8) : Option Bool := if s = [] then
    some false else
    if 24 < (s.length : Int) then
    some false else
    (lex_Reserved s).bind fun r1 =>
    bif r1 then
    some false else
    if (0 : Int) ≤ 0 then
    if 0 < (s.length : Int) then
    (lex_kind ((s.getD (0 : Int).toNat 0).toNat : Int)).bind fun r2 =>
    bif !r2.2 then
    (lex_end s 0).bind fun r3 =>
    some (decide (r3 = (s.length : Int))) else
    some false else none else none
noncomputable abbrev lex_Name_T : Tab S := ⟨[⟨14, [.val (.data .str)], [.val (.data .bool)], fun x => lex_Reserved x⟩, ⟨23, [.val (.data (.int .u8))], [.val (.data .bool), .val (.data .bool)], fun x => lex_kind x⟩, ⟨24, [.val (.data .str), .val (.data (.int .i64))], [.val (.data (.int .i64))], fun x => lex_end x.1 x.2⟩], [], false, false⟩
noncomputable def lex_Name_L (k : Nat) : Nat → List (Lab S Bool)
  | _ => []
theorem lex_Name_eq (k : Nat) (s : List UInt8) : lex_Name s = exec S (lex_Name_T) byt (labs S (lex_Name_T) (lex_Name_L k)) (ac [] Tryd.f12) (frame0 S [.val (.data .str)] s) (retK S (lex_Name_T) Tryd.f12 [.val (.data .str)] [.val (.data .bool)]) := by kernel_rfl
theorem lex_Name_vc (k : Nat) : VC S (lex_Name_T) byt (lex_Name_L k) (lex_Name_L (k + 1)) (ac [] Tryd.f12) (retK S (lex_Name_T) Tryd.f12 [.val (.data .str)] [.val (.data .bool)]) = [] := by kernel_rfl
theorem lex_Name_snd : Snd Tryd.prog S ⟨12, [.val (.data .str)], [.val (.data .bool)], fun x => lex_Name x⟩ :=
  fn_ok progOk (T := (lex_Name_T)) (all_cons lex_Reserved_snd (all_cons lex_kind_snd (all_cons lex_end_snd (all_nil)))) (all_nil) mixed Tryd.func12 rfl (by kernel_rfl) (ac_code [] Tryd.f12 rfl) (L := lex_Name_L)
    (fun n l h x => by cases h) (fun k n l h => by cases h)
    (fun k => All.mem (lex_Name_vc k) trivial) (fun x r h => ⟨0, (lex_Name_eq 0 x).symm.trans h⟩) (by kernel_rfl) (by kernel_rfl) (Nat.le_of_ble_eq_true (by kernel_rfl))
/-! ### 8 cotillion/cotillionlaw6.known -/
noncomputable def law6_known  : Option Bool := (lex_All s_a_12_no).bind fun r1 =>
    (lex_All s_x_007).bind fun r2 =>
    (lex_All s_a_b).bind fun r3 =>
    if r1.2.Code = 0 then
    if (r1.1.length : Int) = 4 then
    if (0 : Int) ≤ 1 then
    if 1 < (r1.1.length : Int) then
    if ((r1.1.getD (1 : Int).toNat api_Token.z).Text) = s_v___ then
    if (0 : Int) ≤ 2 then
    if 2 < (r1.1.length : Int) then
    if ((r1.1.getD (2 : Int).toNat api_Token.z).N) = 12 then
    if (0 : Int) ≤ 3 then
    if 3 < (r1.1.length : Int) then
    if ((r1.1.getD (3 : Int).toNat api_Token.z).Kind) = 4 ∧ ((r1.1.getD (3 : Int).toNat api_Token.z).At) = 10 ∧ ((r1.1.getD (3 : Int).toNat api_Token.z).End) = 10 ∧ ((r1.1.getD (3 : Int).toNat api_Token.z).Text) = [] ∧ ((r1.1.getD (3 : Int).toNat api_Token.z).N) = 0 then
    if r2.2.Code = 11 ∧ r2.2.At = 4 then
    if r3.2.Code = 10 ∧ r3.2.At = 2 then
    (lex_Name s_go).bind fun r4 =>
    bif r4 then
    (lex_Name s_state).bind fun r5 =>
    bif !r5 then
    (lex_Reserved s_off).bind fun r6 =>
    some r6 else
    some false else
    some false else
    some false else
    some false else
    some false else none else none else
    some false else none else none else
    some false else none else none else
    some false else
    some false
noncomputable abbrev law6_known_T : Tab S := ⟨[⟨9, [.val (.data .str)], [.val (.town (.st 0)), .val (.data (.st 1))], fun x => lex_All x⟩, ⟨12, [.val (.data .str)], [.val (.data .bool)], fun x => lex_Name x⟩, ⟨14, [.val (.data .str)], [.val (.data .bool)], fun x => lex_Reserved x⟩], [], false, false⟩
noncomputable def law6_known_L (k : Nat) : Nat → List (Lab S Bool)
  | _ => []
theorem law6_known_eq (k : Nat) : law6_known = exec S (law6_known_T) byt (labs S (law6_known_T) (law6_known_L k)) (ac [] Tryd.f8) (frame0 S [] ()) (retK S (law6_known_T) Tryd.f8 [] [.val (.data .bool)]) := by kernel_rfl
theorem law6_known_vc (k : Nat) : VC S (law6_known_T) byt (law6_known_L k) (law6_known_L (k + 1)) (ac [] Tryd.f8) (retK S (law6_known_T) Tryd.f8 [] [.val (.data .bool)]) = [] := by kernel_rfl
theorem law6_known_snd : Snd Tryd.prog S ⟨8, [], [.val (.data .bool)], fun x => law6_known⟩ :=
  fn_ok progOk (T := (law6_known_T)) (all_cons lex_All_snd (all_cons lex_Name_snd (all_cons lex_Reserved_snd (all_nil)))) (all_nil) mixed Tryd.func8 rfl (by kernel_rfl) (ac_code [] Tryd.f8 rfl) (L := law6_known_L)
    (fun n l h x => by cases h) (fun k n l h => by cases h)
    (fun k => All.mem (law6_known_vc k) trivial) (fun x r h => ⟨0, (law6_known_eq 0).symm.trans h⟩) (by kernel_rfl) (by kernel_rfl) (Nat.le_of_ble_eq_true (by kernel_rfl))
/-! ### 21 cotillion/cotillionref6.skip -/
mutual
noncomputable def ref6_skip_l0 : Nat → (List UInt8) → Int → Option Int
  | 0, _, _ => none
  | k + 1, s, i => if i < (s.length : Int) then
    if 0 ≤ i then
    if i < (s.length : Int) then
    if ((s.getD i.toNat 0).toNat : Int) = 32 then
    ref6_skip_l0 k s (w64 (i + 1)) else
    if 0 ≤ i then
    if i < (s.length : Int) then
    if ((s.getD i.toNat 0).toNat : Int) = 9 then
    ref6_skip_l0 k s (w64 (i + 1)) else
    if 0 ≤ i then
    if i < (s.length : Int) then
    if ((s.getD i.toNat 0).toNat : Int) = 10 then
    ref6_skip_l0 k s (w64 (i + 1)) else
    if 0 ≤ i then
    if i < (s.length : Int) then
    if ((s.getD i.toNat 0).toNat : Int) = 13 then
    ref6_skip_l0 k s (w64 (i + 1)) else
    if 0 ≤ i then
    if i < (s.length : Int) then
    if ((s.getD i.toNat 0).toNat : Int) = 35 then
    ref6_skip_l1 k s i else
    some i else none else none else none else none else none else none else none else none else none else none else
    some i
noncomputable def ref6_skip_l1 : Nat → (List UInt8) → Int → Option Int
  | 0, _, _ => none
  | k + 1, s, i => if i < (s.length : Int) then
    if 0 ≤ i then
    if i < (s.length : Int) then
    if ((s.getD i.toNat 0).toNat : Int) ≠ 10 then
    ref6_skip_l1 k s (w64 (i + 1)) else
    ref6_skip_l0 k s i else none else none else
    ref6_skip_l0 k s i
end
noncomputable def ref6_skip_f (k : Nat) (s : List UInt8) (i : Int) : Option Int := ref6_skip_l0 k s i
noncomputable def ref6_skip (s : List UInt8) (i : Int) : Option Int := lim (fun k (x : List UInt8 × Int) => ref6_skip_f k x.1 x.2) (s, i)
noncomputable abbrev ref6_skip_T : Tab S := ⟨[], [], false, false⟩
noncomputable def ref6_skip_L (k : Nat) : Nat → List (Lab S Int)
  | 0 => [⟨[0, 1], [.val (.data .str), .val (.data (.int .i64))], fun x => ref6_skip_l0 k x.1 x.2⟩]
  | 1 => []
  | 2 => [⟨[0, 1], [.val (.data .str), .val (.data (.int .i64))], fun x => ref6_skip_l1 k x.1 x.2⟩]
  | _ + 3 => []
theorem ref6_skip_eq (k : Nat) (s : List UInt8) (i : Int) : ref6_skip_f k s i = exec S (ref6_skip_T) byt (labs S (ref6_skip_T) (ref6_skip_L k)) (ac [] Tryd.f21) (frame0 S [.val (.data .str), .val (.data (.int .i64))] (s, i)) (retK S (ref6_skip_T) Tryd.f21 [.val (.data .str), .val (.data (.int .i64))] [.val (.data (.int .i64))]) := by kernel_rfl
theorem ref6_skip_vc (k : Nat) : VC S (ref6_skip_T) byt (ref6_skip_L k) (ref6_skip_L (k + 1)) (ac [] Tryd.f21) (retK S (ref6_skip_T) Tryd.f21 [.val (.data .str), .val (.data (.int .i64))] [.val (.data (.int .i64))]) = [∀ x : List UInt8 × Int, ref6_skip_l1 (k + 1) x.1 x.2 = ref6_skip_l1 (k + 1) x.1 x.2, ∀ x : List UInt8 × Int, ref6_skip_l0 (k + 1) x.1 x.2 = ref6_skip_l0 (k + 1) x.1 x.2] := by kernel_rfl
theorem ref6_skip_sndk (k : Nat) : Snd Tryd.prog S ⟨21, [.val (.data .str), .val (.data (.int .i64))], [.val (.data (.int .i64))], fun x => ref6_skip_f k x.1 x.2⟩ :=
  fn_ok progOk (T := (ref6_skip_T)) (all_nil) (all_nil) mixed Tryd.func21 rfl (by kernel_rfl) (ac_code [] Tryd.f21 rfl) (L := ref6_skip_L)
    (fun n l h x => by match n, h with
        | 0, h => 
          rcases List.mem_cons.1 h with rfl | h
          · rfl
          cases h
        | 1, h => cases h
        | 2, h => 
          rcases List.mem_cons.1 h with rfl | h
          · rfl
          cases h
        | _ + 3, h => cases h) (fun k n l h => by match n, h with
        | 0, h => 
          rcases List.mem_cons.1 h with rfl | h
          · rfl
          cases h
        | 1, h => cases h
        | 2, h => 
          rcases List.mem_cons.1 h with rfl | h
          · rfl
          cases h
        | _ + 3, h => cases h)
    (fun k => All.mem (ref6_skip_vc k) ⟨fun _ => rfl, ⟨fun _ => rfl, trivial⟩⟩) (fun x r h => ⟨k, (ref6_skip_eq k x.1 x.2).symm.trans h⟩) (by kernel_rfl) (by kernel_rfl) (Nat.le_of_ble_eq_true (by kernel_rfl))
theorem ref6_skip_snd : Snd Tryd.prog S ⟨21, [.val (.data .str), .val (.data (.int .i64))], [.val (.data (.int .i64))], fun x => ref6_skip x.1 x.2⟩ := Snd.lim ref6_skip_sndk
/-! ### 25 cotillion/cotillionref6.letter -/
noncomputable def ref6_letter  (x : Int) : Option Bool := if 97 ≤ x then
    if x ≤ 122 then
    some true else
    if 65 ≤ x then
    if x ≤ 90 then
    some true else
    some (decide (x = 95)) else
    some (decide (x = 95)) else
    if 65 ≤ x then
    if x ≤ 90 then
    some true else
    some (decide (x = 95)) else
    some (decide (x = 95))
noncomputable abbrev ref6_letter_T : Tab S := ⟨[], [], false, false⟩
noncomputable def ref6_letter_L (k : Nat) : Nat → List (Lab S Bool)
  | _ => []
theorem ref6_letter_eq (k : Nat) (x : Int) : ref6_letter x = exec S (ref6_letter_T) byt (labs S (ref6_letter_T) (ref6_letter_L k)) (ac [] Tryd.f25) (frame0 S [.val (.data (.int .u8))] x) (retK S (ref6_letter_T) Tryd.f25 [.val (.data (.int .u8))] [.val (.data .bool)]) := by kernel_rfl
theorem ref6_letter_vc (k : Nat) : VC S (ref6_letter_T) byt (ref6_letter_L k) (ref6_letter_L (k + 1)) (ac [] Tryd.f25) (retK S (ref6_letter_T) Tryd.f25 [.val (.data (.int .u8))] [.val (.data .bool)]) = [] := by kernel_rfl
theorem ref6_letter_snd : Snd Tryd.prog S ⟨25, [.val (.data (.int .u8))], [.val (.data .bool)], fun x => ref6_letter x⟩ :=
  fn_ok progOk (T := (ref6_letter_T)) (all_nil) (all_nil) mixed Tryd.func25 rfl (by kernel_rfl) (ac_code [] Tryd.f25 rfl) (L := ref6_letter_L)
    (fun n l h x => by cases h) (fun k n l h => by cases h)
    (fun k => All.mem (ref6_letter_vc k) trivial) (fun x r h => ⟨0, (ref6_letter_eq 0 x).symm.trans h⟩) (by kernel_rfl) (by kernel_rfl) (Nat.le_of_ble_eq_true (by kernel_rfl))
/-! ### 26 cotillion/cotillionref6.digit -/
noncomputable def ref6_digit  (x : Int) : Option Bool := if 48 ≤ x then some (decide (x ≤ 57)) else some false
noncomputable abbrev ref6_digit_T : Tab S := ⟨[], [], false, false⟩
noncomputable def ref6_digit_L (k : Nat) : Nat → List (Lab S Bool)
  | _ => []
theorem ref6_digit_eq (k : Nat) (x : Int) : ref6_digit x = exec S (ref6_digit_T) byt (labs S (ref6_digit_T) (ref6_digit_L k)) (ac [] Tryd.f26) (frame0 S [.val (.data (.int .u8))] x) (retK S (ref6_digit_T) Tryd.f26 [.val (.data (.int .u8))] [.val (.data .bool)]) := by kernel_rfl
theorem ref6_digit_vc (k : Nat) : VC S (ref6_digit_T) byt (ref6_digit_L k) (ref6_digit_L (k + 1)) (ac [] Tryd.f26) (retK S (ref6_digit_T) Tryd.f26 [.val (.data (.int .u8))] [.val (.data .bool)]) = [] := by kernel_rfl
theorem ref6_digit_snd : Snd Tryd.prog S ⟨26, [.val (.data (.int .u8))], [.val (.data .bool)], fun x => ref6_digit x⟩ :=
  fn_ok progOk (T := (ref6_digit_T)) (all_nil) (all_nil) mixed Tryd.func26 rfl (by kernel_rfl) (ac_code [] Tryd.f26 rfl) (L := ref6_digit_L)
    (fun n l h x => by cases h) (fun k n l h => by cases h)
    (fun k => All.mem (ref6_digit_vc k) trivial) (fun x r h => ⟨0, (ref6_digit_eq 0 x).symm.trans h⟩) (by kernel_rfl) (by kernel_rfl) (Nat.le_of_ble_eq_true (by kernel_rfl))
/-! ### 33 cotillion/cotillionref6.sign -/
noncomputable def ref6_sign_l1 : Nat → (List UInt8) → Int → (List UInt8) → Int → Option Int
  | 0, _, _, _, _ => none
  | k + 1, s, i, one, k_ => if k_ < (one.length : Int) then
    if 0 ≤ i then
    if i < (s.length : Int) then
    if 0 ≤ k_ then
    if k_ < (one.length : Int) then
    if ((s.getD i.toNat 0).toNat : Int) = ((one.getD k_.toNat 0).toNat : Int) then
    some 1 else
    ref6_sign_l1 k s i one (w64 (k_ + 1)) else none else none else none else none else
    some 0
noncomputable def ref6_sign_l0 : Nat → (List UInt8) → Int → (List UInt8 × List UInt8 × List UInt8 × List UInt8 × List UInt8 × List UInt8 × List UInt8) → Int → Option Int
  | 0, _, _, _, _ => none
  | k + 1, s, i, two, k_ => if k_ < 7 then
    if (w64 (i + 1)) < (s.length : Int) then
    if 0 ≤ (w64 (i + 2)) then
    if (w64 (i + 2)) ≤ (s.length : Int) then
    if 0 ≤ i then
    if i ≤ (w64 (i + 2)) then
    if 0 ≤ k_ then
    if k_ < ([two.1, two.2.1, two.2.2.1, two.2.2.2.1, two.2.2.2.2.1, two.2.2.2.2.2.1, two.2.2.2.2.2.2].length : Int) then
    if (cut s i (w64 (i + 2))) = ([two.1, two.2.1, two.2.2.1, two.2.2.2.1, two.2.2.2.2.1, two.2.2.2.2.2.1, two.2.2.2.2.2.2].getD k_.toNat []) then
    some 2 else
    ref6_sign_l0 k s i two (w64 (k_ + 1)) else none else none else none else none else none else none else
    ref6_sign_l0 k s i two (w64 (k_ + 1)) else
    ref6_sign_l1 k s i s_v__ 0
noncomputable def ref6_sign_f (k : Nat) (s : List UInt8) (i : Int) : Option Int := ref6_sign_l0 k s i arr_0 0
noncomputable def ref6_sign (s : List UInt8) (i : Int) : Option Int := lim (fun k (x : List UInt8 × Int) => ref6_sign_f k x.1 x.2) (s, i)
noncomputable abbrev ref6_sign_T : Tab S := ⟨[], [], false, false⟩
noncomputable def ref6_sign_L (k : Nat) : Nat → List (Lab S Int)
  | 0 => [⟨[0, 1, 5, 6], [.val (.data .str), .val (.data (.int .i64)), .ro (.st 2), .val (.data (.int .i64))], fun x => ref6_sign_l0 k x.1 x.2.1 x.2.2.1 x.2.2.2⟩]
  | 1 => []
  | 2 => [⟨[0, 1, 7, 8], [.val (.data .str), .val (.data (.int .i64)), .val (.data .str), .val (.data (.int .i64))], fun x => ref6_sign_l1 k x.1 x.2.1 x.2.2.1 x.2.2.2⟩]
  | _ + 3 => []
theorem ref6_sign_eq (k : Nat) (s : List UInt8) (i : Int) : ref6_sign_f k s i = exec S (ref6_sign_T) byt (labs S (ref6_sign_T) (ref6_sign_L k)) (ac [] Tryd.f33) (frame0 S [.val (.data .str), .val (.data (.int .i64))] (s, i)) (retK S (ref6_sign_T) Tryd.f33 [.val (.data .str), .val (.data (.int .i64))] [.val (.data (.int .i64))]) := by kernel_rfl
theorem ref6_sign_vc (k : Nat) : VC S (ref6_sign_T) byt (ref6_sign_L k) (ref6_sign_L (k + 1)) (ac [] Tryd.f33) (retK S (ref6_sign_T) Tryd.f33 [.val (.data .str), .val (.data (.int .i64))] [.val (.data (.int .i64))]) = [∀ x : List UInt8 × Int × (List UInt8 × List UInt8 × List UInt8 × List UInt8 × List UInt8 × List UInt8 × List UInt8) × Int, ref6_sign_l0 (k + 1) x.1 x.2.1 x.2.2.1 x.2.2.2 = ref6_sign_l0 (k + 1) x.1 x.2.1 x.2.2.1 x.2.2.2, ∀ x : List UInt8 × Int × List UInt8 × Int, ref6_sign_l1 (k + 1) x.1 x.2.1 x.2.2.1 x.2.2.2 = ref6_sign_l1 (k + 1) x.1 x.2.1 x.2.2.1 x.2.2.2] := by kernel_rfl
theorem ref6_sign_sndk (k : Nat) : Snd Tryd.prog S ⟨33, [.val (.data .str), .val (.data (.int .i64))], [.val (.data (.int .i64))], fun x => ref6_sign_f k x.1 x.2⟩ :=
  fn_ok progOk (T := (ref6_sign_T)) (all_nil) (all_nil) mixed Tryd.func33 rfl (by kernel_rfl) (ac_code [] Tryd.f33 rfl) (L := ref6_sign_L)
    (fun n l h x => by match n, h with
        | 0, h => 
          rcases List.mem_cons.1 h with rfl | h
          · rfl
          cases h
        | 1, h => cases h
        | 2, h => 
          rcases List.mem_cons.1 h with rfl | h
          · rfl
          cases h
        | _ + 3, h => cases h) (fun k n l h => by match n, h with
        | 0, h => 
          rcases List.mem_cons.1 h with rfl | h
          · rfl
          cases h
        | 1, h => cases h
        | 2, h => 
          rcases List.mem_cons.1 h with rfl | h
          · rfl
          cases h
        | _ + 3, h => cases h)
    (fun k => All.mem (ref6_sign_vc k) ⟨fun _ => rfl, ⟨fun _ => rfl, trivial⟩⟩) (fun x r h => ⟨k, (ref6_sign_eq k x.1 x.2).symm.trans h⟩) (by kernel_rfl) (by kernel_rfl) (Nat.le_of_ble_eq_true (by kernel_rfl))
theorem ref6_sign_snd : Snd Tryd.prog S ⟨33, [.val (.data .str), .val (.data (.int .i64))], [.val (.data (.int .i64))], fun x => ref6_sign x.1 x.2⟩ := Snd.lim ref6_sign_sndk
/-! ### 32 cotillion/cotillionref6.value -/
noncomputable def ref6_value_l0 : Nat → (List UInt8) → Int → Int → Option (Int × Bool)
  | 0, _, _, _ => none
  | k + 1, s, n, i => if i < (s.length : Int) then
    if 0 ≤ i then
    if i < (s.length : Int) then
    if ¬ (10 : Int) = 0 then
    if (w64 ((w64 (9223372036854775807 - (w64 (wu8 (((s.getD i.toNat 0).toNat : Int) - 48))))).tdiv 10)) < n then
    some (0, false) else
    ref6_value_l0 k s (w64 ((w64 (10 * n)) + (w64 (wu8 (((s.getD i.toNat 0).toNat : Int) - 48))))) (w64 (i + 1)) else none else none else none else
    some (n, true)
noncomputable def ref6_value_f (k : Nat) (s : List UInt8) : Option (Int × Bool) := ref6_value_l0 k s 0 0
noncomputable def ref6_value (s : List UInt8) : Option (Int × Bool) := lim (fun k (x : List UInt8) => ref6_value_f k x) s
noncomputable abbrev ref6_value_T : Tab S := ⟨[], [], false, false⟩
noncomputable def ref6_value_L (k : Nat) : Nat → List (Lab S (Int × Bool))
  | 0 => [⟨[0, 4, 5], [.val (.data .str), .val (.data (.int .i64)), .val (.data (.int .i64))], fun x => ref6_value_l0 k x.1 x.2.1 x.2.2⟩]
  | _ + 1 => []
theorem ref6_value_eq (k : Nat) (s : List UInt8) : ref6_value_f k s = exec S (ref6_value_T) byt (labs S (ref6_value_T) (ref6_value_L k)) (ac [] Tryd.f32) (frame0 S [.val (.data .str)] s) (retK S (ref6_value_T) Tryd.f32 [.val (.data .str)] [.val (.data (.int .i64)), .val (.data .bool)]) := by kernel_rfl
theorem ref6_value_vc (k : Nat) : VC S (ref6_value_T) byt (ref6_value_L k) (ref6_value_L (k + 1)) (ac [] Tryd.f32) (retK S (ref6_value_T) Tryd.f32 [.val (.data .str)] [.val (.data (.int .i64)), .val (.data .bool)]) = [∀ x : List UInt8 × Int × Int, ref6_value_l0 (k + 1) x.1 x.2.1 x.2.2 = ref6_value_l0 (k + 1) x.1 x.2.1 x.2.2] := by kernel_rfl
theorem ref6_value_sndk (k : Nat) : Snd Tryd.prog S ⟨32, [.val (.data .str)], [.val (.data (.int .i64)), .val (.data .bool)], fun x => ref6_value_f k x⟩ :=
  fn_ok progOk (T := (ref6_value_T)) (all_nil) (all_nil) mixed Tryd.func32 rfl (by kernel_rfl) (ac_code [] Tryd.f32 rfl) (L := ref6_value_L)
    (fun n l h x => by match n, h with
        | 0, h => 
          rcases List.mem_cons.1 h with rfl | h
          · rfl
          cases h
        | _ + 1, h => cases h) (fun k n l h => by match n, h with
        | 0, h => 
          rcases List.mem_cons.1 h with rfl | h
          · rfl
          cases h
        | _ + 1, h => cases h)
    (fun k => All.mem (ref6_value_vc k) ⟨fun _ => rfl, trivial⟩) (fun x r h => ⟨k, (ref6_value_eq k x).symm.trans h⟩) (by kernel_rfl) (by kernel_rfl) (Nat.le_of_ble_eq_true (by kernel_rfl))
theorem ref6_value_snd : Snd Tryd.prog S ⟨32, [.val (.data .str)], [.val (.data (.int .i64)), .val (.data .bool)], fun x => ref6_value x⟩ := Snd.lim ref6_value_sndk
/-! ### 22 cotillion/cotillionref6.one -/
noncomputable def ref6_one_l0 : Nat → (List UInt8) → Int → Int → Int → Int → (List UInt8) → Int → Int → Int → Int → Int → (List UInt8) → Int → Option (api_Token × Int)
  | 0, _, _, _, _, _, _, _, _, _, _, _, _, _ => none
  | k + 1, s, i, x4_Kind, x4_At, x4_End, x4_Text, x4_N, j, t_Kind, t_At, t_End, t_Text, t_N => if j < (s.length : Int) then
    if 0 ≤ j then
    if j < (s.length : Int) then
    (ref6_letter ((s.getD j.toNat 0).toNat : Int)).bind fun r4 =>
    bif r4 then
    ref6_one_l0 k s i x4_Kind x4_At x4_End x4_Text x4_N (w64 (j + 1)) t_Kind t_At t_End t_Text t_N else
    if 0 ≤ j then
    if j < (s.length : Int) then
    (ref6_digit ((s.getD j.toNat 0).toNat : Int)).bind fun r5 =>
    bif r5 then
    ref6_one_l0 k s i x4_Kind x4_At x4_End x4_Text x4_N (w64 (j + 1)) t_Kind t_At t_End t_Text t_N else
    if 24 < (w64 (j - i)) then
    some (api_Token.mk 0 0 0 [] 0, 13) else
    if 0 ≤ j then
    if j ≤ (s.length : Int) then
    if 0 ≤ i then
    if i ≤ j then
    some (api_Token.mk 1 t_At j (cut s i j) t_N, 0) else none else none else none else none else none else none else none else none else
    if 24 < (w64 (j - i)) then
    some (api_Token.mk 0 0 0 [] 0, 13) else
    if 0 ≤ j then
    if j ≤ (s.length : Int) then
    if 0 ≤ i then
    if i ≤ j then
    some (api_Token.mk 1 t_At j (cut s i j) t_N, 0) else none else none else none else none
noncomputable def ref6_one_l1 : Nat → (List UInt8) → Int → Int → Int → Int → (List UInt8) → Int → Int → Int → Int → Int → (List UInt8) → Int → Option (api_Token × Int)
  | 0, _, _, _, _, _, _, _, _, _, _, _, _, _ => none
  | k + 1, s, i, x4_Kind, x4_At, x4_End, x4_Text, x4_N, j, t_Kind, t_At, t_End, t_Text, t_N => if j < (s.length : Int) then
    if 0 ≤ j then
    if j < (s.length : Int) then
    (ref6_digit ((s.getD j.toNat 0).toNat : Int)).bind fun r6 =>
    bif r6 then
    ref6_one_l1 k s i x4_Kind x4_At x4_End x4_Text x4_N (w64 (j + 1)) t_Kind t_At t_End t_Text t_N else
    if 1 < (w64 (j - i)) then
    if 0 ≤ i then
    if i < (s.length : Int) then
    if ((s.getD i.toNat 0).toNat : Int) = 48 then
    some (api_Token.mk 0 0 0 [] 0, 11) else
    if 0 ≤ j then
    if j ≤ (s.length : Int) then
    if 0 ≤ i then
    if i ≤ j then
    (ref6_value (cut s i j)).bind fun r7 =>
    bif !r7.2 then
    some (api_Token.mk 0 0 0 [] 0, 16) else
    if 0 ≤ j then
    if j ≤ (s.length : Int) then
    if 0 ≤ i then
    if i ≤ j then
    some (api_Token.mk 2 t_At j (cut s i j) r7.1, 0) else none else none else none else none else none else none else none else none else none else none else
    if 0 ≤ j then
    if j ≤ (s.length : Int) then
    if 0 ≤ i then
    if i ≤ j then
    (ref6_value (cut s i j)).bind fun r8 =>
    bif !r8.2 then
    some (api_Token.mk 0 0 0 [] 0, 16) else
    if 0 ≤ j then
    if j ≤ (s.length : Int) then
    if 0 ≤ i then
    if i ≤ j then
    some (api_Token.mk 2 t_At j (cut s i j) r8.1, 0) else none else none else none else none else none else none else none else none else none else none else
    if 1 < (w64 (j - i)) then
    if 0 ≤ i then
    if i < (s.length : Int) then
    if ((s.getD i.toNat 0).toNat : Int) = 48 then
    some (api_Token.mk 0 0 0 [] 0, 11) else
    if 0 ≤ j then
    if j ≤ (s.length : Int) then
    if 0 ≤ i then
    if i ≤ j then
    (ref6_value (cut s i j)).bind fun r9 =>
    bif !r9.2 then
    some (api_Token.mk 0 0 0 [] 0, 16) else
    if 0 ≤ j then
    if j ≤ (s.length : Int) then
    if 0 ≤ i then
    if i ≤ j then
    some (api_Token.mk 2 t_At j (cut s i j) r9.1, 0) else none else none else none else none else none else none else none else none else none else none else
    if 0 ≤ j then
    if j ≤ (s.length : Int) then
    if 0 ≤ i then
    if i ≤ j then
    (ref6_value (cut s i j)).bind fun r10 =>
    bif !r10.2 then
    some (api_Token.mk 0 0 0 [] 0, 16) else
    if 0 ≤ j then
    if j ≤ (s.length : Int) then
    if 0 ≤ i then
    if i ≤ j then
    some (api_Token.mk 2 t_At j (cut s i j) r10.1, 0) else none else none else none else none else none else none else none else none
noncomputable def ref6_one_f (k : Nat) (s : List UInt8) (i : Int) : Option (api_Token × Int) := if 0 ≤ i then
    if i < (s.length : Int) then
    (ref6_letter ((s.getD i.toNat 0).toNat : Int)).bind fun r1 =>
    bif r1 then
    ref6_one_l0 k s i 0 0 0 [] 0 i 0 i 0 [] 0 else
    if 0 ≤ i then
    if i < (s.length : Int) then
    (ref6_digit ((s.getD i.toNat 0).toNat : Int)).bind fun r2 =>
    bif r2 then
    ref6_one_l1 k s i 0 0 0 [] 0 i 0 i 0 [] 0 else
    (ref6_sign s i).bind fun r3 =>
    if r3 = 0 then
    some (api_Token.mk 0 0 0 [] 0, 10) else
    if 0 ≤ (w64 (i + r3)) then
    if (w64 (i + r3)) ≤ (s.length : Int) then
    if 0 ≤ i then
    if i ≤ (w64 (i + r3)) then
    some (api_Token.mk 3 i (w64 (i + r3)) (cut s i (w64 (i + r3))) 0, 0) else none else none else none else none else none else none else none else none
noncomputable def ref6_one (s : List UInt8) (i : Int) : Option (api_Token × Int) := lim (fun k (x : List UInt8 × Int) => ref6_one_f k x.1 x.2) (s, i)
noncomputable abbrev ref6_one_T : Tab S := ⟨[⟨25, [.val (.data (.int .u8))], [.val (.data .bool)], fun x => ref6_letter x⟩, ⟨26, [.val (.data (.int .u8))], [.val (.data .bool)], fun x => ref6_digit x⟩, ⟨33, [.val (.data .str), .val (.data (.int .i64))], [.val (.data (.int .i64))], fun x => ref6_sign x.1 x.2⟩, ⟨32, [.val (.data .str)], [.val (.data (.int .i64)), .val (.data .bool)], fun x => ref6_value x⟩], [], false, false⟩
noncomputable def ref6_one_L (k : Nat) : Nat → List (Lab S (api_Token × Int))
  | 0 => [⟨[0, 1, 4, 6, 7], [.val (.data .str), .val (.data (.int .i64)), .obj [.data (.int .i64), .data (.int .i64), .data (.int .i64), .data .str, .data (.int .i64)], .val (.data (.int .i64)), .obj [.data (.int .i64), .data (.int .i64), .data (.int .i64), .data .str, .data (.int .i64)]], fun x => ref6_one_l0 k x.1 x.2.1 x.2.2.1.1 x.2.2.1.2.1 x.2.2.1.2.2.1 x.2.2.1.2.2.2.1 x.2.2.1.2.2.2.2 x.2.2.2.1 x.2.2.2.2.1 x.2.2.2.2.2.1 x.2.2.2.2.2.2.1 x.2.2.2.2.2.2.2.1 x.2.2.2.2.2.2.2.2⟩]
  | 1 => []
  | 2 => [⟨[0, 1, 4, 6, 7], [.val (.data .str), .val (.data (.int .i64)), .obj [.data (.int .i64), .data (.int .i64), .data (.int .i64), .data .str, .data (.int .i64)], .val (.data (.int .i64)), .obj [.data (.int .i64), .data (.int .i64), .data (.int .i64), .data .str, .data (.int .i64)]], fun x => ref6_one_l1 k x.1 x.2.1 x.2.2.1.1 x.2.2.1.2.1 x.2.2.1.2.2.1 x.2.2.1.2.2.2.1 x.2.2.1.2.2.2.2 x.2.2.2.1 x.2.2.2.2.1 x.2.2.2.2.2.1 x.2.2.2.2.2.2.1 x.2.2.2.2.2.2.2.1 x.2.2.2.2.2.2.2.2⟩]
  | _ + 3 => []
theorem ref6_one_eq (k : Nat) (s : List UInt8) (i : Int) : ref6_one_f k s i = exec S (ref6_one_T) byt (labs S (ref6_one_T) (ref6_one_L k)) (ac [] Tryd.f22) (frame0 S [.val (.data .str), .val (.data (.int .i64))] (s, i)) (retK S (ref6_one_T) Tryd.f22 [.val (.data .str), .val (.data (.int .i64))] [.val (.data (.st 0)), .val (.data (.int .i64))]) := by kernel_rfl
theorem ref6_one_vc (k : Nat) : VC S (ref6_one_T) byt (ref6_one_L k) (ref6_one_L (k + 1)) (ac [] Tryd.f22) (retK S (ref6_one_T) Tryd.f22 [.val (.data .str), .val (.data (.int .i64))] [.val (.data (.st 0)), .val (.data (.int .i64))]) = [∀ x : List UInt8 × Int × (Int × Int × Int × List UInt8 × Int) × Int × (Int × Int × Int × List UInt8 × Int), ref6_one_l0 (k + 1) x.1 x.2.1 x.2.2.1.1 x.2.2.1.2.1 x.2.2.1.2.2.1 x.2.2.1.2.2.2.1 x.2.2.1.2.2.2.2 x.2.2.2.1 x.2.2.2.2.1 x.2.2.2.2.2.1 x.2.2.2.2.2.2.1 x.2.2.2.2.2.2.2.1 x.2.2.2.2.2.2.2.2 = ref6_one_l0 (k + 1) x.1 x.2.1 x.2.2.1.1 x.2.2.1.2.1 x.2.2.1.2.2.1 x.2.2.1.2.2.2.1 x.2.2.1.2.2.2.2 x.2.2.2.1 x.2.2.2.2.1 x.2.2.2.2.2.1 x.2.2.2.2.2.2.1 x.2.2.2.2.2.2.2.1 x.2.2.2.2.2.2.2.2, ∀ x : List UInt8 × Int × (Int × Int × Int × List UInt8 × Int) × Int × (Int × Int × Int × List UInt8 × Int), ref6_one_l1 (k + 1) x.1 x.2.1 x.2.2.1.1 x.2.2.1.2.1 x.2.2.1.2.2.1 x.2.2.1.2.2.2.1 x.2.2.1.2.2.2.2 x.2.2.2.1 x.2.2.2.2.1 x.2.2.2.2.2.1 x.2.2.2.2.2.2.1 x.2.2.2.2.2.2.2.1 x.2.2.2.2.2.2.2.2 = ref6_one_l1 (k + 1) x.1 x.2.1 x.2.2.1.1 x.2.2.1.2.1 x.2.2.1.2.2.1 x.2.2.1.2.2.2.1 x.2.2.1.2.2.2.2 x.2.2.2.1 x.2.2.2.2.1 x.2.2.2.2.2.1 x.2.2.2.2.2.2.1 x.2.2.2.2.2.2.2.1 x.2.2.2.2.2.2.2.2] := by kernel_rfl
theorem ref6_one_sndk (k : Nat) : Snd Tryd.prog S ⟨22, [.val (.data .str), .val (.data (.int .i64))], [.val (.data (.st 0)), .val (.data (.int .i64))], fun x => ref6_one_f k x.1 x.2⟩ :=
  fn_ok progOk (T := (ref6_one_T)) (all_cons ref6_letter_snd (all_cons ref6_digit_snd (all_cons ref6_sign_snd (all_cons ref6_value_snd (all_nil))))) (all_nil) mixed Tryd.func22 rfl (by kernel_rfl) (ac_code [] Tryd.f22 rfl) (L := ref6_one_L)
    (fun n l h x => by match n, h with
        | 0, h => 
          rcases List.mem_cons.1 h with rfl | h
          · rfl
          cases h
        | 1, h => cases h
        | 2, h => 
          rcases List.mem_cons.1 h with rfl | h
          · rfl
          cases h
        | _ + 3, h => cases h) (fun k n l h => by match n, h with
        | 0, h => 
          rcases List.mem_cons.1 h with rfl | h
          · rfl
          cases h
        | 1, h => cases h
        | 2, h => 
          rcases List.mem_cons.1 h with rfl | h
          · rfl
          cases h
        | _ + 3, h => cases h)
    (fun k => All.mem (ref6_one_vc k) ⟨fun _ => rfl, ⟨fun _ => rfl, trivial⟩⟩) (fun x r h => ⟨k, (ref6_one_eq k x.1 x.2).symm.trans h⟩) (by kernel_rfl) (by kernel_rfl) (Nat.le_of_ble_eq_true (by kernel_rfl))
theorem ref6_one_snd : Snd Tryd.prog S ⟨22, [.val (.data .str), .val (.data (.int .i64))], [.val (.data (.st 0)), .val (.data (.int .i64))], fun x => ref6_one x.1 x.2⟩ := Snd.lim ref6_one_sndk
/-! ### 10 cotillion/cotillionref6.All -/
noncomputable def ref6_All_l0 : Nat → (List UInt8) → Int → Int → (List api_Token) → Int → Option (List api_Token × api_Fault)
  | 0, _, _, _, _, _ => none
  | k + 1, s, x3_Code, x3_At, out, i => if i < (s.length : Int) then
    (ref6_one s i).bind fun r2 =>
    if r2.2 ≠ 0 then
    some ([], api_Fault.mk r2.2 i) else
    if (out.length + [r2.1].length) * 48 ≤ 140737488355328 then
    (ref6_skip s r2.1.End).bind fun r3 =>
    ref6_All_l0 k s x3_Code x3_At (out ++ [r2.1]) r3 else none else
    if (out.length + [api_Token.mk 4 (s.length : Int) (s.length : Int) [] 0].length) * 48 ≤ 140737488355328 then
    some (out ++ [api_Token.mk 4 (s.length : Int) (s.length : Int) [] 0], api_Fault.mk 0 0) else none
noncomputable def ref6_All_f (k : Nat) (s : List UInt8) : Option (List api_Token × api_Fault) := if 16384 < (s.length : Int) then
    some ([], api_Fault.mk 13 16384) else
    (ref6_skip s 0).bind fun r1 =>
    ref6_All_l0 k s 0 0 [] r1
noncomputable def ref6_All (s : List UInt8) : Option (List api_Token × api_Fault) := lim (fun k (x : List UInt8) => ref6_All_f k x) s
noncomputable abbrev ref6_All_T : Tab S := ⟨[⟨21, [.val (.data .str), .val (.data (.int .i64))], [.val (.data (.int .i64))], fun x => ref6_skip x.1 x.2⟩, ⟨22, [.val (.data .str), .val (.data (.int .i64))], [.val (.data (.st 0)), .val (.data (.int .i64))], fun x => ref6_one x.1 x.2⟩], [], false, false⟩
noncomputable def ref6_All_L (k : Nat) : Nat → List (Lab S (List api_Token × api_Fault))
  | 0 => [⟨[0, 3, 4, 5], [.val (.data .str), .obj [.data (.int .i64), .data (.int .i64)], .val (.town (.st 0)), .val (.data (.int .i64))], fun x => ref6_All_l0 k x.1 x.2.1.1 x.2.1.2 x.2.2.1 x.2.2.2⟩]
  | _ + 1 => []
theorem ref6_All_eq (k : Nat) (s : List UInt8) : ref6_All_f k s = exec S (ref6_All_T) byt (labs S (ref6_All_T) (ref6_All_L k)) (ac [] Tryd.f10) (frame0 S [.val (.data .str)] s) (retK S (ref6_All_T) Tryd.f10 [.val (.data .str)] [.val (.town (.st 0)), .val (.data (.st 1))]) := by kernel_rfl
theorem ref6_All_vc (k : Nat) : VC S (ref6_All_T) byt (ref6_All_L k) (ref6_All_L (k + 1)) (ac [] Tryd.f10) (retK S (ref6_All_T) Tryd.f10 [.val (.data .str)] [.val (.town (.st 0)), .val (.data (.st 1))]) = [∀ x : List UInt8 × (Int × Int) × List api_Token × Int, ref6_All_l0 (k + 1) x.1 x.2.1.1 x.2.1.2 x.2.2.1 x.2.2.2 = ref6_All_l0 (k + 1) x.1 x.2.1.1 x.2.1.2 x.2.2.1 x.2.2.2] := by kernel_rfl
theorem ref6_All_sndk (k : Nat) : Snd Tryd.prog S ⟨10, [.val (.data .str)], [.val (.town (.st 0)), .val (.data (.st 1))], fun x => ref6_All_f k x⟩ :=
  fn_ok progOk (T := (ref6_All_T)) (all_cons ref6_skip_snd (all_cons ref6_one_snd (all_nil))) (all_nil) mixed Tryd.func10 rfl (by kernel_rfl) (ac_code [] Tryd.f10 rfl) (L := ref6_All_L)
    (fun n l h x => by match n, h with
        | 0, h => 
          rcases List.mem_cons.1 h with rfl | h
          · rfl
          cases h
        | _ + 1, h => cases h) (fun k n l h => by match n, h with
        | 0, h => 
          rcases List.mem_cons.1 h with rfl | h
          · rfl
          cases h
        | _ + 1, h => cases h)
    (fun k => All.mem (ref6_All_vc k) ⟨fun _ => rfl, trivial⟩) (fun x r h => ⟨k, (ref6_All_eq k x).symm.trans h⟩) (by kernel_rfl) (by kernel_rfl) (Nat.le_of_ble_eq_true (by kernel_rfl))
theorem ref6_All_snd : Snd Tryd.prog S ⟨10, [.val (.data .str)], [.val (.town (.st 0)), .val (.data (.st 1))], fun x => ref6_All x⟩ := Snd.lim ref6_All_sndk
/-! ### 11 cotillion/cotillionlaw6.same -/
noncomputable def law6_same_l0 : Nat → (List api_Token) → (List api_Token) → Int → Option Bool
  | 0, _, _, _ => none
  | k + 1, a, b, i => if i < (a.length : Int) then
    if 0 ≤ i then
    if i < (a.length : Int) then
    if 0 ≤ i then
    if i < (b.length : Int) then
    if ¬ (((a.getD i.toNat api_Token.z).Kind) = ((b.getD i.toNat api_Token.z).Kind) ∧ ((a.getD i.toNat api_Token.z).At) = ((b.getD i.toNat api_Token.z).At) ∧ ((a.getD i.toNat api_Token.z).End) = ((b.getD i.toNat api_Token.z).End) ∧ ((a.getD i.toNat api_Token.z).Text) = ((b.getD i.toNat api_Token.z).Text) ∧ ((a.getD i.toNat api_Token.z).N) = ((b.getD i.toNat api_Token.z).N)) then
    some false else
    law6_same_l0 k a b (w64 (i + 1)) else none else none else none else none else
    some true
noncomputable def law6_same_f (k : Nat) (a : List api_Token) (b : List api_Token) : Option Bool := if (a.length : Int) ≠ (b.length : Int) then some false else law6_same_l0 k a b 0
noncomputable def law6_same (a : List api_Token) (b : List api_Token) : Option Bool := lim (fun k (x : List api_Token × List api_Token) => law6_same_f k x.1 x.2) (a, b)
noncomputable abbrev law6_same_T : Tab S := ⟨[], [], false, false⟩
noncomputable def law6_same_L (k : Nat) : Nat → List (Lab S Bool)
  | 0 => [⟨[0, 1, 5], [.val (.data (.sl (.st 0))), .val (.data (.sl (.st 0))), .val (.data (.int .i64))], fun x => law6_same_l0 k x.1 x.2.1 x.2.2⟩]
  | _ + 1 => []
theorem law6_same_eq (k : Nat) (a : List api_Token) (b : List api_Token) : law6_same_f k a b = exec S (law6_same_T) byt (labs S (law6_same_T) (law6_same_L k)) (ac [] Tryd.f11) (frame0 S [.val (.data (.sl (.st 0))), .val (.data (.sl (.st 0)))] (a, b)) (retK S (law6_same_T) Tryd.f11 [.val (.data (.sl (.st 0))), .val (.data (.sl (.st 0)))] [.val (.data .bool)]) := by kernel_rfl
theorem law6_same_vc (k : Nat) : VC S (law6_same_T) byt (law6_same_L k) (law6_same_L (k + 1)) (ac [] Tryd.f11) (retK S (law6_same_T) Tryd.f11 [.val (.data (.sl (.st 0))), .val (.data (.sl (.st 0)))] [.val (.data .bool)]) = [∀ x : List api_Token × List api_Token × Int, law6_same_l0 (k + 1) x.1 x.2.1 x.2.2 = law6_same_l0 (k + 1) x.1 x.2.1 x.2.2] := by kernel_rfl
theorem law6_same_sndk (k : Nat) : Snd Tryd.prog S ⟨11, [.val (.data (.sl (.st 0))), .val (.data (.sl (.st 0)))], [.val (.data .bool)], fun x => law6_same_f k x.1 x.2⟩ :=
  fn_ok progOk (T := (law6_same_T)) (all_nil) (all_nil) mixed Tryd.func11 rfl (by kernel_rfl) (ac_code [] Tryd.f11 rfl) (L := law6_same_L)
    (fun n l h x => by match n, h with
        | 0, h => 
          rcases List.mem_cons.1 h with rfl | h
          · rfl
          cases h
        | _ + 1, h => cases h) (fun k n l h => by match n, h with
        | 0, h => 
          rcases List.mem_cons.1 h with rfl | h
          · rfl
          cases h
        | _ + 1, h => cases h)
    (fun k => All.mem (law6_same_vc k) ⟨fun _ => rfl, trivial⟩) (fun x r h => ⟨k, (law6_same_eq k x.1 x.2).symm.trans h⟩) (by kernel_rfl) (by kernel_rfl) (Nat.le_of_ble_eq_true (by kernel_rfl))
theorem law6_same_snd : Snd Tryd.prog S ⟨11, [.val (.data (.sl (.st 0))), .val (.data (.sl (.st 0)))], [.val (.data .bool)], fun x => law6_same x.1 x.2⟩ := Snd.lim law6_same_sndk
/-! ### 3 cotillion/cotillionlaw6.LexTells -/
noncomputable def law6_LexTells  (s : List UInt8) : Option Bool := if 4000 < (s.length : Int) then
    if (s.length : Int) ≤ 16384 then
    (law6_known).bind fun r1 =>
    some r1 else
    (lex_All s).bind fun r2 =>
    (ref6_All s).bind fun r3 =>
    (law6_same r2.1 r3.1).bind fun r4 =>
    bif r4 then
    if r2.2.Code = r3.2.Code ∧ r2.2.At = r3.2.At then
    (law6_known).bind fun r5 =>
    some r5 else
    some false else
    some false else
    (lex_All s).bind fun r6 =>
    (ref6_All s).bind fun r7 =>
    (law6_same r6.1 r7.1).bind fun r8 =>
    bif r8 then
    if r6.2.Code = r7.2.Code ∧ r6.2.At = r7.2.At then
    (law6_known).bind fun r9 =>
    some r9 else
    some false else
    some false
noncomputable abbrev law6_LexTells_T : Tab S := ⟨[⟨8, [], [.val (.data .bool)], fun x => law6_known⟩, ⟨9, [.val (.data .str)], [.val (.town (.st 0)), .val (.data (.st 1))], fun x => lex_All x⟩, ⟨10, [.val (.data .str)], [.val (.town (.st 0)), .val (.data (.st 1))], fun x => ref6_All x⟩, ⟨11, [.val (.data (.sl (.st 0))), .val (.data (.sl (.st 0)))], [.val (.data .bool)], fun x => law6_same x.1 x.2⟩], [], false, false⟩
noncomputable def law6_LexTells_L (k : Nat) : Nat → List (Lab S Bool)
  | _ => []
theorem law6_LexTells_eq (k : Nat) (s : List UInt8) : law6_LexTells s = exec S (law6_LexTells_T) byt (labs S (law6_LexTells_T) (law6_LexTells_L k)) (ac [] Tryd.f3) (frame0 S [.val (.data .str)] s) (retK S (law6_LexTells_T) Tryd.f3 [.val (.data .str)] [.val (.data .bool)]) := by kernel_rfl
theorem law6_LexTells_vc (k : Nat) : VC S (law6_LexTells_T) byt (law6_LexTells_L k) (law6_LexTells_L (k + 1)) (ac [] Tryd.f3) (retK S (law6_LexTells_T) Tryd.f3 [.val (.data .str)] [.val (.data .bool)]) = [] := by kernel_rfl
theorem law6_LexTells_snd : Snd Tryd.prog S ⟨3, [.val (.data .str)], [.val (.data .bool)], fun x => law6_LexTells x⟩ :=
  fn_ok progOk (T := (law6_LexTells_T)) (all_cons law6_known_snd (all_cons lex_All_snd (all_cons ref6_All_snd (all_cons law6_same_snd (all_nil))))) (all_nil) mixed Tryd.func3 rfl (by kernel_rfl) (ac_code [] Tryd.f3 rfl) (L := law6_LexTells_L)
    (fun n l h x => by cases h) (fun k n l h => by cases h)
    (fun k => All.mem (law6_LexTells_vc k) trivial) (fun x r h => ⟨0, (law6_LexTells_eq 0 x).symm.trans h⟩) (by kernel_rfl) (by kernel_rfl) (Nat.le_of_ble_eq_true (by kernel_rfl))
/-! ### 15 cotillion/cotillionref6.Reserved -/
noncomputable def ref6_Reserved_l0 : Nat → (List UInt8) → (List UInt8 × List UInt8 × List UInt8 × List UInt8 × List UInt8 × List UInt8 × List UInt8 × List UInt8 × List UInt8 × List UInt8 × List UInt8 × List UInt8 × List UInt8 × List UInt8 × List UInt8 × List UInt8 × List UInt8 × List UInt8 × List UInt8 × List UInt8 × List UInt8 × List UInt8 × List UInt8 × List UInt8 × List UInt8 × List UInt8 × List UInt8 × List UInt8 × List UInt8 × List UInt8 × List UInt8 × List UInt8 × List UInt8 × List UInt8 × List UInt8) → Int → Option Bool
  | 0, _, _, _ => none
  | k + 1, s, words, i => if i < 35 then
    if 0 ≤ i then
    if i < ([words.1, words.2.1, words.2.2.1, words.2.2.2.1, words.2.2.2.2.1, words.2.2.2.2.2.1, words.2.2.2.2.2.2.1, words.2.2.2.2.2.2.2.1, words.2.2.2.2.2.2.2.2.1, words.2.2.2.2.2.2.2.2.2.1, words.2.2.2.2.2.2.2.2.2.2.1, words.2.2.2.2.2.2.2.2.2.2.2.1, words.2.2.2.2.2.2.2.2.2.2.2.2.1, words.2.2.2.2.2.2.2.2.2.2.2.2.2.1, words.2.2.2.2.2.2.2.2.2.2.2.2.2.2.1, words.2.2.2.2.2.2.2.2.2.2.2.2.2.2.2.1, words.2.2.2.2.2.2.2.2.2.2.2.2.2.2.2.2.1, words.2.2.2.2.2.2.2.2.2.2.2.2.2.2.2.2.2.1, words.2.2.2.2.2.2.2.2.2.2.2.2.2.2.2.2.2.2.1, words.2.2.2.2.2.2.2.2.2.2.2.2.2.2.2.2.2.2.2.1, words.2.2.2.2.2.2.2.2.2.2.2.2.2.2.2.2.2.2.2.2.1, words.2.2.2.2.2.2.2.2.2.2.2.2.2.2.2.2.2.2.2.2.2.1, words.2.2.2.2.2.2.2.2.2.2.2.2.2.2.2.2.2.2.2.2.2.2.1, words.2.2.2.2.2.2.2.2.2.2.2.2.2.2.2.2.2.2.2.2.2.2.2.1, words.2.2.2.2.2.2.2.2.2.2.2.2.2.2.2.2.2.2.2.2.2.2.2.2.1, words.2.2.2.2.2.2.2.2.2.2.2.2.2.2.2.2.2.2.2.2.2.2.2.2.2.1, words.2.2.2.2.2.2.2.2.2.2.2.2.2.2.2.2.2.2.2.2.2.2.2.2.2.2.1, words.2.2.2.2.2.2.2.2.2.2.2.2.2.2.2.2.2.2.2.2.2.2.2.2.2.2.2.1, words.2.2.2.2.2.2.2.2.2.2.2.2.2.2.2.2.2.2.2.2.2.2.2.2.2.2.2.2.1, words.2.2.2.2.2.2.2.2.2.2.2.2.2.2.2.2.2.2.2.2.2.2.2.2.2.2.2.2.2.1, words.2.2.2.2.2.2.2.2.2.2.2.2.2.2.2.2.2.2.2.2.2.2.2.2.2.2.2.2.2.2.1, words.2.2.2.2.2.2.2.2.2.2.2.2.2.2.2.2.2.2.2.2.2.2.2.2.2.2.2.2.2.2.2.1, words.2.2.2.2.2.2.2.2.2.2.2.2.2.2.2.2.2.2.2.2.2.2.2.2.2.2.2.2.2.2.2.2.1, words.2.2.2.2.2.2.2.2.2.2.2.2.2.2.2.2.2.2.2.2.2.2.2.2.2.2.2.2.2.2.2.2.2.1, words.2.2.2.2.2.2.2.2.2.2.2.2.2.2.2.2.2.2.2.2.2.2.2.2.2.2.2.2.2.2.2.2.2.2].length : Int) then
    if ([words.1, words.2.1, words.2.2.1, words.2.2.2.1, words.2.2.2.2.1, words.2.2.2.2.2.1, words.2.2.2.2.2.2.1, words.2.2.2.2.2.2.2.1, words.2.2.2.2.2.2.2.2.1, words.2.2.2.2.2.2.2.2.2.1, words.2.2.2.2.2.2.2.2.2.2.1, words.2.2.2.2.2.2.2.2.2.2.2.1, words.2.2.2.2.2.2.2.2.2.2.2.2.1, words.2.2.2.2.2.2.2.2.2.2.2.2.2.1, words.2.2.2.2.2.2.2.2.2.2.2.2.2.2.1, words.2.2.2.2.2.2.2.2.2.2.2.2.2.2.2.1, words.2.2.2.2.2.2.2.2.2.2.2.2.2.2.2.2.1, words.2.2.2.2.2.2.2.2.2.2.2.2.2.2.2.2.2.1, words.2.2.2.2.2.2.2.2.2.2.2.2.2.2.2.2.2.2.1, words.2.2.2.2.2.2.2.2.2.2.2.2.2.2.2.2.2.2.2.1, words.2.2.2.2.2.2.2.2.2.2.2.2.2.2.2.2.2.2.2.2.1, words.2.2.2.2.2.2.2.2.2.2.2.2.2.2.2.2.2.2.2.2.2.1, words.2.2.2.2.2.2.2.2.2.2.2.2.2.2.2.2.2.2.2.2.2.2.1, words.2.2.2.2.2.2.2.2.2.2.2.2.2.2.2.2.2.2.2.2.2.2.2.1, words.2.2.2.2.2.2.2.2.2.2.2.2.2.2.2.2.2.2.2.2.2.2.2.2.1, words.2.2.2.2.2.2.2.2.2.2.2.2.2.2.2.2.2.2.2.2.2.2.2.2.2.1, words.2.2.2.2.2.2.2.2.2.2.2.2.2.2.2.2.2.2.2.2.2.2.2.2.2.2.1, words.2.2.2.2.2.2.2.2.2.2.2.2.2.2.2.2.2.2.2.2.2.2.2.2.2.2.2.1, words.2.2.2.2.2.2.2.2.2.2.2.2.2.2.2.2.2.2.2.2.2.2.2.2.2.2.2.2.1, words.2.2.2.2.2.2.2.2.2.2.2.2.2.2.2.2.2.2.2.2.2.2.2.2.2.2.2.2.2.1, words.2.2.2.2.2.2.2.2.2.2.2.2.2.2.2.2.2.2.2.2.2.2.2.2.2.2.2.2.2.2.1, words.2.2.2.2.2.2.2.2.2.2.2.2.2.2.2.2.2.2.2.2.2.2.2.2.2.2.2.2.2.2.2.1, words.2.2.2.2.2.2.2.2.2.2.2.2.2.2.2.2.2.2.2.2.2.2.2.2.2.2.2.2.2.2.2.2.1, words.2.2.2.2.2.2.2.2.2.2.2.2.2.2.2.2.2.2.2.2.2.2.2.2.2.2.2.2.2.2.2.2.2.1, words.2.2.2.2.2.2.2.2.2.2.2.2.2.2.2.2.2.2.2.2.2.2.2.2.2.2.2.2.2.2.2.2.2.2].getD i.toNat []) = s then
    some true else
    ref6_Reserved_l0 k s words (w64 (i + 1)) else none else none else
    some false
noncomputable def ref6_Reserved_f (k : Nat) (s : List UInt8) : Option Bool := ref6_Reserved_l0 k s arr_1 0
noncomputable def ref6_Reserved (s : List UInt8) : Option Bool := lim (fun k (x : List UInt8) => ref6_Reserved_f k x) s
noncomputable abbrev ref6_Reserved_T : Tab S := ⟨[], [], false, false⟩
noncomputable def ref6_Reserved_L (k : Nat) : Nat → List (Lab S Bool)
  | 0 => [⟨[0, 3, 4], [.val (.data .str), .ro (.st 3), .val (.data (.int .i64))], fun x => ref6_Reserved_l0 k x.1 x.2.1 x.2.2⟩]
  | _ + 1 => []
theorem ref6_Reserved_eq (k : Nat) (s : List UInt8) : ref6_Reserved_f k s = exec S (ref6_Reserved_T) byt (labs S (ref6_Reserved_T) (ref6_Reserved_L k)) (ac [] Tryd.f15) (frame0 S [.val (.data .str)] s) (retK S (ref6_Reserved_T) Tryd.f15 [.val (.data .str)] [.val (.data .bool)]) := by kernel_rfl
theorem ref6_Reserved_vc (k : Nat) : VC S (ref6_Reserved_T) byt (ref6_Reserved_L k) (ref6_Reserved_L (k + 1)) (ac [] Tryd.f15) (retK S (ref6_Reserved_T) Tryd.f15 [.val (.data .str)] [.val (.data .bool)]) = [∀ x : List UInt8 × (List UInt8 × List UInt8 × List UInt8 × List UInt8 × List UInt8 × List UInt8 × List UInt8 × List UInt8 × List UInt8 × List UInt8 × List UInt8 × List UInt8 × List UInt8 × List UInt8 × List UInt8 × List UInt8 × List UInt8 × List UInt8 × List UInt8 × List UInt8 × List UInt8 × List UInt8 × List UInt8 × List UInt8 × List UInt8 × List UInt8 × List UInt8 × List UInt8 × List UInt8 × List UInt8 × List UInt8 × List UInt8 × List UInt8 × List UInt8 × List UInt8) × Int, ref6_Reserved_l0 (k + 1) x.1 x.2.1 x.2.2 = ref6_Reserved_l0 (k + 1) x.1 x.2.1 x.2.2] := by kernel_rfl
theorem ref6_Reserved_sndk (k : Nat) : Snd Tryd.prog S ⟨15, [.val (.data .str)], [.val (.data .bool)], fun x => ref6_Reserved_f k x⟩ :=
  fn_ok progOk (T := (ref6_Reserved_T)) (all_nil) (all_nil) mixed Tryd.func15 rfl (by kernel_rfl) (ac_code [] Tryd.f15 rfl) (L := ref6_Reserved_L)
    (fun n l h x => by match n, h with
        | 0, h => 
          rcases List.mem_cons.1 h with rfl | h
          · rfl
          cases h
        | _ + 1, h => cases h) (fun k n l h => by match n, h with
        | 0, h => 
          rcases List.mem_cons.1 h with rfl | h
          · rfl
          cases h
        | _ + 1, h => cases h)
    (fun k => All.mem (ref6_Reserved_vc k) ⟨fun _ => rfl, trivial⟩) (fun x r h => ⟨k, (ref6_Reserved_eq k x).symm.trans h⟩) (by kernel_rfl) (by kernel_rfl) (Nat.le_of_ble_eq_true (by kernel_rfl))
theorem ref6_Reserved_snd : Snd Tryd.prog S ⟨15, [.val (.data .str)], [.val (.data .bool)], fun x => ref6_Reserved x⟩ := Snd.lim ref6_Reserved_sndk
/-! ### 13 cotillion/cotillionref6.Name -/
noncomputable def ref6_Name_l0 : Nat → (List UInt8) → Int → Option Bool
  | 0, _, _ => none
  | k + 1, s, i => if i < (s.length : Int) then
    if 0 ≤ i then
    if i < (s.length : Int) then
    (ref6_letter ((s.getD i.toNat 0).toNat : Int)).bind fun r2 =>
    bif !r2 then
    if 0 ≤ i then
    if i < (s.length : Int) then
    (ref6_digit ((s.getD i.toNat 0).toNat : Int)).bind fun r3 =>
    bif !r3 then
    some false else
    ref6_Name_l0 k s (w64 (i + 1)) else none else none else
    ref6_Name_l0 k s (w64 (i + 1)) else none else none else
    (ref6_Reserved s).bind fun r4 =>
    some (!r4)
noncomputable def ref6_Name_f (k : Nat) (s : List UInt8) : Option Bool := if (s.length : Int) = 0 then
    some false else
    if 24 < (s.length : Int) then
    some false else
    if (0 : Int) ≤ 0 then
    if 0 < (s.length : Int) then
    (ref6_letter ((s.getD (0 : Int).toNat 0).toNat : Int)).bind fun r1 =>
    bif !r1 then
    some false else
    ref6_Name_l0 k s 0 else none else none
noncomputable def ref6_Name (s : List UInt8) : Option Bool := lim (fun k (x : List UInt8) => ref6_Name_f k x) s
noncomputable abbrev ref6_Name_T : Tab S := ⟨[⟨25, [.val (.data (.int .u8))], [.val (.data .bool)], fun x => ref6_letter x⟩, ⟨26, [.val (.data (.int .u8))], [.val (.data .bool)], fun x => ref6_digit x⟩, ⟨15, [.val (.data .str)], [.val (.data .bool)], fun x => ref6_Reserved x⟩], [], false, false⟩
noncomputable def ref6_Name_L (k : Nat) : Nat → List (Lab S Bool)
  | 0 => [⟨[0, 3], [.val (.data .str), .val (.data (.int .i64))], fun x => ref6_Name_l0 k x.1 x.2⟩]
  | _ + 1 => []
theorem ref6_Name_eq (k : Nat) (s : List UInt8) : ref6_Name_f k s = exec S (ref6_Name_T) byt (labs S (ref6_Name_T) (ref6_Name_L k)) (ac [] Tryd.f13) (frame0 S [.val (.data .str)] s) (retK S (ref6_Name_T) Tryd.f13 [.val (.data .str)] [.val (.data .bool)]) := by kernel_rfl
theorem ref6_Name_vc (k : Nat) : VC S (ref6_Name_T) byt (ref6_Name_L k) (ref6_Name_L (k + 1)) (ac [] Tryd.f13) (retK S (ref6_Name_T) Tryd.f13 [.val (.data .str)] [.val (.data .bool)]) = [∀ x : List UInt8 × Int, ref6_Name_l0 (k + 1) x.1 x.2 = ref6_Name_l0 (k + 1) x.1 x.2] := by kernel_rfl
theorem ref6_Name_sndk (k : Nat) : Snd Tryd.prog S ⟨13, [.val (.data .str)], [.val (.data .bool)], fun x => ref6_Name_f k x⟩ :=
  fn_ok progOk (T := (ref6_Name_T)) (all_cons ref6_letter_snd (all_cons ref6_digit_snd (all_cons ref6_Reserved_snd (all_nil)))) (all_nil) mixed Tryd.func13 rfl (by kernel_rfl) (ac_code [] Tryd.f13 rfl) (L := ref6_Name_L)
    (fun n l h x => by match n, h with
        | 0, h => 
          rcases List.mem_cons.1 h with rfl | h
          · rfl
          cases h
        | _ + 1, h => cases h) (fun k n l h => by match n, h with
        | 0, h => 
          rcases List.mem_cons.1 h with rfl | h
          · rfl
          cases h
        | _ + 1, h => cases h)
    (fun k => All.mem (ref6_Name_vc k) ⟨fun _ => rfl, trivial⟩) (fun x r h => ⟨k, (ref6_Name_eq k x).symm.trans h⟩) (by kernel_rfl) (by kernel_rfl) (Nat.le_of_ble_eq_true (by kernel_rfl))
theorem ref6_Name_snd : Snd Tryd.prog S ⟨13, [.val (.data .str)], [.val (.data .bool)], fun x => ref6_Name x⟩ := Snd.lim ref6_Name_sndk
/-! ### 4 cotillion/cotillionlaw6.LexNames -/
noncomputable def law6_LexNames_c0 : Nat → (List UInt8) → Bool → Bool → Option Bool
  | 0, _, _, _ => none
  | k + 1, s, n, one => bif !n then
    bif !n then
    bif !one then
    (law6_known).bind fun r7 =>
    some r7 else
    bif n then
    (law6_known).bind fun r8 =>
    some r8 else
    (lex_Reserved s).bind fun r9 =>
    bif r9 then
    (law6_known).bind fun r10 =>
    some r10 else
    some false else
    (lex_Reserved s).bind fun r11 =>
    bif !r11 then
    bif !one then
    (law6_known).bind fun r12 =>
    some r12 else
    bif n then
    (law6_known).bind fun r13 =>
    some r13 else
    (lex_Reserved s).bind fun r14 =>
    bif r14 then
    (law6_known).bind fun r15 =>
    some r15 else
    some false else
    some false else
    bif one then
    bif !n then
    bif !one then
    (law6_known).bind fun r16 =>
    some r16 else
    bif n then
    (law6_known).bind fun r17 =>
    some r17 else
    (lex_Reserved s).bind fun r18 =>
    bif r18 then
    (law6_known).bind fun r19 =>
    some r19 else
    some false else
    (lex_Reserved s).bind fun r20 =>
    bif !r20 then
    bif !one then
    (law6_known).bind fun r21 =>
    some r21 else
    bif n then
    (law6_known).bind fun r22 =>
    some r22 else
    (lex_Reserved s).bind fun r23 =>
    bif r23 then
    (law6_known).bind fun r24 =>
    some r24 else
    some false else
    some false else
    some false
noncomputable def law6_LexNames_f (k : Nat) (s : List UInt8) : Option Bool := if 100 < (s.length : Int) then
    (law6_known).bind fun r1 =>
    some r1 else
    (lex_Name s).bind fun r2 =>
    (ref6_Name s).bind fun r3 =>
    if r2 ≠ r3 then
    some false else
    (lex_Reserved s).bind fun r4 =>
    (ref6_Reserved s).bind fun r5 =>
    if r4 ≠ r5 then
    some false else
    (lex_All s).bind fun r6 =>
    if r6.2.Code = 0 then
    if (r6.1.length : Int) = 2 then
    if (0 : Int) ≤ 0 then
    if 0 < (r6.1.length : Int) then
    if ((r6.1.getD (0 : Int).toNat api_Token.z).Kind) = 1 then
    if (0 : Int) ≤ 0 then
    if 0 < (r6.1.length : Int) then
    law6_LexNames_c0 k s r2 (decide (((r6.1.getD (0 : Int).toNat api_Token.z).Text) = s)) else none else none else
    law6_LexNames_c0 k s r2 false else none else none else
    law6_LexNames_c0 k s r2 false else
    law6_LexNames_c0 k s r2 false
noncomputable def law6_LexNames (s : List UInt8) : Option Bool := lim (fun k (x : List UInt8) => law6_LexNames_f k x) s
noncomputable abbrev law6_LexNames_T : Tab S := ⟨[⟨8, [], [.val (.data .bool)], fun x => law6_known⟩, ⟨12, [.val (.data .str)], [.val (.data .bool)], fun x => lex_Name x⟩, ⟨13, [.val (.data .str)], [.val (.data .bool)], fun x => ref6_Name x⟩, ⟨14, [.val (.data .str)], [.val (.data .bool)], fun x => lex_Reserved x⟩, ⟨15, [.val (.data .str)], [.val (.data .bool)], fun x => ref6_Reserved x⟩, ⟨9, [.val (.data .str)], [.val (.town (.st 0)), .val (.data (.st 1))], fun x => lex_All x⟩], [], false, false⟩
noncomputable def law6_LexNames_L (k : Nat) : Nat → List (Lab S Bool)
  | 0 => []
  | 1 => [⟨[0, 3, 6], [.val (.data .str), .val (.data .bool), .val (.data .bool)], fun x => law6_LexNames_c0 k x.1 x.2.1 x.2.2⟩]
  | _ + 2 => []
theorem law6_LexNames_eq (k : Nat) (s : List UInt8) : law6_LexNames_f k s = exec S (law6_LexNames_T) byt (labs S (law6_LexNames_T) (law6_LexNames_L k)) (ac [9] Tryd.f4) (frame0 S [.val (.data .str)] s) (retK S (law6_LexNames_T) Tryd.f4 [.val (.data .str)] [.val (.data .bool)]) := by kernel_rfl
theorem law6_LexNames_vc (k : Nat) : VC S (law6_LexNames_T) byt (law6_LexNames_L k) (law6_LexNames_L (k + 1)) (ac [9] Tryd.f4) (retK S (law6_LexNames_T) Tryd.f4 [.val (.data .str)] [.val (.data .bool)]) = [∀ x : List UInt8 × Bool × Bool, law6_LexNames_c0 (k + 1) x.1 x.2.1 x.2.2 = law6_LexNames_c0 (k + 1) x.1 x.2.1 x.2.2] := by kernel_rfl
theorem law6_LexNames_sndk (k : Nat) : Snd Tryd.prog S ⟨4, [.val (.data .str)], [.val (.data .bool)], fun x => law6_LexNames_f k x⟩ :=
  fn_ok progOk (T := (law6_LexNames_T)) (all_cons law6_known_snd (all_cons lex_Name_snd (all_cons ref6_Name_snd (all_cons lex_Reserved_snd (all_cons ref6_Reserved_snd (all_cons lex_All_snd (all_nil))))))) (all_nil) mixed Tryd.func4 rfl (by kernel_rfl) (ac_code [9] Tryd.f4 rfl) (L := law6_LexNames_L)
    (fun n l h x => by match n, h with
        | 0, h => cases h
        | 1, h => 
          rcases List.mem_cons.1 h with rfl | h
          · rfl
          cases h
        | _ + 2, h => cases h) (fun k n l h => by match n, h with
        | 0, h => cases h
        | 1, h => 
          rcases List.mem_cons.1 h with rfl | h
          · rfl
          cases h
        | _ + 2, h => cases h)
    (fun k => All.mem (law6_LexNames_vc k) ⟨fun _ => rfl, trivial⟩) (fun x r h => ⟨k, (law6_LexNames_eq k x).symm.trans h⟩) (by kernel_rfl) (by kernel_rfl) (Nat.le_of_ble_eq_true (by kernel_rfl))
theorem law6_LexNames_snd : Snd Tryd.prog S ⟨4, [.val (.data .str)], [.val (.data .bool)], fun x => law6_LexNames x⟩ := Snd.lim law6_LexNames_sndk
/-! ### 5 cotillion/cotillionlaw6.LexLies -/
mutual
noncomputable def law6_LexLies_l0 : Nat → (List UInt8) → (List api_Token) → Int → Int → Option Bool
  | 0, _, _, _, _ => none
  | k + 1, s, l, v_at, i => if i < (l.length : Int) then
    if 0 ≤ i then
    if i < (l.length : Int) then
    if ((l.getD i.toNat api_Token.z).At) < v_at then
    some false else
    if ((l.getD i.toNat api_Token.z).End) < ((l.getD i.toNat api_Token.z).At) then
    some false else
    if (s.length : Int) < ((l.getD i.toNat api_Token.z).End) then
    some false else
    if 0 ≤ ((l.getD i.toNat api_Token.z).End) then
    if ((l.getD i.toNat api_Token.z).End) ≤ (s.length : Int) then
    if 0 ≤ ((l.getD i.toNat api_Token.z).At) then
    if ((l.getD i.toNat api_Token.z).At) ≤ ((l.getD i.toNat api_Token.z).End) then
    if (cut s ((l.getD i.toNat api_Token.z).At) ((l.getD i.toNat api_Token.z).End)) ≠ ((l.getD i.toNat api_Token.z).Text) then
    some false else
    if (decide (((l.getD i.toNat api_Token.z).Kind) = 4)) ≠ (decide (i = (w64 ((l.length : Int) - 1)))) then
    some false else
    law6_LexLies_c0 k s l v_at i ((l.getD i.toNat api_Token.z).Kind) ((l.getD i.toNat api_Token.z).At) ((l.getD i.toNat api_Token.z).End) ((l.getD i.toNat api_Token.z).Text) ((l.getD i.toNat api_Token.z).N) else none else none else none else none else none else none else
    if 0 < (l.length : Int) then
    if v_at = (s.length : Int) then
    (law6_known).bind fun r4 =>
    some r4 else
    some false else
    some false
noncomputable def law6_LexLies_c0 : Nat → (List UInt8) → (List api_Token) → Int → Int → Int → Int → Int → (List UInt8) → Int → Option Bool
  | 0, _, _, _, _, _, _, _, _, _ => none
  | k + 1, s, l, v_at, i, t_Kind, t_At, t_End, t_Text, t_N => if 0 ≤ t_At then
    if t_At ≤ (s.length : Int) then
    if 0 ≤ v_at then
    if v_at ≤ t_At then
    (lex_All (cut s v_at t_At)).bind fun r5 =>
    if r5.2.Code ≠ 0 then
    some false else
    if (r5.1.length : Int) ≠ 1 then
    some false else
    law6_LexLies_l0 k s l t_End (w64 (i + 1)) else none else none else none else none
end
noncomputable def law6_LexLies_f (k : Nat) (s : List UInt8) : Option Bool := if 2000 < (s.length : Int) then
    (law6_known).bind fun r1 =>
    some r1 else
    (lex_All s).bind fun r2 =>
    if r2.2.Code ≠ 0 then
    if (r2.1.length : Int) = 0 then
    if 0 ≤ r2.2.At then
    if r2.2.At < (s.length : Int) then
    (law6_known).bind fun r3 =>
    some r3 else
    some false else
    some false else
    some false else
    law6_LexLies_l0 k s r2.1 0 0
noncomputable def law6_LexLies (s : List UInt8) : Option Bool := lim (fun k (x : List UInt8) => law6_LexLies_f k x) s
noncomputable abbrev law6_LexLies_T : Tab S := ⟨[⟨8, [], [.val (.data .bool)], fun x => law6_known⟩, ⟨9, [.val (.data .str)], [.val (.town (.st 0)), .val (.data (.st 1))], fun x => lex_All x⟩], [], false, false⟩
noncomputable def law6_LexLies_L (k : Nat) : Nat → List (Lab S Bool)
  | 0 => [⟨[0, 3, 5, 6], [.val (.data .str), .val (.town (.st 0)), .val (.data (.int .i64)), .val (.data (.int .i64))], fun x => law6_LexLies_l0 k x.1 x.2.1 x.2.2.1 x.2.2.2⟩]
  | 1 => [⟨[0, 3, 5, 6, 7], [.val (.data .str), .val (.town (.st 0)), .val (.data (.int .i64)), .val (.data (.int .i64)), .obj [.data (.int .i64), .data (.int .i64), .data (.int .i64), .data .str, .data (.int .i64)]], fun x => law6_LexLies_c0 k x.1 x.2.1 x.2.2.1 x.2.2.2.1 x.2.2.2.2.1 x.2.2.2.2.2.1 x.2.2.2.2.2.2.1 x.2.2.2.2.2.2.2.1 x.2.2.2.2.2.2.2.2⟩]
  | _ + 2 => []
theorem law6_LexLies_eq (k : Nat) (s : List UInt8) : law6_LexLies_f k s = exec S (law6_LexLies_T) byt (labs S (law6_LexLies_T) (law6_LexLies_L k)) (ac [15] Tryd.f5) (frame0 S [.val (.data .str)] s) (retK S (law6_LexLies_T) Tryd.f5 [.val (.data .str)] [.val (.data .bool)]) := by kernel_rfl
theorem law6_LexLies_vc (k : Nat) : VC S (law6_LexLies_T) byt (law6_LexLies_L k) (law6_LexLies_L (k + 1)) (ac [15] Tryd.f5) (retK S (law6_LexLies_T) Tryd.f5 [.val (.data .str)] [.val (.data .bool)]) = [∀ x : List UInt8 × List api_Token × Int × Int × (Int × Int × Int × List UInt8 × Int), law6_LexLies_c0 (k + 1) x.1 x.2.1 x.2.2.1 x.2.2.2.1 x.2.2.2.2.1 x.2.2.2.2.2.1 x.2.2.2.2.2.2.1 x.2.2.2.2.2.2.2.1 x.2.2.2.2.2.2.2.2 = law6_LexLies_c0 (k + 1) x.1 x.2.1 x.2.2.1 x.2.2.2.1 x.2.2.2.2.1 x.2.2.2.2.2.1 x.2.2.2.2.2.2.1 x.2.2.2.2.2.2.2.1 x.2.2.2.2.2.2.2.2, ∀ x : List UInt8 × List api_Token × Int × Int, law6_LexLies_l0 (k + 1) x.1 x.2.1 x.2.2.1 x.2.2.2 = law6_LexLies_l0 (k + 1) x.1 x.2.1 x.2.2.1 x.2.2.2] := by kernel_rfl
theorem law6_LexLies_sndk (k : Nat) : Snd Tryd.prog S ⟨5, [.val (.data .str)], [.val (.data .bool)], fun x => law6_LexLies_f k x⟩ :=
  fn_ok progOk (T := (law6_LexLies_T)) (all_cons law6_known_snd (all_cons lex_All_snd (all_nil))) (all_nil) mixed Tryd.func5 rfl (by kernel_rfl) (ac_code [15] Tryd.f5 rfl) (L := law6_LexLies_L)
    (fun n l h x => by match n, h with
        | 0, h => 
          rcases List.mem_cons.1 h with rfl | h
          · rfl
          cases h
        | 1, h => 
          rcases List.mem_cons.1 h with rfl | h
          · rfl
          cases h
        | _ + 2, h => cases h) (fun k n l h => by match n, h with
        | 0, h => 
          rcases List.mem_cons.1 h with rfl | h
          · rfl
          cases h
        | 1, h => 
          rcases List.mem_cons.1 h with rfl | h
          · rfl
          cases h
        | _ + 2, h => cases h)
    (fun k => All.mem (law6_LexLies_vc k) ⟨fun _ => rfl, ⟨fun _ => rfl, trivial⟩⟩) (fun x r h => ⟨k, (law6_LexLies_eq k x).symm.trans h⟩) (by kernel_rfl) (by kernel_rfl) (Nat.le_of_ble_eq_true (by kernel_rfl))
theorem law6_LexLies_snd : Snd Tryd.prog S ⟨5, [.val (.data .str)], [.val (.data .bool)], fun x => law6_LexLies x⟩ := Snd.lim law6_LexLies_sndk
/-! ### 18 cotillion/cotillionlaw6.digits -/
noncomputable def law6_digits_b (self_law6_digits : Int → Option (List UInt8)) (k : Nat) (n : Int) : Option (List UInt8) := if n < 10 then
    if 0 ≤ (w64 (n + 1)) then
    if (w64 (n + 1)) ≤ (s_v_0123456789.length : Int) then
    if 0 ≤ n then
    if n ≤ (w64 (n + 1)) then
    some (cut s_v_0123456789 n (w64 (n + 1))) else none else none else none else none else
    if ¬ (10 : Int) = 0 then
    (self_law6_digits (w64 (n.tdiv 10))).bind fun r1 =>
    if ¬ (10 : Int) = 0 then
    if ¬ (10 : Int) = 0 then
    if 0 ≤ (w64 ((n.tmod 10) + 1)) then
    if (w64 ((n.tmod 10) + 1)) ≤ (s_v_0123456789.length : Int) then
    if 0 ≤ (n.tmod 10) then
    if (n.tmod 10) ≤ (w64 ((n.tmod 10) + 1)) then
    if r1.length + (cut s_v_0123456789 (n.tmod 10) (w64 ((n.tmod 10) + 1))).length ≤ 9223372036854775807 then
    some (r1 ++ (cut s_v_0123456789 (n.tmod 10) (w64 ((n.tmod 10) + 1)))) else none else none else none else none else none else none else none else none
noncomputable def law6_digits_f : Nat → Int → Option (List UInt8)
  | 0, _ => none
  | k + 1, x0 => law6_digits_b (law6_digits_f k) k x0
noncomputable def law6_digits (n : Int) : Option (List UInt8) := lim (fun k (x : Int) => law6_digits_f k x) n
noncomputable abbrev law6_digits_T (self_law6_digits : Int → Option (List UInt8)) : Tab S := ⟨[⟨18, [.val (.data (.int .i64))], [.val (.data .str)], fun x => self_law6_digits x⟩], [], false, false⟩
noncomputable def law6_digits_L (self_law6_digits : Int → Option (List UInt8)) (k : Nat) : Nat → List (Lab S (List UInt8))
  | _ => []
theorem law6_digits_eq (self_law6_digits : Int → Option (List UInt8)) (k : Nat) (n : Int) : law6_digits_b self_law6_digits k n = exec S (law6_digits_T self_law6_digits) byt (labs S (law6_digits_T self_law6_digits) (law6_digits_L self_law6_digits k)) (ac [] Tryd.f18) (frame0 S [.val (.data (.int .i64))] n) (retK S (law6_digits_T self_law6_digits) Tryd.f18 [.val (.data (.int .i64))] [.val (.data .str)]) := by kernel_rfl
theorem law6_digits_vc (self_law6_digits : Int → Option (List UInt8)) (k : Nat) : VC S (law6_digits_T self_law6_digits) byt (law6_digits_L self_law6_digits k) (law6_digits_L self_law6_digits (k + 1)) (ac [] Tryd.f18) (retK S (law6_digits_T self_law6_digits) Tryd.f18 [.val (.data (.int .i64))] [.val (.data .str)]) = [] := by kernel_rfl
theorem law6_digits_sndk (self_law6_digits : Int → Option (List UInt8)) (hself : Snd Tryd.prog S ⟨18, [.val (.data (.int .i64))], [.val (.data .str)], fun x => self_law6_digits x⟩) (k : Nat) : Snd Tryd.prog S ⟨18, [.val (.data (.int .i64))], [.val (.data .str)], fun x => law6_digits_b self_law6_digits k x⟩ :=
  fn_ok progOk (T := (law6_digits_T self_law6_digits)) (all_cons hself (all_nil)) (all_nil) mixed Tryd.func18 rfl (by kernel_rfl) (ac_code [] Tryd.f18 rfl) (L := law6_digits_L self_law6_digits)
    (fun n l h x => by cases h) (fun k n l h => by cases h)
    (fun k => All.mem (law6_digits_vc self_law6_digits k) trivial) (fun x r h => ⟨k, (law6_digits_eq self_law6_digits k x).symm.trans h⟩) (by kernel_rfl) (by kernel_rfl) (Nat.le_of_ble_eq_true (by kernel_rfl))
theorem law6_digits_sndf : ∀ k, Snd Tryd.prog S ⟨18, [.val (.data (.int .i64))], [.val (.data .str)], fun x => law6_digits_f k x⟩
  | 0 => Snd.none ⟨_, Tryd.func18, by kernel_rfl, by kernel_rfl⟩ fun _ => rfl
  | k + 1 => law6_digits_sndk (law6_digits_f k) (law6_digits_sndf k) k
theorem law6_digits_snd : Snd Tryd.prog S ⟨18, [.val (.data (.int .i64))], [.val (.data .str)], fun x => law6_digits x⟩ := Snd.lim law6_digits_sndf
/-! ### 7 cotillion/cotillionlaw6.LexNumbers -/
noncomputable def law6_LexNumbers  (n : Int) (zero : Bool) : Option Bool := if n < 0 then
    (law6_digits (w64 (0 - (w64 (n + 1))))).bind fun r1 =>
    bif zero then
    if s_v_0.length + r1.length ≤ 9223372036854775807 then
    (lex_All (s_v_0 ++ r1)).bind fun r2 =>
    (lex_All s_v_9223372036854775808).bind fun r3 =>
    bif zero then
    if r2.2.Code = 11 ∧ r2.2.At = 0 then
    if r3.2.Code = 16 then
    (law6_known).bind fun r4 =>
    some r4 else
    some false else
    some false else
    if r2.2.Code = 0 then
    if (r2.1.length : Int) = 2 then
    if (0 : Int) ≤ 0 then
    if 0 < (r2.1.length : Int) then
    if ((r2.1.getD (0 : Int).toNat api_Token.z).Kind) = 2 then
    if (0 : Int) ≤ 0 then
    if 0 < (r2.1.length : Int) then
    if ((r2.1.getD (0 : Int).toNat api_Token.z).N) = (w64 (0 - (w64 (n + 1)))) then
    if r3.2.Code = 16 then
    (law6_known).bind fun r5 =>
    some r5 else
    some false else
    some false else none else none else
    some false else none else none else
    some false else
    some false else none else
    (lex_All r1).bind fun r6 =>
    (lex_All s_v_9223372036854775808).bind fun r7 =>
    bif zero then
    if r6.2.Code = 11 ∧ r6.2.At = 0 then
    if r7.2.Code = 16 then
    (law6_known).bind fun r8 =>
    some r8 else
    some false else
    some false else
    if r6.2.Code = 0 then
    if (r6.1.length : Int) = 2 then
    if (0 : Int) ≤ 0 then
    if 0 < (r6.1.length : Int) then
    if ((r6.1.getD (0 : Int).toNat api_Token.z).Kind) = 2 then
    if (0 : Int) ≤ 0 then
    if 0 < (r6.1.length : Int) then
    if ((r6.1.getD (0 : Int).toNat api_Token.z).N) = (w64 (0 - (w64 (n + 1)))) then
    if r7.2.Code = 16 then
    (law6_known).bind fun r9 =>
    some r9 else
    some false else
    some false else none else none else
    some false else none else none else
    some false else
    some false else
    (law6_digits n).bind fun r10 =>
    bif zero then
    if s_v_0.length + r10.length ≤ 9223372036854775807 then
    (lex_All (s_v_0 ++ r10)).bind fun r11 =>
    (lex_All s_v_9223372036854775808).bind fun r12 =>
    bif zero then
    if r11.2.Code = 11 ∧ r11.2.At = 0 then
    if r12.2.Code = 16 then
    (law6_known).bind fun r13 =>
    some r13 else
    some false else
    some false else
    if r11.2.Code = 0 then
    if (r11.1.length : Int) = 2 then
    if (0 : Int) ≤ 0 then
    if 0 < (r11.1.length : Int) then
    if ((r11.1.getD (0 : Int).toNat api_Token.z).Kind) = 2 then
    if (0 : Int) ≤ 0 then
    if 0 < (r11.1.length : Int) then
    if ((r11.1.getD (0 : Int).toNat api_Token.z).N) = n then
    if r12.2.Code = 16 then
    (law6_known).bind fun r14 =>
    some r14 else
    some false else
    some false else none else none else
    some false else none else none else
    some false else
    some false else none else
    (lex_All r10).bind fun r15 =>
    (lex_All s_v_9223372036854775808).bind fun r16 =>
    bif zero then
    if r15.2.Code = 11 ∧ r15.2.At = 0 then
    if r16.2.Code = 16 then
    (law6_known).bind fun r17 =>
    some r17 else
    some false else
    some false else
    if r15.2.Code = 0 then
    if (r15.1.length : Int) = 2 then
    if (0 : Int) ≤ 0 then
    if 0 < (r15.1.length : Int) then
    if ((r15.1.getD (0 : Int).toNat api_Token.z).Kind) = 2 then
    if (0 : Int) ≤ 0 then
    if 0 < (r15.1.length : Int) then
    if ((r15.1.getD (0 : Int).toNat api_Token.z).N) = n then
    if r16.2.Code = 16 then
    (law6_known).bind fun r18 =>
    some r18 else
    some false else
    some false else none else none else
    some false else none else none else
    some false else
    some false
noncomputable abbrev law6_LexNumbers_T : Tab S := ⟨[⟨18, [.val (.data (.int .i64))], [.val (.data .str)], fun x => law6_digits x⟩, ⟨9, [.val (.data .str)], [.val (.town (.st 0)), .val (.data (.st 1))], fun x => lex_All x⟩, ⟨8, [], [.val (.data .bool)], fun x => law6_known⟩], [], false, false⟩
noncomputable def law6_LexNumbers_L (k : Nat) : Nat → List (Lab S Bool)
  | _ => []
theorem law6_LexNumbers_eq (k : Nat) (n : Int) (zero : Bool) : law6_LexNumbers n zero = exec S (law6_LexNumbers_T) byt (labs S (law6_LexNumbers_T) (law6_LexNumbers_L k)) (ac [] Tryd.f7) (frame0 S [.val (.data (.int .i64)), .val (.data .bool)] (n, zero)) (retK S (law6_LexNumbers_T) Tryd.f7 [.val (.data (.int .i64)), .val (.data .bool)] [.val (.data .bool)]) := by kernel_rfl
theorem law6_LexNumbers_vc (k : Nat) : VC S (law6_LexNumbers_T) byt (law6_LexNumbers_L k) (law6_LexNumbers_L (k + 1)) (ac [] Tryd.f7) (retK S (law6_LexNumbers_T) Tryd.f7 [.val (.data (.int .i64)), .val (.data .bool)] [.val (.data .bool)]) = [] := by kernel_rfl
theorem law6_LexNumbers_snd : Snd Tryd.prog S ⟨7, [.val (.data (.int .i64)), .val (.data .bool)], [.val (.data .bool)], fun x => law6_LexNumbers x.1 x.2⟩ :=
  fn_ok progOk (T := (law6_LexNumbers_T)) (all_cons law6_digits_snd (all_cons lex_All_snd (all_cons law6_known_snd (all_nil)))) (all_nil) mixed Tryd.func7 rfl (by kernel_rfl) (ac_code [] Tryd.f7 rfl) (L := law6_LexNumbers_L)
    (fun n l h x => by cases h) (fun k n l h => by cases h)
    (fun k => All.mem (law6_LexNumbers_vc k) trivial) (fun x r h => ⟨0, (law6_LexNumbers_eq 0 x.1 x.2).symm.trans h⟩) (by kernel_rfl) (by kernel_rfl) (Nat.le_of_ble_eq_true (by kernel_rfl))
end Go.Sy.Lx
/-! lex: bytes; blanks. -/
namespace Go.Sy.Lx
open Go.Sy
theorem u8_back (b : UInt8) : ((b.toNat : Nat) : Int).toNat.toUInt8 = b := by
  rw [Int.toNat_natCast]; exact UInt8.ofNat_toNat
theorem blank_iff (b : UInt8) : (0 ≤ Lib.indexByte s_v b) ↔ ((b.toNat : Int) = 32 ∨ (b.toNat : Int) = 9 ∨ (b.toNat : Int) = 10 ∨ (b.toNat : Int) = 13) := by
  have h : ∀ n, n < 256 → ((0 ≤ Lib.indexByte s_v (Nat.toUInt8 n)) ↔ (((Nat.toUInt8 n).toNat : Int) = 32 ∨ ((Nat.toUInt8 n).toNat : Int) = 9 ∨ ((Nat.toUInt8 n).toNat : Int) = 10 ∨ ((Nat.toUInt8 n).toNat : Int) = 13)) := by decide +kernel
  have := h b.toNat b.toNat_lt
  rwa [show Nat.toUInt8 b.toNat = b from UInt8.ofNat_toNat] at this
theorem skip_eq : ∀ k t a, lex_skip_l0 k t a = ref6_skip_l0 k t a ∧ lex_skip_l1 k t a = ref6_skip_l1 k t a := by
  intro k
  induction k with
  | zero => intro t a; exact ⟨rfl, rfl⟩
  | succ k ih =>
    intro t a
    constructor
    · simp only [lex_skip_l0, ref6_skip_l0, p_IndexByte, bind_some_eq, u8_back]
      by_cases h1 : a < (t.length : Int)
      · by_cases h2 : 0 ≤ a
        · simp only [h1, h2, if_true]
          have hb := blank_iff (t.getD a.toNat 0)
          by_cases hx : 0 ≤ Lib.indexByte s_v (t.getD a.toNat 0)
          · rw [if_pos hx]
            rw [(ih t (w64 (a + 1))).1]
            rcases hb.1 hx with h | h | h | h
            · rw [if_pos h]
            · rw [if_neg (by omega), if_pos h]
            · rw [if_neg (by omega), if_neg (by omega), if_pos h]
            · rw [if_neg (by omega), if_neg (by omega), if_neg (by omega), if_pos h]
          · rw [if_neg hx]
            have h' := fun q => hx (hb.2 q)
            rw [if_neg (fun q => h' (.inl q)), if_neg (fun q => h' (.inr (.inl q))), if_neg (fun q => h' (.inr (.inr (.inl q)))), if_neg (fun q => h' (.inr (.inr (.inr q)))), (ih t a).2]
        · simp only [h1, h2, if_true, if_false]
      · simp only [h1, if_false]
    · simp only [lex_skip_l1, ref6_skip_l1, (ih t (w64 (a + 1))).2, (ih t a).1]
def isDigit (c : Int) : Bool := decide (48 ≤ c ∧ c ≤ 57)
def isLetter (c : Int) : Bool := decide ((97 ≤ c ∧ c ≤ 122) ∨ (65 ≤ c ∧ c ≤ 90) ∨ c = 95)
theorem kind_eq (c : Int) : lex_kind c = some (isLetter c || isDigit c, isDigit c) := by
  have fin : ∀ a b : Bool, ((a = true) ↔ ((97 ≤ c ∧ c ≤ 122) ∨ (65 ≤ c ∧ c ≤ 90) ∨ c = 95) ∨ (48 ≤ c ∧ c ≤ 57)) → ((b = true) ↔ (48 ≤ c ∧ c ≤ 57)) → some (a, b) = some (isLetter c || isDigit c, isDigit c) := by
    intro a b ha hb
    have e1 : a = (isLetter c || isDigit c) := by
      rw [Bool.eq_iff_iff, ha]; simp [isLetter, isDigit]
    have e2 : b = isDigit c := by
      rw [Bool.eq_iff_iff, hb]; simp [isDigit]
    rw [e1, e2]
  unfold lex_kind
  repeat' split
  all_goals
    refine fin _ _ ?_ ?_
    · constructor
      · intro h; first | omega | (cases h)
      · intro h; first | rfl | (exfalso; omega)
    · constructor
      · intro h; first | omega | (cases h)
      · intro h; first | rfl | (exfalso; omega)
theorem letter_eq (c : Int) : ref6_letter c = some (isLetter c) := by
  have fin : ∀ a : Bool, ((a = true) ↔ ((97 ≤ c ∧ c ≤ 122) ∨ (65 ≤ c ∧ c ≤ 90) ∨ c = 95)) → some a = some (isLetter c) := by
    intro a ha
    have e1 : a = isLetter c := by rw [Bool.eq_iff_iff, ha]; simp [isLetter]
    rw [e1]
  unfold ref6_letter
  repeat' split
  all_goals
    refine fin _ ?_
    first
      | (simp only [decide_eq_true_eq]; omega)
      | exact ⟨fun _ => by omega, fun _ => rfl⟩
theorem digit_eq (c : Int) : ref6_digit c = some (isDigit c) := by
  unfold ref6_digit isDigit
  by_cases h : 48 ≤ c
  · rw [if_pos h]; simp [h]
  · rw [if_neg h]; simp [h]
/-- Where blanks and remarks end: 'true' inside a remark. -/
def skipP : Bool → List UInt8 → Nat → Nat
  | _, [], n => n
  | true, b :: t, n => if b = 10 then skipP false t (n + 1) else skipP true t (n + 1)
  | false, b :: t, n => if b = 32 ∨ b = 9 ∨ b = 10 ∨ b = 13 then skipP false t (n + 1) else if b = 35 then skipP true t (n + 1) else n
theorem skipP_ge : ∀ (t : List UInt8) (r : Bool) (n : Nat), n ≤ skipP r t n ∧ skipP r t n ≤ n + t.length := by
  intro t
  induction t with
  | nil => intro r n; cases r <;> exact ⟨Nat.le_refl _, Nat.le_refl _⟩
  | cons b t ih =>
    intro r n
    have h1 := ih true (n + 1)
    have h2 := ih false (n + 1)
    cases r
    · simp only [skipP, List.length_cons]
      split
      · omega
      · split
        · omega
        · omega
    · simp only [skipP, List.length_cons]
      split <;> omega
theorem u8_int (b : UInt8) (n : Nat) (hn : n < 256) : ((b.toNat : Int) = (n : Int)) ↔ b = Nat.toUInt8 n := by
  constructor
  · intro h
    refine UInt8.toNat_inj.1 ?_
    have : (Nat.toUInt8 n).toNat = n := by
      show n % 256 = n
      omega
    omega
  · rintro rfl
    have : (Nat.toUInt8 n).toNat = n := by
      show n % 256 = n
      omega
    omega
theorem skip_run (t : List UInt8) (hl : t.length < 1000000000000) : ∀ m n, n + m = t.length → (∀ k, 3 * m + 1 ≤ k → ref6_skip_l0 k t ((n : Nat) : Int) = some ((skipP false (t.drop n) n : Nat) : Int)) ∧ ∀ k, 3 * m + 2 ≤ k → ref6_skip_l1 k t ((n : Nat) : Int) = some ((skipP true (t.drop n) n : Nat) : Int) := by
  intro m
  induction m with
  | zero =>
    intro n h
    have hd : t.drop n = [] := List.drop_eq_nil_of_le (by omega)
    have h0 : ∀ k, 1 ≤ k → ref6_skip_l0 k t ((n : Nat) : Int) = some ((skipP false (t.drop n) n : Nat) : Int) := by
      intro k hk
      obtain ⟨k, rfl⟩ : ∃ j, k = j + 1 := ⟨k - 1, by omega⟩
      simp only [ref6_skip_l0]
      rw [if_neg (by omega), hd]; rfl
    refine ⟨fun k hk => h0 k (by omega), fun k hk => ?_⟩
    obtain ⟨k, rfl⟩ : ∃ j, k = j + 1 := ⟨k - 1, by omega⟩
    simp only [ref6_skip_l1]
    rw [if_neg (by omega), h0 k (by omega), hd]; rfl
  | succ m ih =>
    intro n h
    have hlt : n < t.length := by omega
    obtain ⟨i0, i1⟩ := ih (n + 1) (by omega)
    have e : w64 ((n : Int) + 1) = ((n + 1 : Nat) : Int) := by rw [w64_in (by omega) (by omega)]; omega
    have hd : t.drop n = t[n] :: t.drop (n + 1) := List.drop_eq_getElem_cons hlt
    have c10 : ((t[n].toNat : Nat) : Int) = 10 ↔ t[n] = 10 := u8_int t[n] 10 (by decide)
    have c32 : ((t[n].toNat : Nat) : Int) = 32 ↔ t[n] = 32 := u8_int t[n] 32 (by decide)
    have c9 : ((t[n].toNat : Nat) : Int) = 9 ↔ t[n] = 9 := u8_int t[n] 9 (by decide)
    have c13 : ((t[n].toNat : Nat) : Int) = 13 ↔ t[n] = 13 := u8_int t[n] 13 (by decide)
    have c35 : ((t[n].toNat : Nat) : Int) = 35 ↔ t[n] = 35 := u8_int t[n] 35 (by decide)
    have h0 : ∀ k, 3 * (m + 1) + 1 ≤ k → ref6_skip_l0 k t ((n : Nat) : Int) = some ((skipP false (t.drop n) n : Nat) : Int) := by
      intro k hk
      obtain ⟨k, rfl⟩ : ∃ j, k = j + 1 := ⟨k - 1, by omega⟩
      simp only [ref6_skip_l0]
      have g1 : (n : Int) < (t.length : Int) := by omega
      have g0 : 0 ≤ (n : Int) := by omega
      simp only [g0, g1, if_true, Int.toNat_natCast, getD_lt _ hlt, e]
      rw [hd, i0 k (by omega)]
      have l1 : t[n] = 35 → ref6_skip_l1 k t ((n : Nat) : Int) = some ((skipP true (t.drop (n + 1)) (n + 1) : Nat) : Int) := by
        intro hb
        obtain ⟨k, rfl⟩ : ∃ j, k = j + 1 := ⟨k - 1, by omega⟩
        simp only [ref6_skip_l1]
        rw [if_pos g1, if_pos g0, if_pos g1, Int.toNat_natCast, getD_lt _ hlt, if_pos (by rw [hb]; decide), e]
        exact i1 k (by omega)
      simp only [skipP]
      by_cases b32 : t[n] = 32
      · rw [if_pos (c32.2 b32), if_pos (.inl b32)]
      · rw [if_neg (fun q => b32 (c32.1 q))]
        by_cases b9 : t[n] = 9
        · rw [if_pos (c9.2 b9), if_pos (.inr (.inl b9))]
        · rw [if_neg (fun q => b9 (c9.1 q))]
          by_cases b10 : t[n] = 10
          · rw [if_pos (c10.2 b10), if_pos (.inr (.inr (.inl b10)))]
          · rw [if_neg (fun q => b10 (c10.1 q))]
            by_cases b13 : t[n] = 13
            · rw [if_pos (c13.2 b13), if_pos (.inr (.inr (.inr b13)))]
            · have hno : ¬ (t[n] = 32 ∨ t[n] = 9 ∨ t[n] = 10 ∨ t[n] = 13) := fun q => q.elim b32 fun q => q.elim b9 fun q => q.elim b10 b13
              rw [if_neg (fun q => b13 (c13.1 q)), if_neg hno]
              by_cases b35 : t[n] = 35
              · rw [if_pos (c35.2 b35), if_pos b35, l1 b35]
              · rw [if_neg (fun q => b35 (c35.1 q)), if_neg b35]
    refine ⟨h0, fun k hk => ?_⟩
    obtain ⟨k, rfl⟩ : ∃ j, k = j + 1 := ⟨k - 1, by omega⟩
    simp only [ref6_skip_l1]
    rw [if_pos (by omega), if_pos (by omega), if_pos (by omega), Int.toNat_natCast, getD_lt _ hlt, e]
    by_cases b10 : t[n] = 10
    · rw [if_neg (fun q => q (c10.2 b10)), h0 k (by omega), hd]
      simp only [skipP]
      rw [if_pos (.inr (.inr (.inl b10))), if_pos b10]
    · rw [if_pos (fun q => b10 (c10.1 q)), i1 k (by omega), hd]
      simp only [skipP]
      rw [if_neg b10]
end Go.Sy.Lx
/-! lex: the plain law of a token. -/
namespace Go.Sy.Lx
open Go.Sy
def dg (b : UInt8) : Bool := isDigit (b.toNat : Int)
def lt (b : UInt8) : Bool := isLetter (b.toNat : Int)
def nm (b : UInt8) : Bool := lt b || dg b
/-- How far a run goes. -/
def runP (p : UInt8 → Bool) (t : List UInt8) (n : Nat) : Nat := n + ((t.drop n).takeWhile p).length
theorem runP_stop {p : UInt8 → Bool} {t : List UInt8} {n : Nat} (h : t.length ≤ n) : runP p t n = n := by
  unfold runP; rw [List.drop_eq_nil_of_le h]; rfl
theorem runP_yes {p : UInt8 → Bool} {t : List UInt8} {n : Nat} (h : n < t.length) (hp : p t[n] = true) : runP p t n = runP p t (n + 1) := by
  unfold runP; rw [List.drop_eq_getElem_cons h, List.takeWhile_cons_of_pos hp]; simp only [List.length_cons]; omega
theorem runP_no {p : UInt8 → Bool} {t : List UInt8} {n : Nat} (h : n < t.length) (hp : p t[n] = false) : runP p t n = n := by
  unfold runP; rw [List.drop_eq_getElem_cons h, List.takeWhile_cons_of_neg (by simp [hp])]; rfl
theorem takeWhile_le (p : UInt8 → Bool) : ∀ l : List UInt8, (l.takeWhile p).length ≤ l.length := fun l => by
  induction l with
  | nil => exact Nat.le_refl _
  | cons a l ih => rw [List.takeWhile_cons]; split <;> simp <;> omega
theorem runP_ge (p : UInt8 → Bool) (t : List UInt8) (n : Nat) (h : n ≤ t.length) : n ≤ runP p t n ∧ runP p t n ≤ t.length := by
  unfold runP
  have := takeWhile_le p (t.drop n)
  rw [List.length_drop] at this
  omega
theorem cut_run (p : UInt8 → Bool) (t : List UInt8) (n : Nat) : cut t ((n : Nat) : Int) ((runP p t n : Nat) : Int) = (t.drop n).takeWhile p := by
  unfold cut runP
  rw [Int.toNat_natCast, Int.toNat_natCast, List.drop_take, Nat.add_sub_cancel_left]
  generalize t.drop n = l
  induction l with
  | nil => rfl
  | cons a l ih => rw [List.takeWhile_cons]; split
                   · rw [List.length_cons, List.take_succ_cons, ih]
                   · rfl
theorem end_run (t : List UInt8) (f : Bool) (hl : t.length < 1000000000000) : ∀ m n, n + m = t.length → ∀ k, m + 1 ≤ k → lex_end_l0 k t ((n : Nat) : Int) f = some ((runP (fun b => bif f then dg b else nm b) t n : Nat) : Int) := by
  intro m
  induction m with
  | zero =>
    intro n h k hk
    obtain ⟨k, rfl⟩ : ∃ j, k = j + 1 := ⟨k - 1, by omega⟩
    simp only [lex_end_l0]
    rw [if_neg (by omega), runP_stop (by omega)]
  | succ m ih =>
    intro n h k hk
    obtain ⟨k, rfl⟩ : ∃ j, k = j + 1 := ⟨k - 1, by omega⟩
    have hlt : n < t.length := by omega
    have e : w64 ((n : Int) + 1) = ((n + 1 : Nat) : Int) := by rw [w64_in (by omega) (by omega)]; omega
    simp only [lex_end_l0, kind_eq, bind_some_eq]
    rw [if_pos (by omega), if_pos (by omega), if_pos (by omega), Int.toNat_natCast, getD_lt _ hlt, e, ih (n + 1) (by omega) k (by omega)]
    have key : ∀ a b : Bool, lt t[n] = a → dg t[n] = b → (bif !(a || b) then some ((n : Nat) : Int) else bif f then bif !b then some ((n : Nat) : Int) else some ((runP (fun b => bif f then dg b else nm b) t (n + 1) : Nat) : Int) else some ((runP (fun b => bif f then dg b else nm b) t (n + 1) : Nat) : Int)) = some ((runP (fun b => bif f then dg b else nm b) t n : Nat) : Int) := by
      intro a b ha hb
      cases f <;> cases a <;> cases b <;> simp only [Bool.or_self, Bool.not_true, Bool.not_false, Bool.or_true, Bool.true_or, Bool.or_false, Bool.false_or, cond_true, cond_false]
      all_goals
        first
          | (rw [runP_no hlt ?_]; simp [nm, ha, hb]; done)
          | (rw [runP_yes hlt ?_]; simp [nm, ha, hb]; done)
    exact key _ _ rfl rfl
theorem end_eq (t : List UInt8) (n : Nat) (hl : t.length < 1000000000000) (h : n < t.length) : lex_end t ((n : Nat) : Int) = some ((runP (fun b => bif dg t[n] then dg b else nm b) t n : Nat) : Int) := by
  refine lim_eq (t.length - n + 1) fun k hk => ?_
  simp only [lex_end_f, kind_eq, bind_some_eq]
  rw [if_pos (by omega), if_pos (by omega), Int.toNat_natCast, getD_lt _ h]
  exact end_run t _ hl (t.length - n) n (by omega) k (by omega)
/-! Numbers. -/
def valP (acc : Nat) : List UInt8 → Option Nat
  | [] => some acc
  | c :: r => if (9223372036854775807 - (c.toNat - 48)) / 10 < acc then none else valP (10 * acc + (c.toNat - 48)) r
theorem dg_iff (b : UInt8) : dg b = true ↔ 48 ≤ b.toNat ∧ b.toNat ≤ 57 := by
  unfold dg isDigit
  rw [decide_eq_true_eq]
  omega
theorem big_run : ∀ (l : List UInt8) (acc : Nat), (∀ c ∈ l, dg c = true) → 9223372036854775808 ≤ acc → Lib.parseUintM (2 ^ 64 - 1) acc l = .range ∨ ∃ u, 9223372036854775808 ≤ u ∧ Lib.parseUintM (2 ^ 64 - 1) acc l = .ok u := by
  intro l acc hd ha
  cases l with
  | nil => exact .inr ⟨acc, ha, rfl⟩
  | cons c r =>
    refine .inl ?_
    have := (dg_iff c).1 (hd c (by simp))
    unfold Lib.parseUintM
    rw [if_pos this, if_pos (by omega)]
theorem val_run : ∀ (l : List UInt8) (acc : Nat), (∀ c ∈ l, dg c = true) → acc < 9223372036854775808 →
    (∀ v, valP acc l = some v → v < 9223372036854775808 ∧ Lib.parseUintM (2 ^ 64 - 1) acc l = .ok v) ∧ (valP acc l = none → Lib.parseUintM (2 ^ 64 - 1) acc l = .range ∨ ∃ u, 9223372036854775808 ≤ u ∧ Lib.parseUintM (2 ^ 64 - 1) acc l = .ok u) := by
  intro l
  induction l with
  | nil => intro acc _ ha; exact ⟨fun v h => by cases h; exact ⟨ha, rfl⟩, fun h => by cases h⟩
  | cons c r ih =>
    intro acc hd ha
    have hc := (dg_iff c).1 (hd c (by simp))
    have hr : ∀ c ∈ r, dg c = true := fun x hx => hd x (by simp [hx])
    unfold valP Lib.parseUintM
    rw [if_pos hc]
    by_cases h : (9223372036854775807 - (c.toNat - 48)) / 10 < acc
    · rw [if_pos h]
      refine ⟨fun v h => by (cases h), fun _ => ?_⟩
      by_cases h1 : 1844674407370955162 ≤ acc
      · rw [if_pos h1]; exact .inl rfl
      · rw [if_neg h1]
        by_cases h2 : 2 ^ 64 - 1 < acc * 10 + (c.toNat - 48)
        · rw [if_pos h2]; exact .inl rfl
        · rw [if_neg h2]
          exact big_run r _ hr (by omega)
    · rw [if_neg h, if_neg (by omega), if_neg (by omega), show acc * 10 + (c.toNat - 48) = 10 * acc + (c.toNat - 48) by omega]
      exact ih _ hr (by omega)
/-- What digits tell. -/
def numP (l : List UInt8) : Int × Int := if 1 < l.length ∧ l.getD 0 0 = 48 then (0, 11) else match valP 0 l with | some v => ((v : Int), 0) | none => (0, 16)
theorem num_eq (l : List UInt8) (h0 : l ≠ []) (hd : ∀ c ∈ l, dg c = true) : numOf l = numP l := by
  unfold numOf numP
  by_cases h : 1 < l.length ∧ l.getD 0 0 = 48
  · rw [if_pos h, if_pos h]
  · rw [if_neg h, if_neg h]
    obtain ⟨c, r, rfl⟩ : ∃ c r, l = c :: r := by cases l with
      | nil => exact absurd rfl h0
      | cons c r => exact ⟨c, r, rfl⟩
    have hc := (dg_iff c).1 (hd c (by simp))
    obtain ⟨v1, v2⟩ := val_run (c :: r) 0 hd (by omega)
    have e : (∀ u, Lib.parseUintM (2 ^ 64 - 1) 0 (c :: r) = .ok u → Lib.parseIntB 64 (c :: r) = if 9223372036854775808 ≤ u then .range else .ok (u : Int)) ∧ (Lib.parseUintM (2 ^ 64 - 1) 0 (c :: r) = .range → Lib.parseIntB 64 (c :: r) = .range) := by
      unfold Lib.parseIntB Lib.parseUintB
      simp only []
      rw [if_neg (show ¬ (c.toNat = 43 ∨ c.toNat = 45) by omega), if_neg (by simp)]
      constructor
      · intro u hu
        rw [hu]
        simp only [show ¬ c.toNat = 45 by omega, not_false_eq_true, true_and, false_and, if_false]
      · intro hu
        rw [hu]
    cases hv : valP 0 (c :: r) with
    | some v =>
      obtain ⟨a, b⟩ := v1 v hv
      rw [e.1 v b, if_neg (by omega)]
    | none =>
      rcases v2 hv with b | ⟨u, a, b⟩
      · rw [e.2 b]
      · rw [e.1 u b, if_pos a]
theorem value_run (t : List UInt8) (hl : t.length < 1000000000000) (hd : ∀ c ∈ t, dg c = true) : ∀ m n acc, n + m = t.length → acc < 9223372036854775808 → ∀ k, m + 1 ≤ k → ref6_value_l0 k t ((acc : Nat) : Int) ((n : Nat) : Int) = some (match valP acc (t.drop n) with | some v => ((v : Int), true) | none => (0, false)) := by
  intro m
  induction m with
  | zero =>
    intro n acc h ha k hk
    obtain ⟨k, rfl⟩ : ∃ j, k = j + 1 := ⟨k - 1, by omega⟩
    simp only [ref6_value_l0]
    rw [if_neg (by omega), List.drop_eq_nil_of_le (by omega)]
    rfl
  | succ m ih =>
    intro n acc h ha k hk
    obtain ⟨k, rfl⟩ : ∃ j, k = j + 1 := ⟨k - 1, by omega⟩
    have hlt : n < t.length := by omega
    have hc := (dg_iff t[n]).1 (hd _ (List.getElem_mem hlt))
    have e : w64 ((n : Int) + 1) = ((n + 1 : Nat) : Int) := by rw [w64_in (by omega) (by omega)]; omega
    have e1 : wu8 (((t[n]).toNat : Int) - 48) = ((t[n].toNat - 48 : Nat) : Int) := by rw [wu8_in (by omega) (by omega)]; omega
    have e2 : w64 ((t[n].toNat - 48 : Nat) : Int) = ((t[n].toNat - 48 : Nat) : Int) := w64_in (by omega) (by omega)
    have e3 : w64 (9223372036854775807 - ((t[n].toNat - 48 : Nat) : Int)) = ((9223372036854775807 - (t[n].toNat - 48) : Nat) : Int) := by rw [w64_in (by omega) (by omega)]; omega
    have e4 : Int.tdiv ((9223372036854775807 - (t[n].toNat - 48) : Nat) : Int) 10 = (((9223372036854775807 - (t[n].toNat - 48)) / 10 : Nat) : Int) := by
      rw [Int.tdiv_eq_ediv_of_nonneg (by omega)]; omega
    have e5 : w64 (((9223372036854775807 - (t[n].toNat - 48)) / 10 : Nat) : Int) = (((9223372036854775807 - (t[n].toNat - 48)) / 10 : Nat) : Int) := w64_in (by omega) (by omega)
    simp only [ref6_value_l0]
    rw [if_pos (by omega), if_pos (by omega), if_pos (by omega), if_pos (by decide), Int.toNat_natCast, getD_lt _ hlt, e, e1, e2, e3, e4, e5, List.drop_eq_getElem_cons hlt]
    unfold valP
    by_cases hb : (9223372036854775807 - (t[n].toNat - 48)) / 10 < acc
    · rw [if_pos (by omega), if_pos hb]
    · rw [if_neg (by omega), if_neg hb]
      have e6 : w64 (w64 (10 * (acc : Int)) + ((t[n].toNat - 48 : Nat) : Int)) = ((10 * acc + (t[n].toNat - 48) : Nat) : Int) := by
        rw [w64_in (n := 10 * (acc : Int)) (by omega) (by omega), w64_in (by omega) (by omega)]; omega
      rw [e6]
      exact ih (n + 1) _ (by omega) (by omega) k (by omega)
theorem value_eq (t : List UInt8) (hl : t.length < 1000000000000) (hd : ∀ c ∈ t, dg c = true) : ref6_value t = some (match valP 0 t with | some v => ((v : Int), true) | none => (0, false)) :=
  lim_eq (t.length + 1) fun k hk => value_run t hl hd t.length 0 0 (by omega) (by omega) k hk
/-! Signs. -/
def pairsP : List (List UInt8) := [[45, 62], [61, 61], [33, 61], [60, 61], [62, 61], [38, 38], [124, 124]]
def signP : List UInt8 → Nat
  | [] => 0
  | [b] => if b ∈ s_v__ then 1 else 0
  | b :: c :: _ => if [b, c] ∈ pairsP then 2 else if b ∈ s_v__ then 1 else 0
theorem index_mem (l : List UInt8) (c : UInt8) : 0 ≤ Lib.indexByte l c ↔ c ∈ l := by
  induction l with
  | nil => simp [Lib.indexByte]
  | cons b l ih =>
    unfold Lib.indexByte
    have hge := Lib.indexByte_ge l c
    by_cases h : b = c
    · subst h; simp
    · rw [if_neg (by simpa using h)]
      rw [List.mem_cons]
      by_cases h1 : Lib.indexByte l c = -1
      · rw [if_pos (by simp [h1])]
        constructor
        · intro x; omega
        · rintro (rfl | x)
          · exact absurd rfl h
          · have := ih.2 x; omega
      · rw [if_neg (by simpa using h1)]
        constructor
        · intro x; exact .inr (ih.1 (by omega))
        · rintro (rfl | x)
          · exact absurd rfl h
          · have := ih.2 x; omega
theorem contains_iff (s sub : List UInt8) : Lib.contains s sub = true ↔ ∃ i, i ≤ s.length ∧ Lib.occAt s sub i = true := by
  unfold Lib.contains
  rw [decide_eq_true_eq]
  rcases Lib.index_spec s sub with ⟨h1, h2⟩ | ⟨i, h1, h2, h3, _⟩
  · constructor
    · intro h; omega
    · rintro ⟨i, hi, h⟩; rw [h2 i hi] at h; cases h
  · exact ⟨fun _ => ⟨i, h2, h3⟩, fun _ => by omega⟩
set_option maxRecDepth 100000 in
theorem pair_eq (b c : UInt8) (hb : b ≠ 32) (hc : c ≠ 32) : Lib.contains s_v_ [b, c] = decide ([b, c] ∈ pairsP) := by
  rw [Bool.eq_iff_iff, contains_iff, decide_eq_true_eq]
  constructor
  · rintro ⟨i, hi, h⟩
    have hi' : i = 0 ∨ i = 1 ∨ i = 2 ∨ i = 3 ∨ i = 4 ∨ i = 5 ∨ i = 6 ∨ i = 7 ∨ i = 8 ∨ i = 9 ∨ i = 10 ∨ i = 11 ∨ i = 12 ∨ i = 13 ∨ i = 14 ∨ i = 15 ∨ i = 16 ∨ i = 17 ∨ i = 18 ∨ i = 19 ∨ i = 20 := by
      have : i ≤ 20 := hi
      omega
    clear hi
    rcases hi' with rfl | rfl | rfl | rfl | rfl | rfl | rfl | rfl | rfl | rfl | rfl | rfl | rfl | rfl | rfl | rfl | rfl | rfl | rfl | rfl | rfl
    all_goals
      simp only [Lib.occAt, List.drop_succ_cons, List.drop_zero, List.drop_nil, List.isPrefixOf, Bool.and_true, Bool.and_eq_true, beq_iff_eq, Bool.and_false, Bool.false_eq_true, and_false] at h
    all_goals
      first
        | exact absurd h.1 hb
        | exact absurd h.2 hc
        | (obtain ⟨rfl, rfl⟩ := h; decide)
  · intro h
    simp only [pairsP, List.mem_cons, List.cons.injEq, and_true, List.not_mem_nil, or_false] at h
    rcases h with ⟨rfl, rfl⟩ | ⟨rfl, rfl⟩ | ⟨rfl, rfl⟩ | ⟨rfl, rfl⟩ | ⟨rfl, rfl⟩ | ⟨rfl, rfl⟩ | ⟨rfl, rfl⟩
    · exact ⟨0, by decide, by decide⟩
    · exact ⟨3, by decide, by decide⟩
    · exact ⟨6, by decide, by decide⟩
    · exact ⟨9, by decide, by decide⟩
    · exact ⟨12, by decide, by decide⟩
    · exact ⟨15, by decide, by decide⟩
    · exact ⟨18, by decide, by decide⟩
theorem cut2 (t : List UInt8) (n : Nat) (h : n + 1 < t.length) : cut t ((n : Nat) : Int) ((n + 2 : Nat) : Int) = [t[n], t[n + 1]] := by
  unfold cut
  rw [Int.toNat_natCast, Int.toNat_natCast, List.drop_take, Nat.add_sub_cancel_left, List.drop_eq_getElem_cons (by omega : n < t.length), List.drop_eq_getElem_cons h]
  rfl
theorem signP_two (t : List UInt8) (n : Nat) (h : n + 1 < t.length) : signP (t.drop n) = if [t[n], t[n + 1]] ∈ pairsP then 2 else if t[n] ∈ s_v__ then 1 else 0 := by
  rw [List.drop_eq_getElem_cons (by omega : n < t.length), List.drop_eq_getElem_cons h]; rfl
theorem signP_one (t : List UInt8) (n : Nat) (h : n + 1 = t.length) : signP (t.drop n) = if t[n] ∈ s_v__ then 1 else 0 := by
  rw [List.drop_eq_getElem_cons (by omega : n < t.length), List.drop_eq_nil_of_le (by omega)]; rfl
theorem no32 (b : UInt8) : [b, (32 : UInt8)] ∉ pairsP := by
  simp only [pairsP, List.mem_cons, List.cons.injEq, and_true, List.not_mem_nil, or_false]
  rintro (⟨_, h⟩ | ⟨_, h⟩ | ⟨_, h⟩ | ⟨_, h⟩ | ⟨_, h⟩ | ⟨_, h⟩ | ⟨_, h⟩) <;> revert h <;> decide
theorem u8_b (b : UInt8) : b.toNat.toUInt8 = b := UInt8.ofNat_toNat
theorem lsign_eq (t : List UInt8) (n : Nat) (hl : t.length < 1000000000000) (h : n < t.length) (hb : t[n] ≠ 32) : lex_sign t ((n : Nat) : Int) = some ((n + signP (t.drop n) : Nat) : Int) := by
  have e1 : w64 ((n : Int) + 1) = ((n + 1 : Nat) : Int) := by rw [w64_in (by omega) (by omega)]; omega
  have e2 : w64 ((n : Int) + 2) = ((n + 2 : Nat) : Int) := by rw [w64_in (by omega) (by omega)]; omega
  unfold lex_sign
  simp only [p_IndexByte, p_Contains, bind_some_eq, u8_back, e1, e2, Int.toNat_natCast, getD_lt _ h, index_mem, u8_b]
  have hone : (if t[n] ∈ s_v__ then some ((n + 1 : Nat) : Int) else some ((n : Nat) : Int)) = some ((n + (if t[n] ∈ s_v__ then 1 else 0) : Nat) : Int) := by
    split <;> rfl
  by_cases h1 : n + 1 < t.length
  · rw [if_pos (by omega), if_pos (by omega), if_pos (by omega), getD_lt _ h1, signP_two t n h1]
    by_cases hc : t[n + 1] = 32
    · rw [if_neg (by rw [hc]; decide), if_pos (by omega), if_pos (by omega), hc, if_neg (no32 _), hone]
    · have hc' : ((t[n + 1].toNat : Nat) : Int) ≠ 32 := fun q => hc ((u8_int _ 32 (by decide)).1 q)
      rw [if_pos hc', if_pos (by omega), if_pos (by omega), if_pos (by omega), if_pos (by omega), cut2 t n h1, if_pos (by decide), bind_some_eq, pair_eq _ _ hb hc]
      by_cases hp : [t[n], t[n + 1]] ∈ pairsP
      · rw [if_pos hp, decide_eq_true hp]; rfl
      · rw [if_neg hp, decide_eq_false hp, cond_false, if_pos (by omega), if_pos (by omega), hone]
  · rw [if_neg (by omega), if_pos (by omega), if_pos (by omega), signP_one t n (by omega), hone]
theorem ones_run (s : List UInt8) (i : Nat) (hi : i < s.length) (one : List UInt8) (hl : one.length < 1000000000000) : ∀ m n, n + m = one.length → ∀ k, m + 1 ≤ k → ref6_sign_l1 k s ((i : Nat) : Int) one ((n : Nat) : Int) = some (if s[i] ∈ one.drop n then 1 else 0) := by
  intro m
  induction m with
  | zero =>
    intro n h k hk
    obtain ⟨k, rfl⟩ : ∃ j, k = j + 1 := ⟨k - 1, by omega⟩
    simp only [ref6_sign_l1]
    rw [if_neg (by omega), List.drop_eq_nil_of_le (by omega)]
    simp
  | succ m ih =>
    intro n h k hk
    obtain ⟨k, rfl⟩ : ∃ j, k = j + 1 := ⟨k - 1, by omega⟩
    have hlt : n < one.length := by omega
    have e : w64 ((n : Int) + 1) = ((n + 1 : Nat) : Int) := by rw [w64_in (by omega) (by omega)]; omega
    simp only [ref6_sign_l1]
    rw [if_pos (by omega), if_pos (by omega), if_pos (by omega), if_pos (by omega), if_pos (by omega), Int.toNat_natCast, Int.toNat_natCast, getD_lt _ hlt, getD_lt _ hi, e, ih (n + 1) (by omega) k (by omega), List.drop_eq_getElem_cons hlt]
    by_cases hx : s[i] = one[n]
    · rw [if_pos (by rw [hx]), if_pos (by rw [hx]; exact List.mem_cons_self ..)]
    · rw [if_neg (fun q => hx (UInt8.toNat_inj.1 (by omega)))]
      congr 1
      have : (s[i] ∈ one[n] :: one.drop (n + 1)) ↔ s[i] ∈ one.drop (n + 1) := by rw [List.mem_cons]; exact ⟨fun q => q.elim (fun q => absurd q hx) id, .inr⟩
      simp only [this]
theorem rsign_eq (t : List UInt8) (n : Nat) (hl : t.length < 1000000000000) (h : n < t.length) : ref6_sign t ((n : Nat) : Int) = some ((signP (t.drop n) : Nat) : Int) := by
  have e1 : w64 ((n : Int) + 1) = ((n + 1 : Nat) : Int) := by rw [w64_in (by omega) (by omega)]; omega
  have e2 : w64 ((n : Int) + 2) = ((n + 2 : Nat) : Int) := by rw [w64_in (by omega) (by omega)]; omega
  refine lim_eq 50 fun k hk => ?_
  obtain ⟨k, rfl⟩ : ∃ j, k = j + 8 := ⟨k - 8, by omega⟩
  have hone := ones_run t n h s_v__ (by decide) 20 0 (by decide) k (by omega)
  have k1 : w64 ((0 : Int) + 1) = 1 := by decide
  have k2 : w64 ((1 : Int) + 1) = 2 := by decide
  have k3 : w64 ((2 : Int) + 1) = 3 := by decide
  have k4 : w64 ((3 : Int) + 1) = 4 := by decide
  have k5 : w64 ((4 : Int) + 1) = 5 := by decide
  have k6 : w64 ((5 : Int) + 1) = 6 := by decide
  have k7 : w64 ((6 : Int) + 1) = 7 := by decide
  have hone' : ref6_sign_l1 k t ((n : Nat) : Int) s_v__ 0 = some (if t[n] ∈ s_v__ then 1 else 0) := hone
  have fin : some (if t[n] ∈ s_v__ then (1 : Int) else 0) = some (((if t[n] ∈ s_v__ then 1 else 0 : Nat)) : Int) := by split <;> rfl
  by_cases h1 : n + 1 < t.length
  · have g1 : ((n + 1 : Nat) : Int) < (t.length : Int) := by omega
    have g2 : (0 : Int) ≤ ((n + 2 : Nat) : Int) := by omega
    have g3 : ((n + 2 : Nat) : Int) ≤ (t.length : Int) := by omega
    have g4 : (0 : Int) ≤ (n : Int) := by omega
    have g5 : (n : Int) ≤ ((n + 2 : Nat) : Int) := by omega
    have hm : [t[n], t[n + 1]] ∈ pairsP ↔ ([t[n], t[n + 1]] = s_v___ ∨ [t[n], t[n + 1]] = s_v____ ∨ [t[n], t[n + 1]] = s_v_____ ∨ [t[n], t[n + 1]] = s_v______ ∨ [t[n], t[n + 1]] = s_v_______ ∨ [t[n], t[n + 1]] = s_v________ ∨ [t[n], t[n + 1]] = s_v_________) := by
      unfold pairsP
      rw [List.mem_cons, List.mem_cons, List.mem_cons, List.mem_cons, List.mem_cons, List.mem_cons, List.mem_singleton]
    have q0 : (0 : Int) < (([s_v___, s_v____, s_v_____, s_v______, s_v_______, s_v________, s_v_________].length : Nat) : Int) := by decide
    have q1 : (1 : Int) < (([s_v___, s_v____, s_v_____, s_v______, s_v_______, s_v________, s_v_________].length : Nat) : Int) := by decide
    have q2 : (2 : Int) < (([s_v___, s_v____, s_v_____, s_v______, s_v_______, s_v________, s_v_________].length : Nat) : Int) := by decide
    have q3 : (3 : Int) < (([s_v___, s_v____, s_v_____, s_v______, s_v_______, s_v________, s_v_________].length : Nat) : Int) := by decide
    have q4 : (4 : Int) < (([s_v___, s_v____, s_v_____, s_v______, s_v_______, s_v________, s_v_________].length : Nat) : Int) := by decide
    have q5 : (5 : Int) < (([s_v___, s_v____, s_v_____, s_v______, s_v_______, s_v________, s_v_________].length : Nat) : Int) := by decide
    have q6 : (6 : Int) < (([s_v___, s_v____, s_v_____, s_v______, s_v_______, s_v________, s_v_________].length : Nat) : Int) := by decide
    simp only [ref6_sign_f, ref6_sign_l0, arr_0, k1, k2, k3, k4, k5, k6, k7, e1, e2, g1, g2, g3, g4, g5, if_true, cut2 t n h1, hone', signP_two t n h1]
    simp only [show (0 : Int) < 7 by decide, show (1 : Int) < 7 by decide, show (2 : Int) < 7 by decide, show (3 : Int) < 7 by decide, show (4 : Int) < 7 by decide, show (5 : Int) < 7 by decide, show (6 : Int) < 7 by decide, show ¬ (7 : Int) < 7 by decide, show (0 : Int) ≤ 0 by decide, show (0 : Int) ≤ 1 by decide, show (0 : Int) ≤ 2 by decide, show (0 : Int) ≤ 3 by decide, show (0 : Int) ≤ 4 by decide, show (0 : Int) ≤ 5 by decide, show (0 : Int) ≤ 6 by decide, if_true, if_false, q0, q1, q2, q3, q4, q5, q6]
    simp only [hm]
    by_cases p0 : [t[n], t[n + 1]] = s_v___
    · rw [if_pos (by exact p0), if_pos (.inl p0)]; rfl
    · rw [if_neg (by exact p0)]
      by_cases p1 : [t[n], t[n + 1]] = s_v____
      · rw [if_pos (by exact p1), if_pos (.inr (.inl p1))]; rfl
      · rw [if_neg (by exact p1)]
        by_cases p2 : [t[n], t[n + 1]] = s_v_____
        · rw [if_pos (by exact p2), if_pos (.inr (.inr (.inl p2)))]; rfl
        · rw [if_neg (by exact p2)]
          by_cases p3 : [t[n], t[n + 1]] = s_v______
          · rw [if_pos (by exact p3), if_pos (.inr (.inr (.inr (.inl p3))))]; rfl
          · rw [if_neg (by exact p3)]
            by_cases p4 : [t[n], t[n + 1]] = s_v_______
            · rw [if_pos (by exact p4), if_pos (.inr (.inr (.inr (.inr (.inl p4)))))]; rfl
            · rw [if_neg (by exact p4)]
              by_cases p5 : [t[n], t[n + 1]] = s_v________
              · rw [if_pos (by exact p5), if_pos (.inr (.inr (.inr (.inr (.inr (.inl p5))))))]; rfl
              · rw [if_neg (by exact p5)]
                by_cases p6 : [t[n], t[n + 1]] = s_v_________
                · rw [if_pos (by exact p6), if_pos (.inr (.inr (.inr (.inr (.inr (.inr p6))))))]; rfl
                · rw [if_neg (by exact p6)]
                  have hn : ¬ ([t[n], t[n + 1]] = s_v___ ∨ [t[n], t[n + 1]] = s_v____ ∨ [t[n], t[n + 1]] = s_v_____ ∨ [t[n], t[n + 1]] = s_v______ ∨ [t[n], t[n + 1]] = s_v_______ ∨ [t[n], t[n + 1]] = s_v________ ∨ [t[n], t[n + 1]] = s_v_________) := fun q => q.elim p0 fun q => q.elim p1 fun q => q.elim p2 fun q => q.elim p3 fun q => q.elim p4 fun q => q.elim p5 p6
                  rw [if_neg hn]
                  exact fin
  · have g1 : ¬ ((n + 1 : Nat) : Int) < (t.length : Int) := by omega
    simp only [ref6_sign_f, ref6_sign_l0, arr_0, k1, k2, k3, k4, k5, k6, k7, e1, e2, g1, if_false, hone', signP_one t n (by omega : n + 1 = t.length)]
    simp only [show (0 : Int) < 7 by decide, show (1 : Int) < 7 by decide, show (2 : Int) < 7 by decide, show (3 : Int) < 7 by decide, show (4 : Int) < 7 by decide, show (5 : Int) < 7 by decide, show (6 : Int) < 7 by decide, show ¬ (7 : Int) < 7 by decide, if_true, if_false]
    exact fin
end Go.Sy.Lx
/-! lex: tokens and texts. -/
namespace Go.Sy.Lx
open Go.Sy
/-- The token at a place that is not blank. -/
def tokP (t : List UInt8) (n : Nat) : api_Token × Int :=
  if dg (t.getD n 0) then
    (let r := numP ((t.drop n).takeWhile dg)
     if r.2 ≠ 0 then (api_Token.mk 0 0 0 [] 0, r.2) else (api_Token.mk 2 n (runP dg t n : Nat) ((t.drop n).takeWhile dg) r.1, 0))
  else if lt (t.getD n 0) then
    (if n + 24 < runP nm t n then (api_Token.mk 0 0 0 [] 0, 13) else (api_Token.mk 1 n (runP nm t n : Nat) ((t.drop n).takeWhile nm) 0, 0))
  else if signP (t.drop n) = 0 then (api_Token.mk 0 0 0 [] 0, 10)
  else (api_Token.mk 3 n (n + signP (t.drop n) : Nat) ((t.drop n).take (signP (t.drop n))) 0, 0)
theorem signP_le (t : List UInt8) : signP t ≤ t.length := by
  unfold signP
  split
  · exact Nat.le_refl _
  · split <;> simp
  · split
    · simp
    · split <;> simp
theorem cut_take (t : List UInt8) (n j : Nat) : cut t ((n : Nat) : Int) ((n + j : Nat) : Int) = (t.drop n).take j := by
  unfold cut
  rw [Int.toNat_natCast, Int.toNat_natCast, List.drop_take, Nat.add_sub_cancel_left]
theorem tw_all (p : UInt8 → Bool) : ∀ l : List UInt8, ∀ c ∈ l.takeWhile p, p c = true := by
  intro l
  induction l with
  | nil => intro c hc; cases hc
  | cons a l ih =>
    intro c hc
    rw [List.takeWhile_cons] at hc
    split at hc
    · rcases List.mem_cons.1 hc with rfl | h
      · assumption
      · exact ih c h
    · cases hc
theorem numOf_run (t : List UInt8) (n : Nat) (h : n < t.length) (hd : dg t[n] = true) : numOf ((t.drop n).takeWhile dg) = numP ((t.drop n).takeWhile dg) := by
  refine num_eq _ ?_ ?_
  · rw [List.drop_eq_getElem_cons h, List.takeWhile_cons_of_pos hd]; exact List.cons_ne_nil _ _
  · intro c hc; exact tw_all _ _ c hc
theorem ltoken_eq (t : List UInt8) (n : Nat) (hl : t.length < 1000000000000) (h : n < t.length) (hb : t[n] ≠ 32) : lex_token t ((n : Nat) : Int) = some (tokP t n) := by
  unfold lex_token tokP
  simp only [kind_eq, bind_some_eq, Int.toNat_natCast, getD_lt _ h, end_eq t n hl h, lsign_eq t n hl h hb]
  have g0 : (0 : Int) ≤ (n : Int) := by omega
  have g1 : (n : Int) < (t.length : Int) := by omega
  rw [if_pos g0, if_pos g1]
  have hdg : isDigit ((t[n].toNat : Nat) : Int) = dg t[n] := rfl
  have hlt : isLetter ((t[n].toNat : Nat) : Int) = lt t[n] := rfl
  rw [hdg, hlt]
  cases hd : dg t[n] with
  | true =>
    have r := runP_ge dg t n (by omega)
    simp only [cond_true, if_true]
    rw [show (fun b => dg b) = dg from rfl, if_pos (by omega), if_pos (by omega), if_pos (by omega), if_pos (by omega)]
    have hc : cut t ((n : Nat) : Int) ((runP dg t n : Nat) : Int) = (t.drop n).takeWhile dg := cut_run dg t n
    have hlen : ((t.drop n).takeWhile dg).length ≤ 281474976710656 := by
      have := takeWhile_le dg (t.drop n); rw [List.length_drop] at this; omega
    unfold p_number
    rw [hc, if_pos hlen, bind_some_eq, numOf_run t n h hd]
    by_cases hz : (numP ((t.drop n).takeWhile dg)).2 ≠ 0
    · rw [if_pos hz, if_pos hz]
    · rw [if_neg hz, if_neg hz, if_pos (by omega), if_pos (by omega), if_pos (by omega), if_pos (by omega)]
  | false =>
    simp only [cond_false, Bool.or_false, if_false, Bool.false_eq_true]
    cases hL : lt t[n] with
    | true =>
      have r := runP_ge nm t n (by omega)
      have hc : cut t ((n : Nat) : Int) ((runP nm t n : Nat) : Int) = (t.drop n).takeWhile nm := cut_run nm t n
      simp only [cond_true, if_true]
      rw [show (fun b => nm b) = nm from rfl, hc, w64_in (by omega) (by omega)]
      by_cases h24 : n + 24 < runP nm t n
      · rw [if_pos (by omega), if_pos h24]
      · rw [if_neg (by omega), if_neg h24, if_pos (by omega), if_pos (by omega), if_pos (by omega), if_pos (by omega)]
    | false =>
      simp only [cond_false, if_false, Bool.false_eq_true]
      have hs := signP_le (t.drop n)
      rw [List.length_drop] at hs
      rw [cut_take]
      by_cases hz : signP (t.drop n) = 0
      · rw [if_pos (by omega), if_pos hz]
      · rw [if_neg (by omega), if_neg hz, if_pos (by omega), if_pos (by omega), if_pos (by omega), if_pos (by omega)]
theorem one_run0 (s : List UInt8) (i : Nat) (hl : s.length < 1000000000000) : ∀ m n, n + m = s.length → i ≤ n → ∀ k, m + 1 ≤ k → ref6_one_l0 k s ((i : Nat) : Int) 0 0 0 [] 0 ((n : Nat) : Int) 0 ((i : Nat) : Int) 0 [] 0 = some (if i + 24 < runP nm s n then (api_Token.mk 0 0 0 [] 0, 13) else (api_Token.mk 1 (i : Nat) (runP nm s n : Nat) (cut s ((i : Nat) : Int) ((runP nm s n : Nat) : Int)) 0, 0)) := by
  intro m
  induction m with
  | zero =>
    intro n h hi k hk
    obtain ⟨k, rfl⟩ : ∃ j, k = j + 1 := ⟨k - 1, by omega⟩
    simp only [ref6_one_l0]
    rw [if_neg (by omega), runP_stop (by omega), w64_in (by omega) (by omega)]
    by_cases h24 : i + 24 < n
    · rw [if_pos (by omega), if_pos h24]
    · rw [if_neg (by omega), if_neg h24, if_pos (by omega), if_pos (by omega), if_pos (by omega), if_pos (by omega)]
  | succ m ih =>
    intro n h hi k hk
    obtain ⟨k, rfl⟩ : ∃ j, k = j + 1 := ⟨k - 1, by omega⟩
    have hlt : n < s.length := by omega
    have e : w64 ((n : Int) + 1) = ((n + 1 : Nat) : Int) := by rw [w64_in (by omega) (by omega)]; omega
    simp only [ref6_one_l0, letter_eq, digit_eq, bind_some_eq]
    rw [if_pos (by omega), if_pos (by omega), if_pos (by omega), Int.toNat_natCast, getD_lt _ hlt, e, ih (n + 1) (by omega) (by omega) k (by omega)]
    have hdg : isDigit ((s[n].toNat : Nat) : Int) = dg s[n] := rfl
    have hlt' : isLetter ((s[n].toNat : Nat) : Int) = lt s[n] := rfl
    rw [hdg, hlt', w64_in (by omega) (by omega)]
    cases hL : lt s[n] with
    | true => rw [cond_true, runP_yes hlt (by simp [nm, hL])]
    | false =>
      rw [cond_false, if_pos (by omega), if_pos (by omega)]
      cases hD : dg s[n] with
      | true => rw [cond_true, runP_yes hlt (by simp [nm, hD])]
      | false =>
        rw [cond_false, runP_no hlt (by simp [nm, hL, hD])]
        by_cases h24 : i + 24 < n
        · rw [if_pos (by omega), if_pos h24]
        · rw [if_neg (by omega), if_neg h24, if_pos (by omega), if_pos (by omega), if_pos (by omega), if_pos (by omega)]
/-- What the reference tells of a run of digits. -/
noncomputable def numTail (s : List UInt8) (i j : Nat) : Option (api_Token × Int) :=
  if i + 1 < j ∧ s.getD i 0 = 48 then some (api_Token.mk 0 0 0 [] 0, 11) else
    (ref6_value (cut s ((i : Nat) : Int) ((j : Nat) : Int))).bind fun r => bif !r.2 then some (api_Token.mk 0 0 0 [] 0, 16) else some (api_Token.mk 2 (i : Nat) (j : Nat) (cut s ((i : Nat) : Int) ((j : Nat) : Int)) r.1, 0)
theorem one_run1 (s : List UInt8) (i : Nat) (hl : s.length < 1000000000000) (his : i < s.length) : ∀ m n, n + m = s.length → i ≤ n → ∀ k, m + 1 ≤ k → ref6_one_l1 k s ((i : Nat) : Int) 0 0 0 [] 0 ((n : Nat) : Int) 0 ((i : Nat) : Int) 0 [] 0 = numTail s i (runP dg s n) := by
  have c48 : ((s[i].toNat : Nat) : Int) = 48 ↔ s[i] = 48 := u8_int s[i] 48 (by decide)
  have tail : ∀ n, n ≤ s.length → i ≤ n → (if 1 < w64 ((n : Int) - (i : Int)) then
    if 0 ≤ (i : Int) then
    if (i : Int) < (s.length : Int) then
    if ((s.getD (i : Int).toNat 0).toNat : Int) = 48 then
    some (api_Token.mk 0 0 0 [] 0, 11) else
    if 0 ≤ (n : Int) then
    if (n : Int) ≤ (s.length : Int) then
    if 0 ≤ (i : Int) then
    if (i : Int) ≤ (n : Int) then
    (ref6_value (cut s (i : Int) (n : Int))).bind fun r7 =>
    bif !r7.2 then
    some (api_Token.mk 0 0 0 [] 0, 16) else
    if 0 ≤ (n : Int) then
    if (n : Int) ≤ (s.length : Int) then
    if 0 ≤ (i : Int) then
    if (i : Int) ≤ (n : Int) then
    some (api_Token.mk 2 (i : Int) (n : Int) (cut s (i : Int) (n : Int)) r7.1, 0) else none else none else none else none else none else none else none else none else none else none else
    if 0 ≤ (n : Int) then
    if (n : Int) ≤ (s.length : Int) then
    if 0 ≤ (i : Int) then
    if (i : Int) ≤ (n : Int) then
    (ref6_value (cut s (i : Int) (n : Int))).bind fun r8 =>
    bif !r8.2 then
    some (api_Token.mk 0 0 0 [] 0, 16) else
    if 0 ≤ (n : Int) then
    if (n : Int) ≤ (s.length : Int) then
    if 0 ≤ (i : Int) then
    if (i : Int) ≤ (n : Int) then
    some (api_Token.mk 2 (i : Int) (n : Int) (cut s (i : Int) (n : Int)) r8.1, 0) else none else none else none else none else none else none else none else none) = numTail s i n := by
    intro n hn hi
    have q0 : (0 : Int) ≤ (i : Int) := by omega
    have q1 : (i : Int) < (s.length : Int) := by omega
    have q2 : (0 : Int) ≤ (n : Int) := by omega
    have q3 : (n : Int) ≤ (s.length : Int) := by omega
    have q4 : (i : Int) ≤ (n : Int) := by omega
    simp only [q0, q1, q2, q3, q4, if_true, Int.toNat_natCast, getD_lt _ his, c48]
    unfold numTail
    rw [w64_in (by omega) (by omega), getD_lt _ his]
    by_cases h1 : i + 1 < n
    · rw [if_pos (by omega)]
      by_cases h2 : s[i] = 48
      · rw [if_pos h2, if_pos ⟨h1, h2⟩]
      · rw [if_neg h2, if_neg (fun q => h2 q.2)]
    · rw [if_neg (by omega), if_neg (fun q => h1 q.1)]
  intro m
  induction m with
  | zero =>
    intro n h hi k hk
    obtain ⟨k, rfl⟩ : ∃ j, k = j + 1 := ⟨k - 1, by omega⟩
    simp only [ref6_one_l1]
    rw [if_neg (by omega), runP_stop (by omega)]
    exact tail n (by omega) hi
  | succ m ih =>
    intro n h hi k hk
    obtain ⟨k, rfl⟩ : ∃ j, k = j + 1 := ⟨k - 1, by omega⟩
    have hlt : n < s.length := by omega
    have e : w64 ((n : Int) + 1) = ((n + 1 : Nat) : Int) := by rw [w64_in (by omega) (by omega)]; omega
    simp only [ref6_one_l1, digit_eq, bind_some_eq]
    rw [if_pos (by omega), if_pos (by omega), if_pos (by omega), Int.toNat_natCast, getD_lt _ hlt, e, ih (n + 1) (by omega) (by omega) k (by omega)]
    have hdg : isDigit ((s[n].toNat : Nat) : Int) = dg s[n] := rfl
    rw [hdg]
    cases hD : dg s[n] with
    | true => rw [cond_true, runP_yes hlt hD]
    | false =>
      rw [cond_false, runP_no hlt hD]
      exact tail n (by omega) hi
theorem disj (b : UInt8) (h : lt b = true) : dg b = false := by
  unfold lt isLetter at h
  unfold dg isDigit
  rw [decide_eq_true_eq] at h
  rw [decide_eq_false_iff_not]
  omega
theorem rone_eq (t : List UInt8) (n : Nat) (hl : t.length < 1000000000000) (h : n < t.length) : ref6_one t ((n : Nat) : Int) = some (tokP t n) := by
  refine lim_eq (t.length + 1) fun k hk => ?_
  simp only [ref6_one_f, letter_eq, digit_eq, bind_some_eq, Int.toNat_natCast, getD_lt _ h, rsign_eq t n hl h]
  rw [if_pos (by omega), if_pos (by omega), if_pos (by omega), if_pos (by omega)]
  have hdg : isDigit ((t[n].toNat : Nat) : Int) = dg t[n] := rfl
  have hlt : isLetter ((t[n].toNat : Nat) : Int) = lt t[n] := rfl
  rw [hdg, hlt]
  unfold tokP
  rw [getD_lt _ h]
  cases hL : lt t[n] with
  | true =>
    rw [cond_true, one_run0 t n hl (t.length - n) n (by omega) (Nat.le_refl _) k (by omega), disj _ hL, cut_run]
    rfl
  | false =>
    rw [cond_false]
    cases hD : dg t[n] with
    | true =>
      rw [cond_true, one_run1 t n hl h (t.length - n) n (by omega) (Nat.le_refl _) k (by omega)]
      have r := runP_ge dg t n (by omega)
      have hc : cut t ((n : Nat) : Int) ((runP dg t n : Nat) : Int) = (t.drop n).takeWhile dg := cut_run dg t n
      have hlen : ((t.drop n).takeWhile dg).length ≤ t.length := by
        have := takeWhile_le dg (t.drop n); rw [List.length_drop] at this; omega
      have hlen2 : runP dg t n = n + ((t.drop n).takeWhile dg).length := rfl
      have hd0 : ((t.drop n).takeWhile dg).getD 0 0 = t[n] := by
        rw [List.drop_eq_getElem_cons h, List.takeWhile_cons_of_pos hD]; rfl
      unfold numTail numP
      rw [hc, value_eq _ (by omega) (fun c hc => tw_all _ _ c hc), bind_some_eq, hd0, getD_lt _ h]
      simp only [if_true]
      by_cases h1 : 1 < ((t.drop n).takeWhile dg).length ∧ t[n] = 48
      · rw [if_pos ⟨by omega, h1.2⟩, if_pos h1]; rfl
      · rw [if_neg (fun q => h1 ⟨by omega, q.2⟩), if_neg h1]
        cases valP 0 ((t.drop n).takeWhile dg) with
        | some v => rfl
        | none => rfl
    | false =>
      rw [cond_false]
      have hs := signP_le (t.drop n)
      rw [List.length_drop] at hs
      simp only [Bool.false_eq_true, if_false]
      by_cases hz : signP (t.drop n) = 0
      · rw [if_pos (by omega), if_pos hz]
      · have e : w64 ((n : Int) + ((signP (t.drop n) : Nat) : Int)) = ((n + signP (t.drop n) : Nat) : Int) := by rw [w64_in (by omega) (by omega)]; omega
        rw [e, if_neg (by omega), if_neg hz, if_pos (by omega), if_pos (by omega), if_pos (by omega), if_pos (by omega), cut_take]
/-! Texts. -/
theorem rskip_eq (t : List UInt8) (n : Nat) (hl : t.length < 1000000000000) (h : n ≤ t.length) : ref6_skip t ((n : Nat) : Int) = some ((skipP false (t.drop n) n : Nat) : Int) :=
  lim_eq (3 * (t.length - n) + 1) fun k hk => (skip_run t hl (t.length - n) n (by omega)).1 k hk
theorem lskip_eq (t : List UInt8) (n : Nat) (hl : t.length < 1000000000000) (h : n ≤ t.length) : lex_skip t ((n : Nat) : Int) = some ((skipP false (t.drop n) n : Nat) : Int) :=
  lim_eq (3 * (t.length - n) + 1) fun k hk => (skip_eq k t _).1.trans ((skip_run t hl (t.length - n) n (by omega)).1 k hk)
/-- Where skip stops, no blank is. -/
theorem skipP_free : ∀ (u : List UInt8) (r : Bool) (n j : Nat), skipP r u n = n + j → j < u.length → u.getD j 0 ≠ 32 := by
  intro u
  induction u with
  | nil => intro r n j _ h; simp at h
  | cons b u ih =>
    intro r n j hj h
    have go : ∀ r', skipP r' u (n + 1) = n + j → (b :: u).getD j 0 ≠ 32 := by
      intro r' h'
      have := (skipP_ge u r' (n + 1)).1
      obtain ⟨j, rfl⟩ : ∃ i, j = i + 1 := ⟨j - 1, by omega⟩
      rw [List.getD_cons_succ]
      refine ih r' (n + 1) j (by omega) (by simpa using h)
    cases r with
    | true =>
      simp only [skipP] at hj
      split at hj
      · exact go _ hj
      · exact go _ hj
    | false =>
      simp only [skipP] at hj
      split at hj
      · exact go _ hj
      · split at hj
        · exact go _ hj
        · rename_i h1 h2
          obtain rfl : j = 0 := by omega
          intro q
          exact h1 (.inl q)
theorem tok_end (t : List UInt8) (n : Nat) (h : n < t.length) (hz : (tokP t n).2 = 0) : ∃ e : Nat, (tokP t n).1.End = (e : Int) ∧ n < e ∧ e ≤ t.length ∧ (tokP t n).1.At = (n : Int) ∧ (tokP t n).1.Text = cut t ((n : Nat) : Int) ((e : Nat) : Int) ∧ (tokP t n).1.Kind ≠ 4 := by
  revert hz
  unfold tokP
  rw [getD_lt _ h]
  by_cases hD : dg t[n] = true
  · rw [if_pos hD]
    simp only []
    split
    · intro hz; rename_i q; exact absurd hz q
    · intro _
      refine ⟨runP dg t n, rfl, ?_, (runP_ge dg t n (by omega)).2, rfl, (cut_run dg t n).symm, fun q => absurd (show (2 : Int) = 4 from q) (by decide)⟩
      rw [runP_yes h hD]; exact (runP_ge dg t (n + 1) (by omega)).1
  · rw [if_neg hD]
    by_cases hL : lt t[n] = true
    · rw [if_pos hL]
      split
      · intro hz; exact absurd hz (by decide)
      · intro _
        refine ⟨runP nm t n, rfl, ?_, (runP_ge nm t n (by omega)).2, rfl, (cut_run nm t n).symm, fun q => absurd (show (1 : Int) = 4 from q) (by decide)⟩
        rw [runP_yes h (by simp [nm, hL])]; exact (runP_ge nm t (n + 1) (by omega)).1
    · rw [if_neg hL]
      have hs := signP_le (t.drop n)
      rw [List.length_drop] at hs
      split
      · intro hz; exact absurd hz (by decide)
      · intro _
        exact ⟨n + signP (t.drop n), rfl, by omega, by omega, rfl, (cut_take t n _).symm, fun q => absurd (show (3 : Int) = 4 from q) (by decide)⟩
/-- A text's tokens. -/
def allGo : Nat → List UInt8 → List api_Token → Nat → List api_Token × api_Fault
  | 0, _, _, _ => ([], api_Fault.mk 0 0)
  | k + 1, t, l, n => if n < t.length then
      (if (tokP t n).2 ≠ 0 then ([], api_Fault.mk (tokP t n).2 n) else allGo k t (l ++ [(tokP t n).1]) (skipP false (t.drop (tokP t n).1.End.toNat) (tokP t n).1.End.toNat))
    else (l ++ [api_Token.mk 4 n n [] 0], api_Fault.mk 0 0)
def allP (t : List UInt8) : List api_Token × api_Fault :=
  if 16384 < t.length then ([], api_Fault.mk 13 16384) else allGo (t.length + 1) t [] (skipP false t 0)
theorem free_at (t : List UInt8) (n : Nat) (h : n ≤ t.length) (hs : skipP false (t.drop n) n < t.length) : t[skipP false (t.drop n) n] ≠ 32 := by
  have h1 := (skipP_ge (t.drop n) false n).1
  have := skipP_free (t.drop n) false n (skipP false (t.drop n) n - n) (by omega) (by rw [List.length_drop]; omega)
  rw [getD_lt _ (by rw [List.length_drop]; omega), List.getElem_drop] at this
  have e : n + (skipP false (t.drop n) n - n) = skipP false (t.drop n) n := by omega
  simpa only [e] using this
theorem all_run (t : List UInt8) (hl : t.length ≤ 16384) : ∀ m n, t.length ≤ n + m → n ≤ t.length → (∀ h : n < t.length, t[n] ≠ 32) → ∀ l : List api_Token, l.length ≤ n → ∀ k k', m + 1 ≤ k → m + 1 ≤ k' →
    lex_All_l0 k t 0 0 l ((n : Nat) : Int) = some (allGo k' t l n) ∧ ref6_All_l0 k t 0 0 l ((n : Nat) : Int) = some (allGo k' t l n) := by
  intro m
  induction m with
  | zero =>
    intro n h hn _ l hln k k' hk hk'
    obtain ⟨k, rfl⟩ : ∃ j, k = j + 1 := ⟨k - 1, by omega⟩
    obtain ⟨k', rfl⟩ : ∃ j, k' = j + 1 := ⟨k' - 1, by omega⟩
    constructor
    · simp only [lex_All_l0, allGo, List.length_cons, List.length_nil]
      rw [if_neg (by omega), if_pos (by omega), if_neg (by omega)]
    · simp only [ref6_All_l0, allGo, List.length_cons, List.length_nil]
      rw [if_neg (by omega), if_pos (by omega), if_neg (by omega), show (t.length : Int) = (n : Int) by omega]
  | succ m ih =>
    intro n h hn hb l hln k k' hk hk'
    obtain ⟨k, rfl⟩ : ∃ j, k = j + 1 := ⟨k - 1, by omega⟩
    obtain ⟨k', rfl⟩ : ∃ j, k' = j + 1 := ⟨k' - 1, by omega⟩
    by_cases hlt : n < t.length
    · have hi : (n : Int) < (t.length : Int) := by omega
      have hc48 : (l.length + (0 + 1)) * 48 ≤ 140737488355328 := by omega
      simp only [lex_All_l0, ref6_All_l0, allGo, List.length_cons, List.length_nil, hi, hlt, if_true, ltoken_eq t n (by omega) hlt (hb hlt), rone_eq t n (by omega) hlt, bind_some_eq, hc48]
      by_cases hz : (tokP t n).2 = 0
      · simp only [hz, ne_eq, not_true_eq_false, if_false]
        obtain ⟨e, he, h1, h2, _⟩ := tok_end t n hlt hz
        simp only [he, lskip_eq t e (by omega) h2, rskip_eq t e (by omega) h2, bind_some_eq, Int.toNat_natCast]
        have hg := skipP_ge (t.drop e) false e
        rw [List.length_drop] at hg
        exact ih _ (by omega) (by omega) (fun hh => free_at t e h2 hh) _ (by rw [List.length_append, List.length_singleton]; omega) k k' (by omega) (by omega)
      · simp only [hz, ne_eq, not_false_eq_true, if_true, and_self]
    · constructor
      · simp only [lex_All_l0, allGo, List.length_cons, List.length_nil]
        rw [if_neg (by omega), if_pos (by omega), if_neg hlt]
      · simp only [ref6_All_l0, allGo, List.length_cons, List.length_nil]
        rw [if_neg (by omega), if_pos (by omega), if_neg hlt, show (t.length : Int) = (n : Int) by omega]
theorem lAll_eq (t : List UInt8) : lex_All t = some (allP t) := by
  refine lim_eq (t.length + 1) fun k hk => ?_
  unfold lex_All_f allP
  by_cases hl : 16384 < t.length
  · rw [if_pos (by omega), if_pos hl]
  · have hg := skipP_ge t false 0
    rw [if_neg (by omega), if_neg hl, show (0 : Int) = ((0 : Nat) : Int) from rfl, lskip_eq t 0 (by omega) (Nat.zero_le _), bind_some_eq]
    exact (all_run t (by omega) t.length _ (by omega) (by rw [List.drop_zero]; omega) (fun hh => free_at t 0 (Nat.zero_le _) hh) [] (Nat.zero_le _) k _ (by omega) (by omega)).1
theorem rAll_eq (t : List UInt8) : ref6_All t = some (allP t) := by
  refine lim_eq (t.length + 1) fun k hk => ?_
  unfold ref6_All_f allP
  by_cases hl : 16384 < t.length
  · rw [if_pos (by omega), if_pos hl]
  · have hg := skipP_ge t false 0
    rw [if_neg (by omega), if_neg hl, show (0 : Int) = ((0 : Nat) : Int) from rfl, rskip_eq t 0 (by omega) (Nat.zero_le _), bind_some_eq]
    exact (all_run t (by omega) t.length _ (by omega) (by rw [List.drop_zero]; omega) (fun hh => free_at t 0 (Nat.zero_le _) hh) [] (Nat.zero_le _) k _ (by omega) (by omega)).2
theorem same_run (a : List api_Token) (hl : a.length < 1000000000000) : ∀ m n, n + m = a.length → ∀ k, m + 1 ≤ k → law6_same_l0 k a a ((n : Nat) : Int) = some true := by
  intro m
  induction m with
  | zero =>
    intro n h k hk
    obtain ⟨k, rfl⟩ : ∃ j, k = j + 1 := ⟨k - 1, by omega⟩
    simp only [law6_same_l0]
    rw [if_neg (by omega)]
  | succ m ih =>
    intro n h k hk
    obtain ⟨k, rfl⟩ : ∃ j, k = j + 1 := ⟨k - 1, by omega⟩
    have e : w64 ((n : Int) + 1) = ((n + 1 : Nat) : Int) := by rw [w64_in (by omega) (by omega)]; omega
    simp only [law6_same_l0]
    rw [if_pos (by omega), if_pos (by omega), if_pos (by omega), if_pos (by omega), if_pos (by omega), if_neg (by simp), e]
    exact ih (n + 1) (by omega) k (by omega)
theorem same_eq (a : List api_Token) (hl : a.length < 1000000000000) : law6_same a a = some true := by
  refine lim_eq (a.length + 1) fun k hk => ?_
  unfold law6_same_f
  rw [if_neg (by simp)]
  exact same_run a hl a.length 0 (by omega) k hk
theorem all_len (t : List UInt8) : ∀ k l n, (allGo k t l n).1.length ≤ l.length + k := by
  intro k
  induction k with
  | zero => intro l n; simp [allGo]
  | succ k ih =>
    intro l n
    simp only [allGo]
    split
    · split
      · simp
      · refine Nat.le_trans (ih _ _) ?_
        simp; omega
    · simp
theorem allP_len (t : List UInt8) : (allP t).1.length ≤ 16385 := by
  unfold allP
  split
  · simp
  · have := all_len t (t.length + 1) [] (skipP false t 0)
    simp at this
    omega
/-! Words. -/
set_option maxRecDepth 100000 in
theorem known_eq : law6_known = some true := by
  unfold law6_known
  rw [lAll_eq, lAll_eq, lAll_eq]
  have e1 : allP s_a_12_no = ([api_Token.mk 1 0 1 [97] 0, api_Token.mk 3 1 3 [45, 62] 0, api_Token.mk 2 3 5 [49, 50] 12, api_Token.mk 4 10 10 [] 0], api_Fault.mk 0 0) := by decide +kernel
  have e2 : allP s_x_007 = ([], api_Fault.mk 11 4) := by decide +kernel
  have e3 : allP s_a_b = ([], api_Fault.mk 10 2) := by decide +kernel
  rw [e1, e2, e3]
  have n1 : lex_Name s_go = some true := by
    unfold lex_Name
    have e : lex_end s_go 0 = some 2 := by
      rw [show (0 : Int) = ((0 : Nat) : Int) from rfl, end_eq _ _ (by decide) (by decide)]
      decide +kernel
    rw [if_neg (by decide), if_neg (by decide), show lex_Reserved s_go = some false by decide +kernel, bind_some_eq, cond_false, if_pos (by decide), if_pos (by decide), kind_eq, bind_some_eq, e]
    decide +kernel
  have n2 : lex_Name s_state = some false := by
    unfold lex_Name
    rw [if_neg (by decide), if_neg (by decide), show lex_Reserved s_state = some true by decide +kernel, bind_some_eq, cond_true]
  have n3 : lex_Reserved s_off = some true := by decide +kernel
  simp only [bind_some_eq, n1, n2, n3]
  decide +kernel
theorem tells_true (x : List UInt8) : law6_LexTells x = some true := by
  unfold law6_LexTells
  have hs := same_eq (allP x).1 (Nat.lt_of_le_of_lt (allP_len x) (by decide))
  simp only [lAll_eq, rAll_eq, known_eq, bind_some_eq, hs, cond_true, and_self, if_true]
  split
  · split <;> rfl
  · rfl
end Go.Sy.Lx
/-! lex: the plain laws of LexNames, LexLies, LexNumbers. -/
namespace Go.Sy.Lx
open Go.Sy
abbrev wordsL : List (List UInt8) := [arr_1.1, arr_1.2.1, arr_1.2.2.1, arr_1.2.2.2.1, arr_1.2.2.2.2.1, arr_1.2.2.2.2.2.1, arr_1.2.2.2.2.2.2.1, arr_1.2.2.2.2.2.2.2.1, arr_1.2.2.2.2.2.2.2.2.1, arr_1.2.2.2.2.2.2.2.2.2.1, arr_1.2.2.2.2.2.2.2.2.2.2.1, arr_1.2.2.2.2.2.2.2.2.2.2.2.1, arr_1.2.2.2.2.2.2.2.2.2.2.2.2.1, arr_1.2.2.2.2.2.2.2.2.2.2.2.2.2.1, arr_1.2.2.2.2.2.2.2.2.2.2.2.2.2.2.1, arr_1.2.2.2.2.2.2.2.2.2.2.2.2.2.2.2.1, arr_1.2.2.2.2.2.2.2.2.2.2.2.2.2.2.2.2.1, arr_1.2.2.2.2.2.2.2.2.2.2.2.2.2.2.2.2.2.1, arr_1.2.2.2.2.2.2.2.2.2.2.2.2.2.2.2.2.2.2.1, arr_1.2.2.2.2.2.2.2.2.2.2.2.2.2.2.2.2.2.2.2.1, arr_1.2.2.2.2.2.2.2.2.2.2.2.2.2.2.2.2.2.2.2.2.1, arr_1.2.2.2.2.2.2.2.2.2.2.2.2.2.2.2.2.2.2.2.2.2.1, arr_1.2.2.2.2.2.2.2.2.2.2.2.2.2.2.2.2.2.2.2.2.2.2.1, arr_1.2.2.2.2.2.2.2.2.2.2.2.2.2.2.2.2.2.2.2.2.2.2.2.1, arr_1.2.2.2.2.2.2.2.2.2.2.2.2.2.2.2.2.2.2.2.2.2.2.2.2.1, arr_1.2.2.2.2.2.2.2.2.2.2.2.2.2.2.2.2.2.2.2.2.2.2.2.2.2.1, arr_1.2.2.2.2.2.2.2.2.2.2.2.2.2.2.2.2.2.2.2.2.2.2.2.2.2.2.1, arr_1.2.2.2.2.2.2.2.2.2.2.2.2.2.2.2.2.2.2.2.2.2.2.2.2.2.2.2.1, arr_1.2.2.2.2.2.2.2.2.2.2.2.2.2.2.2.2.2.2.2.2.2.2.2.2.2.2.2.2.1, arr_1.2.2.2.2.2.2.2.2.2.2.2.2.2.2.2.2.2.2.2.2.2.2.2.2.2.2.2.2.2.1, arr_1.2.2.2.2.2.2.2.2.2.2.2.2.2.2.2.2.2.2.2.2.2.2.2.2.2.2.2.2.2.2.1, arr_1.2.2.2.2.2.2.2.2.2.2.2.2.2.2.2.2.2.2.2.2.2.2.2.2.2.2.2.2.2.2.2.1, arr_1.2.2.2.2.2.2.2.2.2.2.2.2.2.2.2.2.2.2.2.2.2.2.2.2.2.2.2.2.2.2.2.2.1, arr_1.2.2.2.2.2.2.2.2.2.2.2.2.2.2.2.2.2.2.2.2.2.2.2.2.2.2.2.2.2.2.2.2.2.1, arr_1.2.2.2.2.2.2.2.2.2.2.2.2.2.2.2.2.2.2.2.2.2.2.2.2.2.2.2.2.2.2.2.2.2.2]
def resP (s : List UInt8) : Bool := decide (s ∈ wordsL)
theorem words_len : wordsL.length = 35 := rfl
theorem rres_run (s : List UInt8) : ∀ m n, n + m = 35 → ∀ k, m + 1 ≤ k → ref6_Reserved_l0 k s arr_1 ((n : Nat) : Int) = some (decide (s ∈ wordsL.drop n)) := by
  intro m
  induction m with
  | zero =>
    intro n h k hk
    obtain ⟨k, rfl⟩ : ∃ j, k = j + 1 := ⟨k - 1, by omega⟩
    obtain rfl : n = 35 := by omega
    simp only [ref6_Reserved_l0]
    rw [if_neg (by omega)]
    rfl
  | succ m ih =>
    intro n h k hk
    obtain ⟨k, rfl⟩ : ∃ j, k = j + 1 := ⟨k - 1, by omega⟩
    have hlt : n < wordsL.length := by rw [words_len]; omega
    have e : w64 ((n : Int) + 1) = ((n + 1 : Nat) : Int) := by rw [w64_in (by omega) (by omega)]; omega
    have hlen : (n : Int) < (wordsL.length : Int) := by omega
    simp only [ref6_Reserved_l0]
    rw [if_pos (by omega), if_pos (by omega), if_pos hlen, e, ih (n + 1) (by omega) k (by omega), List.drop_eq_getElem_cons hlt]
    by_cases hx : wordsL.getD (((n : Nat) : Int).toNat) [] = s
    · rw [if_pos hx]
      rw [Int.toNat_natCast, getD_lt _ hlt] at hx
      rw [hx]
      simp
    · rw [if_neg hx]
      rw [Int.toNat_natCast, getD_lt _ hlt] at hx
      congr 1
      rw [decide_eq_decide, List.mem_cons]
      exact ⟨.inr, fun q => q.elim (fun q => absurd q.symm hx) id⟩
theorem rres_eq (s : List UInt8) : ref6_Reserved s = some (resP s) := lim_eq 36 fun k hk => rres_run s 35 0 rfl k hk
theorem res_yes {s w : List UInt8} (hw : w ∈ wordsL) (h : s = w) : resP s = true := by subst h; exact decide_eq_true hw
set_option maxRecDepth 100000 in
set_option maxHeartbeats 4000000 in
theorem lres_eq (s : List UInt8) : lex_Reserved s = some (resP s) := by
  unfold lex_Reserved
  by_cases hr : resP s = true
  · rw [hr]
    have hm : s ∈ wordsL := of_decide_eq_true hr
    simp only [wordsL, arr_1, List.mem_cons, List.not_mem_nil, or_false] at hm
    rcases hm with rfl | rfl | rfl | rfl | rfl | rfl | rfl | rfl | rfl | rfl | rfl | rfl | rfl | rfl | rfl | rfl | rfl | rfl | rfl | rfl | rfl | rfl | rfl | rfl | rfl | rfl | rfl | rfl | rfl | rfl | rfl | rfl | rfl | rfl | rfl <;> decide +kernel
  · have hr' : resP s = false := by simpa using hr
    have hm : s ∉ wordsL := of_decide_eq_false hr'
    rw [hr']
    simp only [wordsL, arr_1, List.mem_cons, List.not_mem_nil, or_false, not_or] at hm
    simp only [hm, if_false]
/-! Names. -/
def nameP (s : List UInt8) : Bool := decide (s ≠ [] ∧ s.length ≤ 24) && !resP s && lt (s.getD 0 0) && s.all nm
theorem all_take (p : UInt8 → Bool) : ∀ l : List UInt8, (l.takeWhile p).length = l.length ↔ l.all p = true := by
  intro l
  induction l with
  | nil => simp
  | cons a l ih =>
    rw [List.takeWhile_cons]
    cases h : p a with
    | true => simp only [if_true, List.length_cons, List.all_cons, h, Bool.true_and, ← ih]; omega
    | false => simp [h]
theorem lname_eq (s : List UInt8) (hl : s.length < 1000000000000) : lex_Name s = some (nameP s) := by
  unfold lex_Name nameP
  by_cases h0 : s = []
  · subst h0; rw [if_pos rfl]; rfl
  · rw [if_neg h0]
    have hlen : 0 < s.length := List.length_pos_iff.2 h0
    by_cases h24 : 24 < s.length
    · rw [if_pos (by omega), decide_eq_false (fun q => by omega)]; simp
    · rw [if_neg (by omega), lres_eq, bind_some_eq, decide_eq_true ⟨h0, by omega⟩]
      cases hr : resP s with
      | true => simp
      | false =>
        rw [cond_false, if_pos (by omega), if_pos (by omega), kind_eq, bind_some_eq]
        have hdg : isDigit ((((s.getD (0 : Int).toNat 0)).toNat : Nat) : Int) = dg s[0] := by
          rw [show (0 : Int).toNat = 0 from rfl, getD_lt _ hlen]; rfl
        rw [hdg, getD_lt _ hlen]
        cases hd : dg s[0] with
        | true =>
          have : lt s[0] = false := by
            cases hL : lt s[0] with
            | false => rfl
            | true => rw [disj _ hL] at hd; cases hd
          rw [this]; simp
        | false =>
          rw [Bool.not_false, cond_true, show (0 : Int) = ((0 : Nat) : Int) from rfl, end_eq s 0 hl hlen, bind_some_eq, hd]
          congr 1
          rw [show (fun b => bif false then dg b else nm b) = nm from rfl]
          have ha := all_take nm s
          cases hall : s.all nm with
          | true =>
            have hL : lt s[0] = true := by
              have := List.all_eq_true.1 hall s[0] (List.getElem_mem hlen)
              simpa [nm, hd] using this
            rw [hL]
            have := ha.2 hall
            unfold runP
            rw [List.drop_zero, decide_eq_true (by omega)]
            rfl
          | false =>
            have : ¬ (s.takeWhile nm).length = s.length := fun q => by rw [ha.1 q] at hall; cases hall
            unfold runP
            rw [List.drop_zero, decide_eq_false (by omega)]
            simp
theorem rname_run (s : List UInt8) (hl : s.length < 1000000000000) : ∀ m n, n + m = s.length → ∀ k, m + 1 ≤ k → ref6_Name_l0 k s ((n : Nat) : Int) = some ((s.drop n).all nm && !resP s) := by
  intro m
  induction m with
  | zero =>
    intro n h k hk
    obtain ⟨k, rfl⟩ : ∃ j, k = j + 1 := ⟨k - 1, by omega⟩
    simp only [ref6_Name_l0]
    rw [if_neg (by omega), rres_eq, bind_some_eq, List.drop_eq_nil_of_le (by omega)]
    simp
  | succ m ih =>
    intro n h k hk
    obtain ⟨k, rfl⟩ : ∃ j, k = j + 1 := ⟨k - 1, by omega⟩
    have hlt : n < s.length := by omega
    have e : w64 ((n : Int) + 1) = ((n + 1 : Nat) : Int) := by rw [w64_in (by omega) (by omega)]; omega
    simp only [ref6_Name_l0, letter_eq, digit_eq, bind_some_eq]
    rw [if_pos (by omega), if_pos (by omega), if_pos (by omega), if_pos (by omega), if_pos (by omega), Int.toNat_natCast, getD_lt _ hlt, e, ih (n + 1) (by omega) k (by omega), List.drop_eq_getElem_cons hlt, List.all_cons]
    have hdg : isDigit ((s[n].toNat : Nat) : Int) = dg s[n] := rfl
    have hlt' : isLetter ((s[n].toNat : Nat) : Int) = lt s[n] := rfl
    rw [hdg, hlt']
    have hnm : nm s[n] = (lt s[n] || dg s[n]) := rfl
    rw [hnm]
    cases lt s[n] <;> cases dg s[n] <;> simp
theorem rname_eq (s : List UInt8) (hl : s.length < 1000000000000) : ref6_Name s = some (nameP s) := by
  refine lim_eq (s.length + 1) fun k hk => ?_
  unfold ref6_Name_f nameP
  by_cases h0 : s = []
  · subst h0; rfl
  · have hlen : 0 < s.length := List.length_pos_iff.2 h0
    rw [if_neg (by omega)]
    by_cases h24 : 24 < s.length
    · rw [if_pos (by omega), decide_eq_false (fun q => by omega)]; simp
    · rw [if_neg (by omega), if_pos (by omega), if_pos (by omega), decide_eq_true ⟨h0, by omega⟩, letter_eq, bind_some_eq, show (0 : Int).toNat = 0 from rfl, getD_lt _ hlen]
      have hlt' : isLetter ((s[0].toNat : Nat) : Int) = lt s[0] := rfl
      rw [hlt']
      have := rname_run s hl s.length 0 (by omega) k hk
      rw [show ((0 : Nat) : Int) = 0 from rfl, List.drop_zero] at this
      rw [this]
      cases lt s[0] <;> cases s.all nm <;> cases resP s <;> rfl
theorem all_pre (t : List UInt8) : ∀ k l n, (allGo k t l n).1 = [] ∨ ∃ r, (allGo k t l n).1 = l ++ r := by
  intro k
  induction k with
  | zero => intro l n; exact .inl rfl
  | succ k ih =>
    intro l n
    simp only [allGo]
    split
    · split
      · exact .inl rfl
      · rcases ih (l ++ [(tokP t n).1]) (skipP false (t.drop (tokP t n).1.End.toNat) (tokP t n).1.End.toNat) with h | ⟨r, h⟩
        · exact .inl h
        · exact .inr ⟨[(tokP t n).1] ++ r, by rw [h, List.append_assoc]⟩
    · exact .inr ⟨_, rfl⟩
theorem not_blank {b : UInt8} (h : lt b = true ∨ dg b = true) : ¬ (b = 32 ∨ b = 9 ∨ b = 10 ∨ b = 13) ∧ b ≠ 35 := by
  refine ⟨?_, ?_⟩
  · rintro (rfl | rfl | rfl | rfl) <;> rcases h with h | h <;> exact absurd h (by decide)
  · rintro rfl; rcases h with h | h <;> exact absurd h (by decide)
theorem skip_none (t : List UInt8) (h : 0 < t.length) (hb : lt t[0] = true ∨ dg t[0] = true) : skipP false t 0 = 0 := by
  obtain ⟨h1, h2⟩ := not_blank hb
  cases t with
  | nil => simp at h
  | cons b t =>
    simp only [skipP]
    rw [if_neg (by simpa using h1), if_neg (by simpa using h2)]
theorem skip_end (t : List UInt8) : skipP false (t.drop t.length) t.length = t.length := by
  rw [List.drop_eq_nil_of_le (Nat.le_refl _)]; rfl
/-- A text that is one token. -/
theorem all_one (t : List UInt8) (h : 0 < t.length) (hl : t.length ≤ 16384) (hs : skipP false t 0 = 0) (hz : (tokP t 0).2 = 0) (he : (tokP t 0).1.End = (t.length : Int)) :
    allP t = ([(tokP t 0).1, api_Token.mk 4 t.length t.length [] 0], api_Fault.mk 0 0) := by
  unfold allP
  rw [if_neg (by omega), hs]
  obtain ⟨m, hm⟩ : ∃ m, t.length = m + 1 := ⟨t.length - 1, by omega⟩
  rw [show t.length + 1 = m + 1 + 1 by omega]
  simp only [allGo]
  rw [if_pos h, hz, if_neg (by simp), he, Int.toNat_natCast, skip_end, if_neg (by omega)]
  rfl
theorem all_bad (t : List UInt8) (h : 0 < t.length) (hl : t.length ≤ 16384) (hs : skipP false t 0 = 0) (hz : (tokP t 0).2 ≠ 0) : allP t = ([], api_Fault.mk (tokP t 0).2 0) := by
  unfold allP
  rw [if_neg (by omega), hs]
  simp only [allGo]
  rw [if_pos h, if_pos hz]
  rfl
/-- Is a text one name? -/
def oneP (s : List UInt8) : Bool := decide ((allP s).2.Code = 0 ∧ (allP s).1.length = 2 ∧ ((allP s).1.getD 0 api_Token.z).Kind = 1 ∧ ((allP s).1.getD 0 api_Token.z).Text = s)
theorem name_one (s : List UInt8) (h : nameP s = true) : oneP s = true := by
  unfold nameP at h
  simp only [Bool.and_eq_true, decide_eq_true_eq] at h
  obtain ⟨⟨⟨⟨h0, h24⟩, hr⟩, hL⟩, hall⟩ := h
  have hlen : 0 < s.length := List.length_pos_iff.2 h0
  rw [getD_lt _ hlen] at hL
  have htw : s.takeWhile nm = s := by
    have h1 := (all_take nm s).2 hall
    exact (List.takeWhile_prefix nm).eq_of_length h1
  have hrun : runP nm s 0 = s.length := by
    unfold runP; rw [List.drop_zero, htw]; omega
  have ht : tokP s 0 = (api_Token.mk 1 0 s.length s 0, 0) := by
    unfold tokP
    rw [getD_lt _ hlen, if_neg (by rw [disj _ hL]; decide), if_pos hL, hrun, if_neg (by omega), List.drop_zero, htw]
    rfl
  have := all_one s hlen (by omega) (skip_none s hlen (.inl hL)) (by rw [ht]) (by rw [ht])
  unfold oneP
  rw [this, ht]
  exact decide_eq_true ⟨rfl, rfl, rfl, rfl⟩
theorem one_name (s : List UInt8) (h : oneP s = true) (hr : resP s = false) : nameP s = true := by
  have h := of_decide_eq_true h
  obtain ⟨hc, h2, hk, ht⟩ := h
  unfold allP at hc h2 hk ht
  by_cases hl : 16384 < s.length
  · rw [if_pos hl] at h2; simp at h2
  · rw [if_neg hl] at hc h2 hk ht
    by_cases hn : skipP false s 0 < s.length
    · simp only [allGo] at hc h2 hk ht
      rw [if_pos hn] at hc h2 hk ht
      by_cases hz : (tokP s (skipP false s 0)).2 ≠ 0
      · rw [if_pos hz] at h2; simp at h2
      · rw [if_neg hz] at hc h2 hk ht
        rcases all_pre s s.length ([] ++ [(tokP s (skipP false s 0)).1]) (skipP false (s.drop (tokP s (skipP false s 0)).1.End.toNat) (tokP s (skipP false s 0)).1.End.toNat) with q | ⟨r, q⟩
        · rw [q] at h2; simp at h2
        · rw [q] at hk ht
          simp only [List.nil_append, List.cons_append, List.getD_cons_zero] at hk ht
          generalize hn0 : skipP false s 0 = n at hk ht hn hz
          unfold tokP at hk ht hz
          rw [getD_lt _ hn] at hk ht hz
          by_cases hd : dg s[n] = true
          · rw [if_pos hd] at hk hz
            simp only [] at hk hz
            split at hk
            · exact absurd (show (0 : Int) = 1 from hk) (by decide)
            · exact absurd (show (2 : Int) = 1 from hk) (by decide)
          · rw [if_neg hd] at hk ht hz
            by_cases hL : lt s[n] = true
            · rw [if_pos hL] at hk ht hz
              by_cases hx : n + 24 < runP nm s n
              · rw [if_pos hx] at hk; exact absurd (show (0 : Int) = 1 from hk) (by decide)
              · rw [if_neg hx] at ht
                have ht : (s.drop n).takeWhile nm = s := ht
                have hlen : ((s.drop n).takeWhile nm).length = s.length := by rw [ht]
                have hle := takeWhile_le nm (s.drop n)
                rw [List.length_drop] at hle
                obtain rfl : n = 0 := by omega
                rw [List.drop_zero] at ht hlen
                unfold runP at hx
                rw [List.drop_zero, hlen] at hx
                unfold nameP
                rw [hr, getD_lt _ hn, hL, (all_take nm s).1 hlen, decide_eq_true ⟨List.length_pos_iff.1 hn, by omega⟩]
                rfl
            · rw [if_neg hL] at hk
              split at hk
              · exact absurd (show (0 : Int) = 1 from hk) (by decide)
              · exact absurd (show (3 : Int) = 1 from hk) (by decide)
    · simp only [allGo] at h2
      rw [if_neg hn] at h2
      simp at h2
theorem names_c0 (s : List UInt8) (k : Nat) (hk : 1 ≤ k) (one : Bool) (h1 : one = oneP s) : law6_LexNames_c0 k s (nameP s) one = some true := by
  obtain ⟨k, rfl⟩ : ∃ j, k = j + 1 := ⟨k - 1, by omega⟩
  simp only [law6_LexNames_c0, lres_eq, known_eq, bind_some_eq]
  subst h1
  have a := name_one s
  have b := one_name s
  have c : nameP s = true → resP s = false := by
    intro h
    unfold nameP at h
    simp only [Bool.and_eq_true] at h
    simpa using h.1.1.2
  revert a b c
  cases nameP s <;> cases oneP s <;> cases resP s <;> simp
theorem names_true (s : List UInt8) : law6_LexNames s = some true := by
  refine lim_eq 1 fun k hk => ?_
  unfold law6_LexNames_f
  by_cases h100 : 100 < s.length
  · rw [if_pos (by omega), known_eq]; rfl
  · rw [if_neg (by omega), lname_eq s (by omega), rname_eq s (by omega), lres_eq, rres_eq, lAll_eq]
    simp only [bind_some_eq, ne_eq, not_true_eq_false, if_false]
    have hc0 : ∀ one, one = oneP s → law6_LexNames_c0 k s (nameP s) one = some true := fun one h => names_c0 s k hk one h
    by_cases h1 : (allP s).2.Code = 0
    · rw [if_pos h1]
      by_cases h2 : (allP s).1.length = 2
      · rw [if_pos (by omega), if_pos (by omega), if_pos (by omega), show (0 : Int).toNat = 0 from rfl]
        by_cases h3 : ((allP s).1.getD 0 api_Token.z).Kind = 1
        · rw [if_pos h3, if_pos (by omega), if_pos (by omega)]
          refine hc0 _ ?_
          unfold oneP
          rw [decide_eq_decide]
          exact ⟨fun q => ⟨h1, h2, h3, q⟩, fun q => q.2.2.2⟩
        · rw [if_neg h3]
          refine hc0 _ ?_
          unfold oneP
          rw [decide_eq_false (fun q => h3 q.2.2.1)]
      · rw [if_neg (by omega)]
        refine hc0 _ ?_
        unfold oneP
        rw [decide_eq_false (fun q => h2 q.2.1)]
    · rw [if_neg h1]
      refine hc0 _ ?_
      unfold oneP
      rw [decide_eq_false (fun q => h1 q.1)]
end Go.Sy.Lx
/-! lex: the plain laws of LexLies and LexNumbers. -/
namespace Go.Sy.Lx
open Go.Sy
/-! Tokens lie one behind the other. -/
/-- The tokens from a place on: a token at each place where no blank is, the end last. -/
def Good (s : List UInt8) : Nat → List api_Token → Prop
  | _, [] => False
  | a, t :: r => (∃ e : Nat, skipP false (s.drop a) a < s.length ∧ t = (tokP s (skipP false (s.drop a) a)).1 ∧ (tokP s (skipP false (s.drop a) a)).2 = 0 ∧ t.End = (e : Int) ∧ r ≠ [] ∧ Good s e r) ∨ (skipP false (s.drop a) a = s.length ∧ t = api_Token.mk 4 s.length s.length [] 0 ∧ r = [])
theorem skip_at (s : List UInt8) (a : Nat) (h : a ≤ s.length) : a ≤ skipP false (s.drop a) a ∧ skipP false (s.drop a) a ≤ s.length := by
  have := skipP_ge (s.drop a) false a
  rw [List.length_drop] at this
  omega
theorem all_good (s : List UInt8) : ∀ m a, s.length ≤ a + m → a ≤ s.length → ∀ k l, m + 1 ≤ k → ((allGo k s l (skipP false (s.drop a) a)).2.Code ≠ 0 ∧ (allGo k s l (skipP false (s.drop a) a)).1 = [] ∧ ∃ n : Nat, n < s.length ∧ (allGo k s l (skipP false (s.drop a) a)).2.At = (n : Int)) ∨ ((allGo k s l (skipP false (s.drop a) a)).2.Code = 0 ∧ ∃ r, (allGo k s l (skipP false (s.drop a) a)).1 = l ++ r ∧ Good s a r) := by
  intro m
  induction m with
  | zero =>
    intro a h ha k l hk
    obtain ⟨k, rfl⟩ : ∃ j, k = j + 1 := ⟨k - 1, by omega⟩
    have := skip_at s a ha
    simp only [allGo]
    rw [if_neg (by omega)]
    refine .inr ⟨rfl, _, rfl, .inr ⟨by omega, ?_, rfl⟩⟩
    rw [show skipP false (s.drop a) a = s.length by omega]
  | succ m ih =>
    intro a h ha k l hk
    obtain ⟨k, rfl⟩ : ∃ j, k = j + 1 := ⟨k - 1, by omega⟩
    have hs := skip_at s a ha
    simp only [allGo]
    by_cases hn : skipP false (s.drop a) a < s.length
    · rw [if_pos hn]
      by_cases hz : (tokP s (skipP false (s.drop a) a)).2 = 0
      · rw [if_neg (by simpa using hz)]
        obtain ⟨e, he, h1, h2, _⟩ := tok_end s _ hn hz
        rw [he, Int.toNat_natCast]
        rcases ih e (by omega) h2 k (l ++ [(tokP s (skipP false (s.drop a) a)).1]) (by omega) with q | ⟨q1, r, q2, q3⟩
        · exact .inl q
        · refine .inr ⟨q1, [(tokP s (skipP false (s.drop a) a)).1] ++ r, by rw [q2, List.append_assoc], .inl ⟨e, hn, rfl, hz, he, ?_, q3⟩⟩
          rintro rfl
          exact q3
      · rw [if_pos (by simpa using hz)]
        exact .inl ⟨hz, rfl, _, hn, rfl⟩
    · rw [if_neg hn]
      have e : skipP false (s.drop a) a = s.length := by omega
      exact .inr ⟨rfl, _, rfl, .inr ⟨e, by rw [e], rfl⟩⟩
theorem skip_pre : ∀ (u : List UInt8) (r : Bool) (m j : Nat), skipP r u m = m + j → j ≤ u.length → ∀ m', skipP r (u.take j) m' = m' + j := by
  intro u
  induction u with
  | nil =>
    intro r m j h hj m'
    simp at hj
    subst hj
    cases r <;> rfl
  | cons b u ih =>
    intro r m j h hj m'
    have step : ∀ r', skipP r' u (m + 1) = m + j → ∃ j', j = j' + 1 ∧ skipP r' (u.take j') (m' + 1) = m' + 1 + j' := by
      intro r' h'
      have := (skipP_ge u r' (m + 1)).1
      obtain ⟨j', rfl⟩ : ∃ i, j = i + 1 := ⟨j - 1, by omega⟩
      exact ⟨j', rfl, ih r' (m + 1) j' (by omega) (by simpa using hj) (m' + 1)⟩
    cases r with
    | true =>
      simp only [skipP] at h
      by_cases hb : b = 10
      · rw [if_pos hb] at h
        obtain ⟨j', rfl, h'⟩ := step _ h
        rw [List.take_succ_cons]
        simp only [skipP]
        rw [if_pos hb, h']; omega
      · rw [if_neg hb] at h
        obtain ⟨j', rfl, h'⟩ := step _ h
        rw [List.take_succ_cons]
        simp only [skipP]
        rw [if_neg hb, h']; omega
    | false =>
      simp only [skipP] at h
      by_cases hb : b = 32 ∨ b = 9 ∨ b = 10 ∨ b = 13
      · rw [if_pos hb] at h
        obtain ⟨j', rfl, h'⟩ := step _ h
        rw [List.take_succ_cons]
        simp only [skipP]
        rw [if_pos hb, h']; omega
      · rw [if_neg hb] at h
        by_cases hc : b = 35
        · rw [if_pos hc] at h
          obtain ⟨j', rfl, h'⟩ := step _ h
          rw [List.take_succ_cons]
          simp only [skipP]
          rw [if_neg hb, if_pos hc, h']; omega
        · rw [if_neg hc] at h
          obtain rfl : j = 0 := by omega
          rfl
/-- A text of blanks. -/
theorem all_blank (t : List UInt8) (hl : t.length ≤ 16384) (hs : skipP false t 0 = t.length) : allP t = ([api_Token.mk 4 t.length t.length [] 0], api_Fault.mk 0 0) := by
  unfold allP
  rw [if_neg (by omega), hs]
  simp only [allGo]
  rw [if_neg (by omega)]
  rfl
theorem lies_run (s : List UInt8) (l : List api_Token) (hs : s.length ≤ 2000) (hl : l.length ≤ 20000) : ∀ m i a, i + m = l.length → a ≤ s.length → (i < l.length → Good s a (l.drop i)) → (l.length ≤ i → a = s.length) → 0 < l.length → ∀ k, 2 * m + 2 ≤ k → law6_LexLies_l0 k s l ((a : Nat) : Int) ((i : Nat) : Int) = some true := by
  intro m
  induction m with
  | zero =>
    intro i a h ha _ hend hpos k hk
    obtain ⟨k, rfl⟩ : ∃ j, k = j + 1 := ⟨k - 1, by omega⟩
    simp only [law6_LexLies_l0]
    have := hend (by omega)
    rw [if_neg (by omega), if_pos (by omega), if_pos (by omega), known_eq]
    rfl
  | succ m ih =>
    intro i a h ha hg hend hpos k hk
    obtain ⟨k, rfl⟩ : ∃ j, k = j + 2 := ⟨k - 2, by omega⟩
    have hlt : i < l.length := by omega
    have hg := hg hlt
    rw [List.drop_eq_getElem_cons hlt] at hg
    have e1 : w64 ((i : Int) + 1) = ((i + 1 : Nat) : Int) := by rw [w64_in (by omega) (by omega)]; omega
    have e2 : w64 ((l.length : Int) - 1) = ((l.length - 1 : Nat) : Int) := by rw [w64_in (by omega) (by omega)]; omega
    -- one step, told by what the token is
    have step : ∀ (p e : Nat), (l[i]).At = (p : Int) → (l[i]).End = (e : Int) → a ≤ p → p ≤ e → e ≤ s.length → (l[i]).Text = cut s ((p : Nat) : Int) ((e : Nat) : Int) → ((l[i]).Kind = 4 ↔ i = l.length - 1) → skipP false (s.drop a) a = p →
        (i + 1 < l.length → Good s e (l.drop (i + 1))) → (l.length ≤ i + 1 → e = s.length) → law6_LexLies_l0 (k + 2) s l ((a : Nat) : Int) ((i : Nat) : Int) = some true := by
      intro p e hAt hEnd hap hpe hes hText hKind hskip hg' hend'
      simp only [law6_LexLies_l0, law6_LexLies_c0, Int.toNat_natCast, getD_lt _ hlt, hAt, hEnd, hText, e1, e2]
      rw [if_pos (by omega), if_pos (by omega), if_pos (by omega), if_neg (by omega), if_neg (by omega), if_neg (by omega), if_pos (by omega), if_pos (by omega), if_pos (by omega), if_pos (by omega), if_neg (by simp)]
      have hk4 : decide ((l[i]).Kind = 4) = decide (((i : Nat) : Int) = ((l.length - 1 : Nat) : Int)) := by
        rw [decide_eq_decide, hKind]; omega
      rw [if_neg (by rw [hk4]; simp), if_pos (by omega), if_pos (by omega), if_pos (by omega), if_pos (by omega)]
      have hcut : cut s ((a : Nat) : Int) ((p : Nat) : Int) = (s.drop a).take (p - a) := by
        rw [show p = a + (p - a) by omega, cut_take, Nat.add_sub_cancel_left]
      have hlen : ((s.drop a).take (p - a)).length = p - a := by
        rw [List.length_take, List.length_drop]; omega
      have hb : skipP false ((s.drop a).take (p - a)) 0 = ((s.drop a).take (p - a)).length := by
        rw [hlen, skip_pre (s.drop a) false a (p - a) (by omega) (by rw [List.length_drop]; omega) 0]; omega
      rw [hcut, lAll_eq, all_blank _ (by omega) hb, bind_some_eq, if_neg (by simp), if_neg (by simp)]
      exact ih (i + 1) e (by omega) hes hg' hend' hpos k (by omega)
    have hsk := skip_at s a ha
    rcases hg with ⟨e, hn, ht, hz, he, hr, hg'⟩ | ⟨hn, ht, hr⟩
    · obtain ⟨e', he', h1, h2, h3, h4, h5⟩ := tok_end s _ hn hz
      rw [← ht] at he' h3 h4 h5
      obtain rfl : e = e' := by omega
      have hi : i + 1 < l.length := by
        rcases Nat.lt_or_ge (i + 1) l.length with q | q
        · exact q
        · exact absurd (List.drop_eq_nil_of_le q) hr
      exact step _ e h3 he hsk.1 (by omega) h2 h4 ⟨fun q => absurd q h5, fun q => by omega⟩ rfl (fun _ => hg') (fun q => by omega)
    · have hi : l.length = i + 1 := by
        have : (l.drop (i + 1)).length = 0 := by rw [hr]; rfl
        rw [List.length_drop] at this
        omega
      refine step s.length s.length (by rw [ht]) (by rw [ht]) ha (Nat.le_refl _) (Nat.le_refl _) ?_ ⟨fun _ => by omega, fun _ => by rw [ht]⟩ hn (fun q => by omega) (fun _ => rfl)
      rw [ht]
      unfold cut
      rw [Int.toNat_natCast, List.take_of_length_le (Nat.le_refl _), List.drop_eq_nil_of_le (Nat.le_refl _)]
theorem lies_true (s : List UInt8) : law6_LexLies s = some true := by
  refine lim_eq 50000 fun k hk => ?_
  unfold law6_LexLies_f
  by_cases h2000 : 2000 < s.length
  · rw [if_pos (by omega), known_eq]; rfl
  · rw [if_neg (by omega), lAll_eq, bind_some_eq]
    have hP : allP s = allGo (s.length + 1) s [] (skipP false (s.drop 0) 0) := by
      unfold allP
      rw [if_neg (by omega), List.drop_zero]
    have hlen := allP_len s
    have h := all_good s s.length 0 (by omega) (Nat.zero_le _) (s.length + 1) [] (Nat.le_refl _)
    rw [← hP] at h
    rcases h with ⟨h1, h2, n, h3, h4⟩ | ⟨h1, r, h2, h3⟩
    · rw [if_pos h1, h2, if_pos (by rfl), h4, if_pos (by omega), if_pos (by omega), known_eq]
      rfl
    · rw [if_neg (by simpa using h1)]
      rw [List.nil_append] at h2
      have hpos : 0 < (allP s).1.length := by
        rw [h2]
        cases r with
        | nil => exact h3.elim
        | cons a r => simp
      exact lies_run s (allP s).1 (by omega) (by omega) (allP s).1.length 0 0 (by omega) (Nat.zero_le _) (fun _ => by rw [List.drop_zero, h2]; exact h3) (fun q => by omega) hpos k (by omega)
/-! Numbers. -/
def digP : Nat → Nat → List UInt8
  | 0, _ => []
  | k + 1, n => if n < 10 then [Nat.toUInt8 (48 + n)] else digP k (n / 10) ++ [Nat.toUInt8 (48 + n % 10)]
theorem digit_cut : ∀ d, d < 10 → cut s_v_0123456789 ((d : Nat) : Int) ((d + 1 : Nat) : Int) = [Nat.toUInt8 (48 + d)] := by decide +kernel
theorem digits_run : ∀ j n, n < 10 ^ j → n < 9223372036854775808 → 1 ≤ j → j ≤ 30 → ∀ k, j ≤ k → law6_digits_f k ((n : Nat) : Int) = some (digP j n) ∧ (digP j n).length ≤ j := by
  intro j
  induction j with
  | zero => intro n _ _ h; omega
  | succ j ih =>
    intro n hn hm _ hj k hk
    obtain ⟨k, rfl⟩ : ∃ j, k = j + 1 := ⟨k - 1, by omega⟩
    have c10 : ∀ d : Nat, d < 10 → w64 (((d : Nat) : Int) + 1) = ((d + 1 : Nat) : Int) := fun d hd => by rw [w64_in (by omega) (by omega)]; omega
    have hlen10 : s_v_0123456789.length = 10 := rfl
    simp only [law6_digits_f, law6_digits_b, digP]
    by_cases h : n < 10
    · rw [if_pos (by omega), if_pos h, c10 n h, if_pos (by omega), if_pos (by rw [hlen10]; omega), if_pos (by omega), if_pos (by omega), digit_cut n h]
      exact ⟨rfl, by simp⟩
    · have e1 : Int.tdiv ((n : Nat) : Int) 10 = ((n / 10 : Nat) : Int) := by rw [Int.tdiv_eq_ediv_of_nonneg (by omega)]; omega
      have e2 : Int.tmod ((n : Nat) : Int) 10 = ((n % 10 : Nat) : Int) := by rw [Int.tmod_eq_emod_of_nonneg (by omega)]; omega
      have e3 : w64 ((n / 10 : Nat) : Int) = ((n / 10 : Nat) : Int) := w64_in (by omega) (by omega)
      have hj1 : 1 ≤ j := by
        rcases Nat.eq_zero_or_pos j with rfl | q
        · omega
        · exact q
      obtain ⟨i1, i2⟩ := ih (n / 10) (by rw [Nat.pow_succ] at hn; omega) (by omega) hj1 (by omega) k (by omega)
      rw [if_neg (by omega), if_neg h, e1, e2, e3, if_pos (by decide), i1, bind_some_eq, c10 (n % 10) (by omega), if_pos (by decide), if_pos (by decide), if_pos (by omega), if_pos (by rw [hlen10]; omega), if_pos (by omega), if_pos (by omega), digit_cut (n % 10) (by omega)]
      rw [if_pos (by rw [List.length_singleton]; omega)]
      exact ⟨rfl, by rw [List.length_append, List.length_singleton]; omega⟩
theorem digits_eq (n : Nat) (hn : n < 9223372036854775808) : law6_digits ((n : Nat) : Int) = some (digP 19 n) :=
  lim_eq 19 fun k hk => (digits_run 19 n (by omega) hn (by decide) (by decide) k hk).1
theorem dg_of (d : Nat) (h : d < 10) : dg (Nat.toUInt8 (48 + d)) = true := by
  have : ∀ d, d < 10 → dg (Nat.toUInt8 (48 + d)) = true := by decide +kernel
  exact this d h
theorem val_of (d : Nat) (h : d < 10) : (Nat.toUInt8 (48 + d)).toNat - 48 = d := by
  have : ∀ d, d < 10 → (Nat.toUInt8 (48 + d)).toNat - 48 = d := by decide +kernel
  exact this d h
theorem digP_all : ∀ j n, ∀ c ∈ digP j n, dg c = true := by
  intro j
  induction j with
  | zero => intro n c hc; cases hc
  | succ j ih =>
    intro n c hc
    simp only [digP] at hc
    by_cases h : n < 10
    · rw [if_pos h, List.mem_singleton] at hc
      subst hc; exact dg_of n h
    · rw [if_neg h, List.mem_append, List.mem_singleton] at hc
      rcases hc with hc | rfl
      · exact ih _ c hc
      · exact dg_of _ (by omega)
theorem valP_append : ∀ (l : List UInt8) (acc : Nat) (c : UInt8), valP acc (l ++ [c]) = (valP acc l).bind fun a => if (9223372036854775807 - (c.toNat - 48)) / 10 < a then none else some (10 * a + (c.toNat - 48)) := by
  intro l
  induction l with
  | nil => intro acc c; simp only [List.nil_append, valP, bind_some_eq]
  | cons b l ih =>
    intro acc c
    simp only [List.cons_append, valP]
    split
    · rfl
    · exact ih _ c
theorem digP_val : ∀ j n, n < 10 ^ j → n < 9223372036854775808 → 1 ≤ j → valP 0 (digP j n) = some n ∧ 0 < (digP j n).length ∧ ((digP j n).getD 0 0 = 48 → n = 0) ∧ (n < 10 → (digP j n).length = 1) := by
  intro j
  induction j with
  | zero => intro n _ _ h; omega
  | succ j ih =>
    intro n hn hm _
    simp only [digP]
    by_cases h : n < 10
    · rw [if_pos h]
      have hv := val_of n h
      refine ⟨?_, by simp, ?_, fun _ => rfl⟩
      · simp only [valP, hv]
        rw [if_neg (by omega)]
        congr 1; omega
      · intro q
        rw [List.getD_cons_zero] at q
        rw [q] at hv
        have : (48 : UInt8).toNat = 48 := rfl
        omega
    · rw [if_neg h]
      have hj1 : 1 ≤ j := by
        rcases Nat.eq_zero_or_pos j with rfl | q
        · omega
        · exact q
      obtain ⟨i1, i2, i3, _⟩ := ih (n / 10) (by rw [Nat.pow_succ] at hn; omega) (by omega) hj1
      refine ⟨?_, by simp, ?_, fun q => absurd q h⟩
      · rw [valP_append, i1, bind_some_eq, val_of _ (by omega), if_neg (by omega)]
        congr 1; omega
      · intro q
        have : (digP j (n / 10) ++ [Nat.toUInt8 (48 + n % 10)]).getD 0 0 = (digP j (n / 10)).getD 0 0 := by
          rw [getD_lt _ (by simp), getD_lt _ i2, List.getElem_append_left i2]
        rw [this] at q
        have := i3 q
        omega
theorem tw_self (p : UInt8 → Bool) (l : List UInt8) (h : ∀ c ∈ l, p c = true) : l.takeWhile p = l :=
  (List.takeWhile_prefix p).eq_of_length ((all_take p l).2 (List.all_eq_true.2 h))
theorem tok_digits (d : List UInt8) (h0 : 0 < d.length) (hd : ∀ c ∈ d, dg c = true) : tokP d 0 = if (numP d).2 ≠ 0 then (api_Token.mk 0 0 0 [] 0, (numP d).2) else (api_Token.mk 2 0 d.length d (numP d).1, 0) := by
  have hr : runP dg d 0 = d.length := by unfold runP; rw [List.drop_zero, tw_self dg d hd]; omega
  unfold tokP
  rw [getD_lt _ h0, if_pos (hd _ (List.getElem_mem h0)), List.drop_zero, tw_self dg d hd, hr]
  rfl
theorem all_digits (d : List UInt8) (h0 : 0 < d.length) (hl : d.length ≤ 16384) (hd : ∀ c ∈ d, dg c = true) :
    (∀ v, numP d = (v, 0) → allP d = ([api_Token.mk 2 0 d.length d v, api_Token.mk 4 d.length d.length [] 0], api_Fault.mk 0 0)) ∧ (∀ v e, numP d = (v, e) → e ≠ 0 → allP d = ([], api_Fault.mk e 0)) := by
  have ht := tok_digits d h0 hd
  have hs := skip_none d h0 (.inr (hd _ (List.getElem_mem h0)))
  constructor
  · intro v hv
    rw [hv, if_neg (by simp)] at ht
    have := all_one d h0 hl hs (by rw [ht]) (by rw [ht])
    rw [this, ht]
  · intro v e hv he
    rw [hv, if_pos (by simpa using he)] at ht
    have := all_bad d h0 hl hs (by rw [ht]; exact he)
    rw [this, ht]
set_option maxRecDepth 100000 in
theorem big_eq : (allP s_v_9223372036854775808).2.Code = 16 := by decide +kernel
theorem digP_len (n : Nat) (hn : n < 9223372036854775808) : (digP 19 n).length ≤ 19 := (digits_run 19 n (by omega) hn (by decide) (by decide) 19 (Nat.le_refl _)).2
theorem all_number (n : Nat) (hn : n < 9223372036854775808) : allP (digP 19 n) = ([api_Token.mk 2 0 (digP 19 n).length (digP 19 n) n, api_Token.mk 4 (digP 19 n).length (digP 19 n).length [] 0], api_Fault.mk 0 0) := by
  obtain ⟨h1, h2, h3, h4⟩ := digP_val 19 n (by omega) hn (by decide)
  refine (all_digits (digP 19 n) h2 (Nat.le_trans (digP_len n hn) (by decide)) (digP_all 19 n)).1 _ ?_
  unfold numP
  rw [if_neg, h1]
  rintro ⟨a, b⟩
  have := h3 b
  have := h4 (by omega)
  omega
theorem all_zero (n : Nat) (hn : n < 9223372036854775808) : allP (s_v_0 ++ digP 19 n) = ([], api_Fault.mk 11 0) := by
  obtain ⟨h1, h2, h3, h4⟩ := digP_val 19 n (by omega) hn (by decide)
  have hl := digP_len n hn
  refine (all_digits (s_v_0 ++ digP 19 n) (by simp) (by simp; omega) ?_).2 0 11 ?_ (by decide)
  · intro c hc
    rw [List.mem_append, List.mem_singleton] at hc
    rcases hc with rfl | hc
    · decide
    · exact digP_all 19 n c hc
  · unfold numP
    rw [if_pos]
    exact ⟨by rw [List.length_append]; exact Nat.add_lt_add_left h2 1, rfl⟩
theorem numbers_true (n : Int) (z : Bool) (h1 : -9223372036854775808 ≤ n) (h2 : n ≤ 9223372036854775807) : law6_LexNumbers n z = some true := by
  unfold law6_LexNumbers
  have key : ∀ k : Nat, k < 9223372036854775808 → (law6_digits ((k : Nat) : Int)) = some (digP 19 k) := fun k hk => digits_eq k hk
  by_cases hn : n < 0
  · obtain ⟨k, hk⟩ : ∃ k : Nat, w64 (0 - (w64 (n + 1))) = (k : Int) ∧ k < 9223372036854775808 := by
      rw [w64_in (n := n + 1) (by omega) (by omega), w64_in (by omega) (by omega)]
      exact ⟨(-(n + 1)).toNat, by omega, by omega⟩
    obtain ⟨hk, hk2⟩ := hk
    have hl := digP_len k hk2
    rw [if_pos hn, hk, key k hk2, bind_some_eq]
    cases z with
    | true =>
      rw [cond_true, if_pos (by simp; omega), lAll_eq, lAll_eq, bind_some_eq, bind_some_eq, cond_true, all_zero k hk2, big_eq, known_eq]
      rfl
    | false =>
      rw [cond_false, lAll_eq, lAll_eq, bind_some_eq, bind_some_eq, cond_false, all_number k hk2, big_eq, known_eq]
      rw [if_pos rfl, if_pos (by rfl), if_pos (Int.le_refl 0), if_pos (by exact (show (0 : Int) < 2 by decide)), if_pos (by rfl), if_pos (Int.le_refl 0), if_pos (by exact (show (0 : Int) < 2 by decide)), if_pos (by rfl), if_pos rfl]
      rfl
  · obtain ⟨k, rfl⟩ : ∃ k : Nat, n = (k : Int) := ⟨n.toNat, by omega⟩
    have hk2 : k < 9223372036854775808 := by omega
    have hl := digP_len k hk2
    rw [if_neg hn, key k hk2, bind_some_eq]
    cases z with
    | true =>
      rw [cond_true, if_pos (by simp; omega), lAll_eq, lAll_eq, bind_some_eq, bind_some_eq, cond_true, all_zero k hk2, big_eq, known_eq]
      rfl
    | false =>
      rw [cond_false, lAll_eq, lAll_eq, bind_some_eq, bind_some_eq, cond_false, all_number k hk2, big_eq, known_eq]
      rw [if_pos rfl, if_pos (by rfl), if_pos (Int.le_refl 0), if_pos (by exact (show (0 : Int) < 2 by decide)), if_pos (by rfl), if_pos (Int.le_refl 0), if_pos (by exact (show (0 : Int) < 2 by decide)), if_pos (by rfl), if_pos rfl]
      rfl
end Go.Sy.Lx
/-! The start of a call: the package variables. -/
namespace Go.Sy.Lx
open Go Go.Sy Go.Proofs Go.Proofs.YtdppdmpmkgcieaaDoor
abbrev L5 : List (String × DataW Unit) := [("math/bits.deBruijn32tab", Rows.laid_math_bits_deBruijn32tab), ("math/bits.deBruijn64tab", Rows.laid_math_bits_deBruijn64tab), ("internal/strconv.uint64pow10", Rows.laid_internal_strconv_uint64pow10), ("strconv.ErrRange", Rows.laid_strconv_ErrRange), ("strconv.ErrSyntax", Rows.laid_strconv_ErrSyntax)]
theorem gER : Tryd.prog.globalNamed "strconv.ErrRange" = some 2 := by kernel_rfl
theorem gES : Tryd.prog.globalNamed "strconv.ErrSyntax" = some 1 := by kernel_rfl
theorem tER : (Tryd.prog.globals[2]?).map (·.type) = some 76 := by kernel_rfl
theorem tES : (Tryd.prog.globals[1]?).map (·.type) = some 76 := by kernel_rfl
theorem maxLen_cell {W : World} (h : W.ShapedOpen Tryd.prog) : ∃ m, W.cell? ⟨0, 0, none⟩ = some (.int .i64 m) :=
  cell_of_shapedOpen_int (t := 3) (zero := #[.int .i64 0]) h (of_decide_eq_true (by kernel_rfl)) (by kernel_rfl) rfl (by kernel_rfl) (by kernel_rfl) Tryd.underlying3
theorem star : "*" ++ "errors.errorString" = "*errors.errorString" := by decide
theorem row154 (u : TypeId) (h : Tryd.prog.typeName? 3 u = some "*errors.errorString") : u = 154 :=
  typeName_ptr_named (nm := "errors.errorString") (by rw [star]; kernel_rfl) (by kernel_rfl) (by decide) u (by rw [star]; exact h)
theorem glob0 {W : World} {M : St} (hM : NoSt M) (hL : laidMetH Tryd.prog L5 W) (hsh : W.ShapedOpen Tryd.prog) : Glob S W M := by
  rw [MakeChecks.laidMetH_plain _ _ _ (by kernel_rfl)] at hL
  have h3 := hL.tail.tail.tail
  obtain ⟨a0, s0, hv0, -, -, -⟩ := laid_sentinel h3 gER tER Tryd.underlying76 row154 Tryd.underlying154 Tryd.underlying156 rfl rfl Tryd.underlying9 (by kernel_rfl) (by kernel_rfl)
  obtain ⟨a1, s1, hv1, -, -, -⟩ := laid_sentinel h3.tail gES tES Tryd.underlying76 row154 Tryd.underlying154 Tryd.underlying156 rfl rfl Tryd.underlying9 (by kernel_rfl) (by kernel_rfl)
  have c2 := World.var?_cell gER hv0 0
  have c1 := World.var?_cell gES hv1 0
  obtain ⟨m, c0⟩ := maxLen_cell hsh
  have hsz : 2 < W.heap.size := World.block_lt_of_cell? (u := .iface 154 (.pointer (some a0))) _ _ (by simpa using c2)
  intro g hg
  simp only [List.mem_cons, List.not_mem_nil, or_false] at hg
  rcases hg with rfl | rfl | rfl
  · exact ⟨by show 0 < _; omega, hM _ _, _, c0, m, rfl⟩
  · exact ⟨by show 1 < _; omega, hM _ _, _, by simpa using c1, .inr ⟨_, _, rfl⟩⟩
  · exact ⟨by show 2 < _; omega, hM _ _, _, by simpa using c2, .inr ⟨_, _, rfl⟩⟩
end Go.Sy.Lx
namespace Go.Sy.Lx
open Go Go.Sy Go.Proofs Go.Proofs.YtdppdmpmkgcieaaDoor Go.ChangeShapes Go.WideShapes Go.RowKit
/-- A contract under a condition on the memory, the world's shape kept. -/
theorem returns_and_shaped {H : Type} {enc : TypeId × Value → H} {a : Assume} {C : Checked} {os : Os} {f : FuncId} {fn : Func} {s : ChangeSpec} {conds : List PathCond} {apart fresh handsOn again : Bool} {X : World → Array Value → Prop}
    (hX : ∀ (w w' : World) (args : Array Value), w.heap = w'.heap → X w args → X w' args)
    (own : ownKnob C.prog.godebug = none) (started : os.Started) (noInit : C.prog.inits.idxOf? f = none) (hfn : C.prog.funcs[f]? = some fn)
    (witness : ∃ (w : World) (tape : Tape) (i : Input), w.os = os ∧ (w.forCall tape i).Shaped C.prog ∧ i.vars = [] ∧ Input.okWide C.prog (w.forCall tape i) .any w.heap.size f i ∧
      ((s.pre enc C.prog fn conds apart (w.forCall tape i).memory i.args ∧ X (w.forCall tape i).memory i.args) ∧ sizedMet enc C.prog fn (OpenSpec.ofChange s) apart (w.forCall tape i).memory i.args) ∧ a.holds C.prog (lone (Frame.enter C.prog f i.args .normal) [] (w.forCall tape i)))
    (contract : ∀ (W : World) (base : Nat) (args : Array Value) (ds gs : List (DataW H)) (before : List MemPlace),
      (∀ (j : Nat) t v, fn.params[j]? = some t → args[j]? = some v → Value.okWide C.prog W .any base t v) →
      DataW.Whole enc C.prog fn.params.toList s.vars apart W args.toList ds gs before →
      conds.all (PathCond.test C.prog ⟨fn.params.toList, ds, s.plain.varTypes C.prog, gs⟩) = true →
      (DataW.weightsEach C.prog (fn.params.toList ++ s.plain.varTypes C.prog) (ds ++ gs)).all (· ≤ reachBytes) = true → X W args → W.ShapedOpen C.prog →
      a.holds C.prog (lone (Frame.enter C.prog f args .normal) [] W) →
      Calls C.prog f args W fun e W' => ∃ v, e = .returned v ∧ s.post enc C.prog fn apart fresh handsOn again W args v W') :
    ReturnsInHanded a C os f .any (fun w args => (s.pre enc C.prog fn conds apart w args ∧ X w args) ∧ sizedMet enc C.prog fn (OpenSpec.ofChange s) apart w args) (s.post enc C.prog fn apart fresh handsOn again) := by
  refine returnsInHanded_of_calls own started noInit witness ?_
  intro w tape i _ hsh _ hok hpre hholds
  obtain ⟨_, _, _, fn', hfn', _, _, _, _, hval⟩ := hok
  have e : fn' = fn := Option.some.inj (hfn'.symm.trans hfn)
  subst e
  obtain ⟨⟨⟨ds, gs, before, hw, hc⟩, hx⟩, hz⟩ := hpre
  have hw' := DataW.Whole.of_heap (w' := w.forCall tape i) (by rfl) hw
  refine (contract (w.forCall tape i) w.heap.size i.args ds gs before hval hw' hc (hz.weights hw) (hX _ _ _ (by rfl) hx) hsh hholds).mono fun e W' ⟨v, he, hp⟩ => ?_
  subst he
  exact ChangeSpec.post_blind hp
set_option maxRecDepth 100000 in
theorem door_met (os : Os) (args : Array Value) : laidMetH Tryd.prog L5 ((World.doorLaid Tryd.prog 400 os).forCall (fun _ _ => 0) ⟨#[], args, []⟩).memory :=
  laidMetH_of_parts3 (fuel := 8) (laidMet_of_run' 8 (by kernel_rfl) (by kernel_rfl)) (by kernel_rfl) (by kernel_rfl)
end Go.Sy.Lx
