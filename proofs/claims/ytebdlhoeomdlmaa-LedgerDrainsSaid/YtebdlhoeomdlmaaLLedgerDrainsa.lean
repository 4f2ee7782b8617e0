import Derived.Test.YtebdlhoeomdlmaaProg
import Derived.Test.YtebdlhoeomdlmaaSc
set_option linter.unusedVariables false
set_option linter.unusedSimpArgs false
set_option maxRecDepth 100000
namespace Go.Sy.Le
open Go.Sy Go.Proofs
structure law4_Step where
  What : Int
  C : Int
  deriving DecidableEq
def law4_Step.z : law4_Step := ⟨0, 0⟩
structure ledger_Ledger where
  caps : List Int
  free : List Int
  deriving DecidableEq
def ledger_Ledger.z : ledger_Ledger := ⟨[], []⟩
structure ref4_Ledger where
  Caps : List Int
  Taken : List Int
  deriving DecidableEq
def ref4_Ledger.z : ref4_Ledger := ⟨[], []⟩
def C : Nat → Type
  | 0 => law4_Step
  | 1 => ledger_Ledger
  | 2 => ref4_Ledger
  | _ + 3 => Unit
def F : Nat → List Ty
  | 0 => [.int .i64, .int .i64]
  | 1 => [.sl (.int .i64), .sl (.int .i64)]
  | 2 => [.sl (.int .i64), .sl (.int .i64)]
  | _ + 3 => []
def ex : (t : Nat) → C t → Tup C (F t)
  | 0, (x : law4_Step) => (x.What, x.C)
  | 1, (x : ledger_Ledger) => (x.caps, x.free)
  | 2, (x : ref4_Ledger) => (x.Caps, x.Taken)
  | _ + 3, _ => ()
def im : (t : Nat) → Tup C (F t) → C t
  | 0, (a0, a1) => law4_Step.mk a0 a1
  | 1, (a0, a1) => ledger_Ledger.mk a0 a1
  | 2, (a0, a1) => ref4_Ledger.mk a0 a1
  | _ + 3, _ => ()
def fldT : Nat → List (Nat × Ty)
  | 0 => [(0, .int .i64), (1, .int .i64)]
  | 1 => [(0, .sl (.int .i64)), (1, .sl (.int .i64))]
  | 2 => [(0, .sl (.int .i64)), (1, .sl (.int .i64))]
  | _ + 3 => []
def z : (t : Nat) → C t
  | 0 => law4_Step.z
  | 1 => ledger_Ledger.z
  | 2 => ref4_Ledger.z
  | _ + 3 => ()
def tyT : List (Nat × Ty) := [(3, .int .i64), (4, .bool), (5, .int .u8), (24, .int .i64), (37, .sl (.int .i64)), (53, .sl (.int .u8)), (54, .sl (.st 0)), (59, .st 0), (83, .st 1), (85, .st 2)]
def arT : List (Nat × (Nat × Ty)) := []
def eqT : List (Nat × Unit) := []
def ptT : List (Nat × Unit) := [(55, ()), (64, ())]
abbrev S : Sen := ⟨C, F, ex, im, fun u f => (fldT u)[f]?, z, look tyT, fun t => (look ptT t).isSome, look arT, fun t => (look eqT t).isSome⟩
def bytT : List (Nat × Nat) := [(37, 8), (53, 1), (54, 16)]
def byt (t : Nat) : Nat := (look bytT t).getD 1
theorem senOk : SenOk S := ⟨fun | 0 => rfl | 1 => rfl | 2 => rfl | _ + 3 => rfl, fun | 0, _ => rfl | 1, _ => rfl | 2, _ => rfl | _ + 3, _ => rfl⟩
theorem ty3 : TyAt Try.prog S byt 3 (.int .i64) := tyAt_int rfl (by kernel_rfl) (by kernel_rfl) (by kernel_rfl)
theorem ty4 : TyAt Try.prog S byt 4 (.bool) := tyAt_bool rfl (by kernel_rfl) (by kernel_rfl) (by kernel_rfl)
theorem ty5 : TyAt Try.prog S byt 5 (.int .u8) := tyAt_int rfl (by kernel_rfl) (by kernel_rfl) (by kernel_rfl)
theorem ty24 : TyAt Try.prog S byt 24 (.int .i64) := tyAt_int rfl (by kernel_rfl) (by kernel_rfl) (by kernel_rfl)
theorem ty37 : TyAt Try.prog S byt 37 (.sl (.int .i64)) := tyAt_sl rfl (by kernel_rfl) (by kernel_rfl) Try.underlying37 rfl rfl (by kernel_rfl) (by kernel_rfl)
theorem ty53 : TyAt Try.prog S byt 53 (.sl (.int .u8)) := tyAt_sl rfl (by kernel_rfl) (by kernel_rfl) Try.underlying53 rfl rfl (by kernel_rfl) (by kernel_rfl)
theorem ty54 : TyAt Try.prog S byt 54 (.sl (.st 0)) := tyAt_sl rfl (by kernel_rfl) (by kernel_rfl) Try.underlying54 rfl rfl (by kernel_rfl) (by kernel_rfl)
theorem ty59 : TyAt Try.prog S byt 59 (.st 0) := tyAt_st (l := fldT 0) rfl (by kernel_rfl) rfl (by kernel_rfl) (by kernel_rfl) rfl (by kernel_rfl) Try.underlying59 (by kernel_rfl) (fun _ => rfl) rfl
theorem ty83 : TyAt Try.prog S byt 83 (.st 1) := tyAt_st (l := fldT 1) rfl (by kernel_rfl) rfl (by kernel_rfl) (by kernel_rfl) rfl (by kernel_rfl) Try.underlying83 (by kernel_rfl) (fun _ => rfl) rfl
theorem ty85 : TyAt Try.prog S byt 85 (.st 2) := tyAt_st (l := fldT 2) rfl (by kernel_rfl) rfl (by kernel_rfl) (by kernel_rfl) rfl (by kernel_rfl) Try.underlying85 (by kernel_rfl) (fun _ => rfl) rfl
theorem progOk : ProgOk Try.prog S byt := ⟨senOk, fun t T h0 => by
  have h := look_mem (show look tyT t = some T from h0)
  simp only [tyT, List.mem_cons, Prod.mk.injEq, List.not_mem_nil, or_false] at h
  rcases h with ⟨rfl, rfl⟩ | ⟨rfl, rfl⟩ | ⟨rfl, rfl⟩ | ⟨rfl, rfl⟩ | ⟨rfl, rfl⟩ | ⟨rfl, rfl⟩ | ⟨rfl, rfl⟩ | ⟨rfl, rfl⟩ | ⟨rfl, rfl⟩ | ⟨rfl, rfl⟩
  · exact ty3
  · exact ty4
  · exact ty5
  · exact ty24
  · exact ty37
  · exact ty53
  · exact ty54
  · exact ty59
  · exact ty83
  · exact ty85, fun t h => by
  have h2 : ∃ u, look ptT t = some u := Option.isSome_iff_exists.1 h
  obtain ⟨u, h2⟩ := h2
  have h := look_mem h2
  simp only [ptT, List.mem_cons, Prod.mk.injEq, List.not_mem_nil, or_false] at h
  rcases h with ⟨rfl, _⟩ | ⟨rfl, _⟩
  · exact ⟨_, Try.underlying55⟩
  · exact ⟨_, Try.underlying64⟩, fun t h => by
  have h2 : ∃ u, look eqT t = some u := Option.isSome_iff_exists.1 h
  obtain ⟨u, h2⟩ := h2
  have h := look_mem h2
  simp [eqT] at h⟩
theorem mixed : Try.prog.follows .mixedOrders = true := by kernel_rfl
def bz (e : Ty) : Nat := if e = .int .i64 then 8 else if e = .int .u8 then 1 else if e = .st 0 then 16 else 1
def tyA : List (Nat × Ty) := [(3, .int .i64), (5, .int .u8), (37, .sl (.int .i64)), (53, .sl (.int .u8)), (54, .sl (.st 0)), (59, .st 0)]
/-- The arguments' types alone. -/
abbrev SA : Sen := S.withT (look tyA) (fun _ => false) (fun _ => none) (fun _ => false)
theorem tyA3 : TyAt Try.prog SA byt 3 (.int .i64) := tyAt_int rfl (by kernel_rfl) (by kernel_rfl) (by kernel_rfl)
theorem tyA5 : TyAt Try.prog SA byt 5 (.int .u8) := tyAt_int rfl (by kernel_rfl) (by kernel_rfl) (by kernel_rfl)
theorem tyA37 : TyAt Try.prog SA byt 37 (.sl (.int .i64)) := tyAt_sl rfl (by kernel_rfl) (by kernel_rfl) Try.underlying37 rfl rfl (by kernel_rfl) (by kernel_rfl)
theorem tyA53 : TyAt Try.prog SA byt 53 (.sl (.int .u8)) := tyAt_sl rfl (by kernel_rfl) (by kernel_rfl) Try.underlying53 rfl rfl (by kernel_rfl) (by kernel_rfl)
theorem tyA54 : TyAt Try.prog SA byt 54 (.sl (.st 0)) := tyAt_sl rfl (by kernel_rfl) (by kernel_rfl) Try.underlying54 rfl rfl (by kernel_rfl) (by kernel_rfl)
theorem tyA59 : TyAt Try.prog SA byt 59 (.st 0) := tyAt_st (l := fldT 0) rfl (by kernel_rfl) rfl (by kernel_rfl) (by kernel_rfl) rfl (by kernel_rfl) Try.underlying59 (by kernel_rfl) (fun _ => rfl) rfl
theorem senOkA : SenOk SA := ⟨senOk.flat, senOk.exim⟩
theorem progOkA : ProgOk Try.prog SA byt := ⟨senOkA, fun t e h0 => by
  have h := look_mem (show look tyA t = some (e) from h0)
  simp only [tyA, List.mem_cons, Prod.mk.injEq, List.not_mem_nil, or_false] at h
  rcases h with ⟨rfl, h⟩ | ⟨rfl, h⟩ | ⟨rfl, h⟩ | ⟨rfl, h⟩ | ⟨rfl, h⟩ | ⟨rfl, h⟩
  · subst h; exact tyA3
  · subst h; exact tyA5
  · subst h; exact tyA37
  · subst h; exact tyA53
  · subst h; exact tyA54
  · subst h; exact tyA59, fun t h => (nomatch h), fun t h => (nomatch h)⟩
theorem hbz : ∀ t e, SA.ty t = some (.sl e) → byt t = bz e := fun t e h0 => by
  have h := look_mem (show look tyA t = some (.sl e) from h0)
  simp only [tyA, List.mem_cons, Prod.mk.injEq, List.not_mem_nil, or_false] at h
  rcases h with ⟨rfl, h⟩ | ⟨rfl, h⟩ | ⟨rfl, h⟩ | ⟨rfl, h⟩ | ⟨rfl, h⟩ | ⟨rfl, h⟩
  · cases h
  · cases h
  · cases h; decide
  · cases h; decide
  · cases h; decide
  · cases h
theorem slOk : SlOk SA := fun t e h0 => by
  have h := look_mem (show look tyA t = some (.sl e) from h0)
  simp only [tyA, List.mem_cons, Prod.mk.injEq, List.not_mem_nil, or_false] at h
  rcases h with ⟨rfl, h⟩ | ⟨rfl, h⟩ | ⟨rfl, h⟩ | ⟨rfl, h⟩ | ⟨rfl, h⟩ | ⟨rfl, h⟩
  · cases h
  · cases h
  · cases h; decide
  · cases h; decide
  · cases h; decide
  · cases h
theorem stOk : StOk Try.prog SA := fun t e h0 => by
  have h := look_mem (show look tyA t = some (.st e) from h0)
  simp only [tyA, List.mem_cons, Prod.mk.injEq, List.not_mem_nil, or_false] at h
  rcases h with ⟨rfl, h⟩ | ⟨rfl, h⟩ | ⟨rfl, h⟩ | ⟨rfl, h⟩ | ⟨rfl, h⟩ | ⟨rfl, h⟩
  · cases h
  · cases h
  · cases h
  · cases h
  · cases h
  · cases h; exact stOk_of Try.underlying59 (by kernel_rfl)
/-! ### 50 cotillion/ledger.New$1 -/
noncomputable def ledger_New_S1  (n : Int) : Option Bool := if n < 1 then some true else some (decide (32 < n))
noncomputable abbrev ledger_New_S1_T : Tab S := ⟨[], [], false⟩
noncomputable def ledger_New_S1_L (k : Nat) : Nat → List (Lab S Bool)
  | _ => []
theorem ledger_New_S1_eq (k : Nat) (n : Int) : ledger_New_S1 n = exec S (ledger_New_S1_T) byt (labs S (ledger_New_S1_T) (ledger_New_S1_L k)) (ac [] Try.f50) (frame0 S [.val (.data (.int .i64))] n) (retK S (ledger_New_S1_T) Try.f50 [.val (.data (.int .i64))] [.val (.data .bool)]) := by kernel_rfl
theorem ledger_New_S1_vc (k : Nat) : VC S (ledger_New_S1_T) byt (ledger_New_S1_L k) (ledger_New_S1_L (k + 1)) (ac [] Try.f50) (retK S (ledger_New_S1_T) Try.f50 [.val (.data (.int .i64))] [.val (.data .bool)]) = [] := by kernel_rfl
theorem ledger_New_S1_snd : Snd Try.prog S ⟨50, [.val (.data (.int .i64))], [.val (.data .bool)], fun x => ledger_New_S1 x⟩ :=
  fn_ok progOk (T := (ledger_New_S1_T)) (all_nil) (all_nil) mixed Try.func50 rfl (by kernel_rfl) (ac_code [] Try.f50 rfl) (L := ledger_New_S1_L)
    (fun n l h x => by cases h) (fun k n l h => by cases h)
    (fun k => All.mem (ledger_New_S1_vc k) trivial) (fun x r h => ⟨0, (ledger_New_S1_eq 0 x).symm.trans h⟩) (by kernel_rfl) (by kernel_rfl) (Nat.le_of_ble_eq_true (by kernel_rfl))
theorem ledger_New_S1_fsnd : FSnd Try.prog S ⟨50, [.int .i64], [], [.bool], fun x c => ledger_New_S1 x⟩ := FSnd.of (a := [.int .i64]) (c := []) (r := [.bool]) ledger_New_S1_snd (fun _ _ z h => ⟨z, h, rfl⟩)
/-! ### 55 slices.IndexFunc[[]int,int] -/
noncomputable def slices_IndexFunc_int_int_l0 : Nat → (List Int) → (Int → Option Bool) → Int → Int → Option Int
  | 0, _, _, _, _ => none
  | k + 1, s, f, x7, x8 => if x8 < x7 then
    if 0 ≤ x8 then
    if x8 < (s.length : Int) then
    (f (s.getD x8.toNat 0)).bind fun r1 =>
    bif r1 then
    some x8 else
    slices_IndexFunc_int_int_l0 k s f x7 (w64 (x8 + 1)) else none else none else
    some (-1)
noncomputable def slices_IndexFunc_int_int_f (k : Nat) (s : List Int) (f : Int → Option Bool) : Option Int := slices_IndexFunc_int_int_l0 k s f (s.length : Int) 0
noncomputable def slices_IndexFunc_int_int (s : List Int) (f : Int → Option Bool) : Option Int := lim (fun k (x : List Int × (Int → Option Bool)) => slices_IndexFunc_int_int_f k x.1 x.2) (s, f)
noncomputable abbrev slices_IndexFunc_int_int_T : Tab S := ⟨[], [], false⟩
noncomputable def slices_IndexFunc_int_int_L (k : Nat) : Nat → List (Lab S Int)
  | 0 => [⟨[0, 1, 7, 8], [.val (.data (.sl (.int .i64))), .fn [.int .i64] [.bool], .val (.data (.int .i64)), .val (.data (.int .i64))], fun x => slices_IndexFunc_int_int_l0 k x.1 x.2.1 x.2.2.1 x.2.2.2⟩]
  | _ + 1 => []
theorem slices_IndexFunc_int_int_eq (k : Nat) (s : List Int) (f : Int → Option Bool) : slices_IndexFunc_int_int_f k s f = exec S (slices_IndexFunc_int_int_T) byt (labs S (slices_IndexFunc_int_int_T) (slices_IndexFunc_int_int_L k)) (ac [] Try.f55) (frame0 S [.val (.data (.sl (.int .i64))), .fn [.int .i64] [.bool]] (s, f)) (retK S (slices_IndexFunc_int_int_T) Try.f55 [.val (.data (.sl (.int .i64))), .fn [.int .i64] [.bool]] [.val (.data (.int .i64))]) := by kernel_rfl
theorem slices_IndexFunc_int_int_vc (k : Nat) : VC S (slices_IndexFunc_int_int_T) byt (slices_IndexFunc_int_int_L k) (slices_IndexFunc_int_int_L (k + 1)) (ac [] Try.f55) (retK S (slices_IndexFunc_int_int_T) Try.f55 [.val (.data (.sl (.int .i64))), .fn [.int .i64] [.bool]] [.val (.data (.int .i64))]) = [∀ x : List Int × (Int → Option Bool) × Int × Int, slices_IndexFunc_int_int_l0 (k + 1) x.1 x.2.1 x.2.2.1 x.2.2.2 = slices_IndexFunc_int_int_l0 (k + 1) x.1 x.2.1 x.2.2.1 x.2.2.2] := by kernel_rfl
theorem slices_IndexFunc_int_int_sndk (k : Nat) : Snd Try.prog S ⟨55, [.val (.data (.sl (.int .i64))), .fn [.int .i64] [.bool]], [.val (.data (.int .i64))], fun x => slices_IndexFunc_int_int_f k x.1 x.2⟩ :=
  fn_ok progOk (T := (slices_IndexFunc_int_int_T)) (all_nil) (all_nil) mixed Try.func55 rfl (by kernel_rfl) (ac_code [] Try.f55 rfl) (L := slices_IndexFunc_int_int_L)
    (fun n l h x => by match n, h with
        | 0, h => 
          rcases List.mem_cons.1 h with rfl | h
          · rfl
          cases h
        | _ + 1, h => cases h) (fun k n l h => by match n, h with
        | 0, h => 
          rcases List.mem_cons.1 h with rfl | h
          · rfl
          cases h
        | _ + 1, h => cases h)
    (fun k => All.mem (slices_IndexFunc_int_int_vc k) ⟨fun _ => rfl, trivial⟩) (fun x r h => ⟨k, (slices_IndexFunc_int_int_eq k x.1 x.2).symm.trans h⟩) (by kernel_rfl) (by kernel_rfl) (Nat.le_of_ble_eq_true (by kernel_rfl))
theorem slices_IndexFunc_int_int_snd : Snd Try.prog S ⟨55, [.val (.data (.sl (.int .i64))), .fn [.int .i64] [.bool]], [.val (.data (.int .i64))], fun x => slices_IndexFunc_int_int x.1 x.2⟩ := Snd.lim slices_IndexFunc_int_int_sndk
/-! ### 51 slices.ContainsFunc[[]int,int] -/
noncomputable def slices_ContainsFunc_int_int  (s : List Int) (f : Int → Option Bool) : Option Bool := (slices_IndexFunc_int_int s f).bind fun r1 => some (decide (0 ≤ r1))
noncomputable abbrev slices_ContainsFunc_int_int_T : Tab S := ⟨[⟨55, [.val (.data (.sl (.int .i64))), .fn [.int .i64] [.bool]], [.val (.data (.int .i64))], fun x => slices_IndexFunc_int_int x.1 x.2⟩], [], false⟩
noncomputable def slices_ContainsFunc_int_int_L (k : Nat) : Nat → List (Lab S Bool)
  | _ => []
theorem slices_ContainsFunc_int_int_eq (k : Nat) (s : List Int) (f : Int → Option Bool) : slices_ContainsFunc_int_int s f = exec S (slices_ContainsFunc_int_int_T) byt (labs S (slices_ContainsFunc_int_int_T) (slices_ContainsFunc_int_int_L k)) (ac [] Try.f51) (frame0 S [.val (.data (.sl (.int .i64))), .fn [.int .i64] [.bool]] (s, f)) (retK S (slices_ContainsFunc_int_int_T) Try.f51 [.val (.data (.sl (.int .i64))), .fn [.int .i64] [.bool]] [.val (.data .bool)]) := by kernel_rfl
theorem slices_ContainsFunc_int_int_vc (k : Nat) : VC S (slices_ContainsFunc_int_int_T) byt (slices_ContainsFunc_int_int_L k) (slices_ContainsFunc_int_int_L (k + 1)) (ac [] Try.f51) (retK S (slices_ContainsFunc_int_int_T) Try.f51 [.val (.data (.sl (.int .i64))), .fn [.int .i64] [.bool]] [.val (.data .bool)]) = [] := by kernel_rfl
theorem slices_ContainsFunc_int_int_snd : Snd Try.prog S ⟨51, [.val (.data (.sl (.int .i64))), .fn [.int .i64] [.bool]], [.val (.data .bool)], fun x => slices_ContainsFunc_int_int x.1 x.2⟩ :=
  fn_ok progOk (T := (slices_ContainsFunc_int_int_T)) (all_cons slices_IndexFunc_int_int_snd (all_nil)) (all_nil) mixed Try.func51 rfl (by kernel_rfl) (ac_code [] Try.f51 rfl) (L := slices_ContainsFunc_int_int_L)
    (fun n l h x => by cases h) (fun k n l h => by cases h)
    (fun k => All.mem (slices_ContainsFunc_int_int_vc k) trivial) (fun x r h => ⟨0, (slices_ContainsFunc_int_int_eq 0 x.1 x.2).symm.trans h⟩) (by kernel_rfl) (by kernel_rfl) (Nat.le_of_ble_eq_true (by kernel_rfl))
/-! ### 48 slices.Clone[[]int,int] -/
noncomputable def slices_Clone_int_int  (s : List Int) : Option (List Int) := if s.length = 0 then
    agree (some []) (if (([] : List Int).length + s.length) * 8 ≤ 140737488355328 then
    some (([] : List Int) ++ s) else none) else
    if (([] : List Int).length + s.length) * 8 ≤ 140737488355328 then
    some (([] : List Int) ++ s) else none
noncomputable abbrev slices_Clone_int_int_T : Tab S := ⟨[], [], true⟩
noncomputable def slices_Clone_int_int_L (k : Nat) : Nat → List (Lab S (List Int))
  | _ => []
theorem slices_Clone_int_int_eq (k : Nat) (s : List Int) : slices_Clone_int_int s = exec S (slices_Clone_int_int_T) byt (labs S (slices_Clone_int_int_T) (slices_Clone_int_int_L k)) (ac [] Try.f48) (frame0 S [.val (.data (.sl (.int .i64)))] s) (retK S (slices_Clone_int_int_T) Try.f48 [.val (.data (.sl (.int .i64)))] [.val (.marr (.int .i64))]) := by kernel_rfl
theorem slices_Clone_int_int_vc (k : Nat) : VC S (slices_Clone_int_int_T) byt (slices_Clone_int_int_L k) (slices_Clone_int_int_L (k + 1)) (ac [] Try.f48) (retK S (slices_Clone_int_int_T) Try.f48 [.val (.data (.sl (.int .i64)))] [.val (.marr (.int .i64))]) = [] := by kernel_rfl
theorem slices_Clone_int_int_snd : Snd Try.prog S ⟨48, [.val (.data (.sl (.int .i64)))], [.val (.marr (.int .i64))], fun x => slices_Clone_int_int x⟩ :=
  fn_ok progOk (T := (slices_Clone_int_int_T)) (all_nil) (all_nil) mixed Try.func48 rfl (by kernel_rfl) (ac_code [] Try.f48 rfl) (L := slices_Clone_int_int_L)
    (fun n l h x => by cases h) (fun k n l h => by cases h)
    (fun k => All.mem (slices_Clone_int_int_vc k) trivial) (fun x r h => ⟨0, (slices_Clone_int_int_eq 0 x).symm.trans h⟩) (by kernel_rfl) (by kernel_rfl) (Nat.le_of_ble_eq_true (by kernel_rfl))
/-! ### 32 cotillion/ledger.New -/
noncomputable def ledger_New  (caps : List Int) : Option ((Option (List Int × List Int)) × Int) := if 24 < (caps.length : Int) then
    some (none, 1) else
    (slices_ContainsFunc_int_int caps (fun y => ledger_New_S1 y)).bind fun r1 =>
    bif r1 then
    some (none, 1) else
    (slices_Clone_int_int caps).bind fun r2 =>
    (slices_Clone_int_int caps).bind fun r3 =>
    some (some (r2, r3), 0)
noncomputable abbrev ledger_New_T : Tab S := ⟨[⟨51, [.val (.data (.sl (.int .i64))), .fn [.int .i64] [.bool]], [.val (.data .bool)], fun x => slices_ContainsFunc_int_int x.1 x.2⟩, ⟨48, [.val (.data (.sl (.int .i64)))], [.val (.marr (.int .i64))], fun x => slices_Clone_int_int x⟩], [⟨50, [.int .i64], [], [.bool], fun x c => ledger_New_S1 x⟩], false⟩
noncomputable def ledger_New_L (k : Nat) : Nat → List (Lab S ((Option (List Int × List Int)) × Int))
  | _ => []
theorem ledger_New_eq (k : Nat) (caps : List Int) : ledger_New caps = exec S (ledger_New_T) byt (labs S (ledger_New_T) (ledger_New_L k)) (ac [] Try.f32) (frame0 S [.val (.data (.sl (.int .i64)))] caps) (retK S (ledger_New_T) Try.f32 [.val (.data (.sl (.int .i64)))] [.opt [.data (.sl (.int .i64)), .marr (.int .i64)], .val (.data (.int .i64))]) := by kernel_rfl
theorem ledger_New_vc (k : Nat) : VC S (ledger_New_T) byt (ledger_New_L k) (ledger_New_L (k + 1)) (ac [] Try.f32) (retK S (ledger_New_T) Try.f32 [.val (.data (.sl (.int .i64)))] [.opt [.data (.sl (.int .i64)), .marr (.int .i64)], .val (.data (.int .i64))]) = [] := by kernel_rfl
theorem ledger_New_snd : Snd Try.prog S ⟨32, [.val (.data (.sl (.int .i64)))], [.opt [.data (.sl (.int .i64)), .marr (.int .i64)], .val (.data (.int .i64))], fun x => ledger_New x⟩ :=
  fn_ok progOk (T := (ledger_New_T)) (all_cons slices_ContainsFunc_int_int_snd (all_cons slices_Clone_int_int_snd (all_nil))) (all_cons ledger_New_S1_fsnd (all_nil)) mixed Try.func32 rfl (by kernel_rfl) (ac_code [] Try.f32 rfl) (L := ledger_New_L)
    (fun n l h x => by cases h) (fun k n l h => by cases h)
    (fun k => All.mem (ledger_New_vc k) trivial) (fun x r h => ⟨0, (ledger_New_eq 0 x).symm.trans h⟩) (by kernel_rfl) (by kernel_rfl) (Nat.le_of_ble_eq_true (by kernel_rfl))
/-! ### 52 (*cotillion/ledger.Ledger).is -/
noncomputable def ledger_Ledger_is  (l : List Int × List Int) (c : Int) : Option (Bool × (List Int × List Int)) := if 0 ≤ c then
    some (decide (c < (l.1.length : Int)), (l.1, l.2)) else
    some (false, (l.1, l.2))
noncomputable abbrev ledger_Ledger_is_T : Tab S := ⟨[], [], false⟩
noncomputable def ledger_Ledger_is_L (k : Nat) : Nat → List (Lab S (Bool × (List Int × List Int)))
  | _ => []
theorem ledger_Ledger_is_eq (k : Nat) (l : List Int × List Int) (c : Int) : ledger_Ledger_is l c = exec S (ledger_Ledger_is_T) byt (labs S (ledger_Ledger_is_T) (ledger_Ledger_is_L k)) (ac [] Try.f52) (frame0 S [.obj [.data (.sl (.int .i64)), .marr (.int .i64)], .val (.data (.int .i64))] (l, c)) (retK S (ledger_Ledger_is_T) Try.f52 [.obj [.data (.sl (.int .i64)), .marr (.int .i64)], .val (.data (.int .i64))] [.val (.data .bool)]) := by kernel_rfl
theorem ledger_Ledger_is_vc (k : Nat) : VC S (ledger_Ledger_is_T) byt (ledger_Ledger_is_L k) (ledger_Ledger_is_L (k + 1)) (ac [] Try.f52) (retK S (ledger_Ledger_is_T) Try.f52 [.obj [.data (.sl (.int .i64)), .marr (.int .i64)], .val (.data (.int .i64))] [.val (.data .bool)]) = [] := by kernel_rfl
theorem ledger_Ledger_is_snd : Snd Try.prog S ⟨52, [.obj [.data (.sl (.int .i64)), .marr (.int .i64)], .val (.data (.int .i64))], [.val (.data .bool)], fun x => ledger_Ledger_is x.1 x.2⟩ :=
  fn_ok progOk (T := (ledger_Ledger_is_T)) (all_nil) (all_nil) mixed Try.func52 rfl (by kernel_rfl) (ac_code [] Try.f52 rfl) (L := ledger_Ledger_is_L)
    (fun n l h x => by cases h) (fun k n l h => by cases h)
    (fun k => All.mem (ledger_Ledger_is_vc k) trivial) (fun x r h => ⟨0, (ledger_Ledger_is_eq 0 x.1 x.2).symm.trans h⟩) (by kernel_rfl) (by kernel_rfl) (Nat.le_of_ble_eq_true (by kernel_rfl))
/-! ### 34 (*cotillion/ledger.Ledger).Take -/
noncomputable def ledger_Ledger_Take  (l : List Int × List Int) (c : Int) : Option (Int × (List Int × List Int)) := (ledger_Ledger_is (l.1, l.2) c).bind fun r1 =>
    bif !r1.1 then
    some (7, (r1.2.1, r1.2.2)) else
    if 0 ≤ c then
    if c < (r1.2.2.length : Int) then
    if (r1.2.2.getD c.toNat 0) = 0 then
    some (6, (r1.2.1, r1.2.2)) else
    if 0 ≤ c then
    if c < (r1.2.2.length : Int) then
    if 0 ≤ c then
    if c < (r1.2.2.length : Int) then
    some (0, (r1.2.1, r1.2.2.set c.toNat (w64 ((r1.2.2.getD c.toNat 0) - 1)))) else none else none else none else none else none else none
noncomputable abbrev ledger_Ledger_Take_T : Tab S := ⟨[⟨52, [.obj [.data (.sl (.int .i64)), .marr (.int .i64)], .val (.data (.int .i64))], [.val (.data .bool)], fun x => ledger_Ledger_is x.1 x.2⟩], [], false⟩
noncomputable def ledger_Ledger_Take_L (k : Nat) : Nat → List (Lab S (Int × (List Int × List Int)))
  | _ => []
theorem ledger_Ledger_Take_eq (k : Nat) (l : List Int × List Int) (c : Int) : ledger_Ledger_Take l c = exec S (ledger_Ledger_Take_T) byt (labs S (ledger_Ledger_Take_T) (ledger_Ledger_Take_L k)) (ac [] Try.f34) (frame0 S [.obj [.data (.sl (.int .i64)), .marr (.int .i64)], .val (.data (.int .i64))] (l, c)) (retK S (ledger_Ledger_Take_T) Try.f34 [.obj [.data (.sl (.int .i64)), .marr (.int .i64)], .val (.data (.int .i64))] [.val (.data (.int .i64))]) := by kernel_rfl
theorem ledger_Ledger_Take_vc (k : Nat) : VC S (ledger_Ledger_Take_T) byt (ledger_Ledger_Take_L k) (ledger_Ledger_Take_L (k + 1)) (ac [] Try.f34) (retK S (ledger_Ledger_Take_T) Try.f34 [.obj [.data (.sl (.int .i64)), .marr (.int .i64)], .val (.data (.int .i64))] [.val (.data (.int .i64))]) = [] := by kernel_rfl
theorem ledger_Ledger_Take_snd : Snd Try.prog S ⟨34, [.obj [.data (.sl (.int .i64)), .marr (.int .i64)], .val (.data (.int .i64))], [.val (.data (.int .i64))], fun x => ledger_Ledger_Take x.1 x.2⟩ :=
  fn_ok progOk (T := (ledger_Ledger_Take_T)) (all_cons ledger_Ledger_is_snd (all_nil)) (all_nil) mixed Try.func34 rfl (by kernel_rfl) (ac_code [] Try.f34 rfl) (L := ledger_Ledger_Take_L)
    (fun n l h x => by cases h) (fun k n l h => by cases h)
    (fun k => All.mem (ledger_Ledger_Take_vc k) trivial) (fun x r h => ⟨0, (ledger_Ledger_Take_eq 0 x.1 x.2).symm.trans h⟩) (by kernel_rfl) (by kernel_rfl) (Nat.le_of_ble_eq_true (by kernel_rfl))
/-! ### 35 (*cotillion/ledger.Ledger).Free -/
noncomputable def ledger_Ledger_Free  (l : List Int × List Int) (c : Int) : Option (Int × (List Int × List Int)) := (ledger_Ledger_is (l.1, l.2) c).bind fun r1 =>
    bif !r1.1 then
    some (0, (r1.2.1, r1.2.2)) else
    if 0 ≤ c then
    if c < (r1.2.2.length : Int) then
    some (r1.2.2.getD c.toNat 0, (r1.2.1, r1.2.2)) else none else none
noncomputable abbrev ledger_Ledger_Free_T : Tab S := ⟨[⟨52, [.obj [.data (.sl (.int .i64)), .marr (.int .i64)], .val (.data (.int .i64))], [.val (.data .bool)], fun x => ledger_Ledger_is x.1 x.2⟩], [], false⟩
noncomputable def ledger_Ledger_Free_L (k : Nat) : Nat → List (Lab S (Int × (List Int × List Int)))
  | _ => []
theorem ledger_Ledger_Free_eq (k : Nat) (l : List Int × List Int) (c : Int) : ledger_Ledger_Free l c = exec S (ledger_Ledger_Free_T) byt (labs S (ledger_Ledger_Free_T) (ledger_Ledger_Free_L k)) (ac [] Try.f35) (frame0 S [.obj [.data (.sl (.int .i64)), .marr (.int .i64)], .val (.data (.int .i64))] (l, c)) (retK S (ledger_Ledger_Free_T) Try.f35 [.obj [.data (.sl (.int .i64)), .marr (.int .i64)], .val (.data (.int .i64))] [.val (.data (.int .i64))]) := by kernel_rfl
theorem ledger_Ledger_Free_vc (k : Nat) : VC S (ledger_Ledger_Free_T) byt (ledger_Ledger_Free_L k) (ledger_Ledger_Free_L (k + 1)) (ac [] Try.f35) (retK S (ledger_Ledger_Free_T) Try.f35 [.obj [.data (.sl (.int .i64)), .marr (.int .i64)], .val (.data (.int .i64))] [.val (.data (.int .i64))]) = [] := by kernel_rfl
theorem ledger_Ledger_Free_snd : Snd Try.prog S ⟨35, [.obj [.data (.sl (.int .i64)), .marr (.int .i64)], .val (.data (.int .i64))], [.val (.data (.int .i64))], fun x => ledger_Ledger_Free x.1 x.2⟩ :=
  fn_ok progOk (T := (ledger_Ledger_Free_T)) (all_cons ledger_Ledger_is_snd (all_nil)) (all_nil) mixed Try.func35 rfl (by kernel_rfl) (ac_code [] Try.f35 rfl) (L := ledger_Ledger_Free_L)
    (fun n l h x => by cases h) (fun k n l h => by cases h)
    (fun k => All.mem (ledger_Ledger_Free_vc k) trivial) (fun x r h => ⟨0, (ledger_Ledger_Free_eq 0 x.1 x.2).symm.trans h⟩) (by kernel_rfl) (by kernel_rfl) (Nat.le_of_ble_eq_true (by kernel_rfl))
/-! ### 44 (*cotillion/ledger.Ledger).Has -/
noncomputable def ledger_Ledger_Has_l0 : Nat → (List Int) → (List Int) → (List Int) → Int → Int → Option (Bool × (List Int × List Int))
  | 0, _, _, _, _, _ => none
  | k + 1, l_caps, l_free, x9, x10, x11 => if x11 < x10 then
    if 0 ≤ x11 then
    if x11 < (x9.length : Int) then
    (ledger_Ledger_Free (l_caps, l_free) x11).bind fun r1 =>
    if r1.1 < (x9.getD x11.toNat 0) then
    if 0 < (x9.getD x11.toNat 0) then
    some (false, (r1.2.1, r1.2.2)) else
    ledger_Ledger_Has_l0 k r1.2.1 r1.2.2 x9 x10 (w64 (x11 + 1)) else
    ledger_Ledger_Has_l0 k r1.2.1 r1.2.2 x9 x10 (w64 (x11 + 1)) else none else none else
    some (true, (l_caps, l_free))
noncomputable def ledger_Ledger_Has_f (k : Nat) (l : List Int × List Int) (needs : List Int) : Option (Bool × (List Int × List Int)) := ledger_Ledger_Has_l0 k l.1 l.2 needs (needs.length : Int) 0
noncomputable def ledger_Ledger_Has (l : List Int × List Int) (needs : List Int) : Option (Bool × (List Int × List Int)) := lim (fun k (x : (List Int × List Int) × List Int) => ledger_Ledger_Has_f k x.1 x.2) (l, needs)
noncomputable abbrev ledger_Ledger_Has_T : Tab S := ⟨[⟨35, [.obj [.data (.sl (.int .i64)), .marr (.int .i64)], .val (.data (.int .i64))], [.val (.data (.int .i64))], fun x => ledger_Ledger_Free x.1 x.2⟩], [], false⟩
noncomputable def ledger_Ledger_Has_L (k : Nat) : Nat → List (Lab S (Bool × (List Int × List Int)))
  | 0 => [⟨[0, 9, 10, 11], [.obj [.data (.sl (.int .i64)), .marr (.int .i64)], .val (.data (.sl (.int .i64))), .val (.data (.int .i64)), .val (.data (.int .i64))], fun x => ledger_Ledger_Has_l0 k x.1.1 x.1.2 x.2.1 x.2.2.1 x.2.2.2⟩]
  | _ + 1 => []
theorem ledger_Ledger_Has_eq (k : Nat) (l : List Int × List Int) (needs : List Int) : ledger_Ledger_Has_f k l needs = exec S (ledger_Ledger_Has_T) byt (labs S (ledger_Ledger_Has_T) (ledger_Ledger_Has_L k)) (ac [] Try.f44) (frame0 S [.obj [.data (.sl (.int .i64)), .marr (.int .i64)], .val (.data (.sl (.int .i64)))] (l, needs)) (retK S (ledger_Ledger_Has_T) Try.f44 [.obj [.data (.sl (.int .i64)), .marr (.int .i64)], .val (.data (.sl (.int .i64)))] [.val (.data .bool)]) := by kernel_rfl
theorem ledger_Ledger_Has_vc (k : Nat) : VC S (ledger_Ledger_Has_T) byt (ledger_Ledger_Has_L k) (ledger_Ledger_Has_L (k + 1)) (ac [] Try.f44) (retK S (ledger_Ledger_Has_T) Try.f44 [.obj [.data (.sl (.int .i64)), .marr (.int .i64)], .val (.data (.sl (.int .i64)))] [.val (.data .bool)]) = [∀ x : (List Int × List Int) × List Int × Int × Int, ledger_Ledger_Has_l0 (k + 1) x.1.1 x.1.2 x.2.1 x.2.2.1 x.2.2.2 = ledger_Ledger_Has_l0 (k + 1) x.1.1 x.1.2 x.2.1 x.2.2.1 x.2.2.2] := by kernel_rfl
theorem ledger_Ledger_Has_sndk (k : Nat) : Snd Try.prog S ⟨44, [.obj [.data (.sl (.int .i64)), .marr (.int .i64)], .val (.data (.sl (.int .i64)))], [.val (.data .bool)], fun x => ledger_Ledger_Has_f k x.1 x.2⟩ :=
  fn_ok progOk (T := (ledger_Ledger_Has_T)) (all_cons ledger_Ledger_Free_snd (all_nil)) (all_nil) mixed Try.func44 rfl (by kernel_rfl) (ac_code [] Try.f44 rfl) (L := ledger_Ledger_Has_L)
    (fun n l h x => by match n, h with
        | 0, h => 
          rcases List.mem_cons.1 h with rfl | h
          · rfl
          cases h
        | _ + 1, h => cases h) (fun k n l h => by match n, h with
        | 0, h => 
          rcases List.mem_cons.1 h with rfl | h
          · rfl
          cases h
        | _ + 1, h => cases h)
    (fun k => All.mem (ledger_Ledger_Has_vc k) ⟨fun _ => rfl, trivial⟩) (fun x r h => ⟨k, (ledger_Ledger_Has_eq k x.1 x.2).symm.trans h⟩) (by kernel_rfl) (by kernel_rfl) (Nat.le_of_ble_eq_true (by kernel_rfl))
theorem ledger_Ledger_Has_snd : Snd Try.prog S ⟨44, [.obj [.data (.sl (.int .i64)), .marr (.int .i64)], .val (.data (.sl (.int .i64)))], [.val (.data .bool)], fun x => ledger_Ledger_Has x.1 x.2⟩ := Snd.lim ledger_Ledger_Has_sndk
/-! ### 36 (*cotillion/ledger.Ledger).Held -/
noncomputable def ledger_Ledger_Held  (l : List Int × List Int) (c : Int) : Option (Int × (List Int × List Int)) := (ledger_Ledger_is (l.1, l.2) c).bind fun r1 =>
    bif !r1.1 then
    some (0, (r1.2.1, r1.2.2)) else
    if 0 ≤ c then
    if c < (r1.2.1.length : Int) then
    if 0 ≤ c then
    if c < (r1.2.2.length : Int) then
    some (w64 ((r1.2.1.getD c.toNat 0) - (r1.2.2.getD c.toNat 0)), (r1.2.1, r1.2.2)) else none else none else none else none
noncomputable abbrev ledger_Ledger_Held_T : Tab S := ⟨[⟨52, [.obj [.data (.sl (.int .i64)), .marr (.int .i64)], .val (.data (.int .i64))], [.val (.data .bool)], fun x => ledger_Ledger_is x.1 x.2⟩], [], false⟩
noncomputable def ledger_Ledger_Held_L (k : Nat) : Nat → List (Lab S (Int × (List Int × List Int)))
  | _ => []
theorem ledger_Ledger_Held_eq (k : Nat) (l : List Int × List Int) (c : Int) : ledger_Ledger_Held l c = exec S (ledger_Ledger_Held_T) byt (labs S (ledger_Ledger_Held_T) (ledger_Ledger_Held_L k)) (ac [] Try.f36) (frame0 S [.obj [.data (.sl (.int .i64)), .marr (.int .i64)], .val (.data (.int .i64))] (l, c)) (retK S (ledger_Ledger_Held_T) Try.f36 [.obj [.data (.sl (.int .i64)), .marr (.int .i64)], .val (.data (.int .i64))] [.val (.data (.int .i64))]) := by kernel_rfl
theorem ledger_Ledger_Held_vc (k : Nat) : VC S (ledger_Ledger_Held_T) byt (ledger_Ledger_Held_L k) (ledger_Ledger_Held_L (k + 1)) (ac [] Try.f36) (retK S (ledger_Ledger_Held_T) Try.f36 [.obj [.data (.sl (.int .i64)), .marr (.int .i64)], .val (.data (.int .i64))] [.val (.data (.int .i64))]) = [] := by kernel_rfl
theorem ledger_Ledger_Held_snd : Snd Try.prog S ⟨36, [.obj [.data (.sl (.int .i64)), .marr (.int .i64)], .val (.data (.int .i64))], [.val (.data (.int .i64))], fun x => ledger_Ledger_Held x.1 x.2⟩ :=
  fn_ok progOk (T := (ledger_Ledger_Held_T)) (all_cons ledger_Ledger_is_snd (all_nil)) (all_nil) mixed Try.func36 rfl (by kernel_rfl) (ac_code [] Try.f36 rfl) (L := ledger_Ledger_Held_L)
    (fun n l h x => by cases h) (fun k n l h => by cases h)
    (fun k => All.mem (ledger_Ledger_Held_vc k) trivial) (fun x r h => ⟨0, (ledger_Ledger_Held_eq 0 x.1 x.2).symm.trans h⟩) (by kernel_rfl) (by kernel_rfl) (Nat.le_of_ble_eq_true (by kernel_rfl))
/-! ### 33 (*cotillion/ledger.Ledger).Give -/
noncomputable def ledger_Ledger_Give  (l : List Int × List Int) (c : Int) : Option (Int × (List Int × List Int)) := (ledger_Ledger_is (l.1, l.2) c).bind fun r1 =>
    bif !r1.1 then
    some (7, (r1.2.1, r1.2.2)) else
    (ledger_Ledger_Held (r1.2.1, r1.2.2) c).bind fun r2 =>
    if r2.1 = 0 then
    some (9, (r2.2.1, r2.2.2)) else
    if 0 ≤ c then
    if c < (r2.2.2.length : Int) then
    if 0 ≤ c then
    if c < (r2.2.2.length : Int) then
    some (0, (r2.2.1, r2.2.2.set c.toNat (w64 ((r2.2.2.getD c.toNat 0) + 1)))) else none else none else none else none
noncomputable abbrev ledger_Ledger_Give_T : Tab S := ⟨[⟨52, [.obj [.data (.sl (.int .i64)), .marr (.int .i64)], .val (.data (.int .i64))], [.val (.data .bool)], fun x => ledger_Ledger_is x.1 x.2⟩, ⟨36, [.obj [.data (.sl (.int .i64)), .marr (.int .i64)], .val (.data (.int .i64))], [.val (.data (.int .i64))], fun x => ledger_Ledger_Held x.1 x.2⟩], [], false⟩
noncomputable def ledger_Ledger_Give_L (k : Nat) : Nat → List (Lab S (Int × (List Int × List Int)))
  | _ => []
theorem ledger_Ledger_Give_eq (k : Nat) (l : List Int × List Int) (c : Int) : ledger_Ledger_Give l c = exec S (ledger_Ledger_Give_T) byt (labs S (ledger_Ledger_Give_T) (ledger_Ledger_Give_L k)) (ac [] Try.f33) (frame0 S [.obj [.data (.sl (.int .i64)), .marr (.int .i64)], .val (.data (.int .i64))] (l, c)) (retK S (ledger_Ledger_Give_T) Try.f33 [.obj [.data (.sl (.int .i64)), .marr (.int .i64)], .val (.data (.int .i64))] [.val (.data (.int .i64))]) := by kernel_rfl
theorem ledger_Ledger_Give_vc (k : Nat) : VC S (ledger_Ledger_Give_T) byt (ledger_Ledger_Give_L k) (ledger_Ledger_Give_L (k + 1)) (ac [] Try.f33) (retK S (ledger_Ledger_Give_T) Try.f33 [.obj [.data (.sl (.int .i64)), .marr (.int .i64)], .val (.data (.int .i64))] [.val (.data (.int .i64))]) = [] := by kernel_rfl
theorem ledger_Ledger_Give_snd : Snd Try.prog S ⟨33, [.obj [.data (.sl (.int .i64)), .marr (.int .i64)], .val (.data (.int .i64))], [.val (.data (.int .i64))], fun x => ledger_Ledger_Give x.1 x.2⟩ :=
  fn_ok progOk (T := (ledger_Ledger_Give_T)) (all_cons ledger_Ledger_is_snd (all_cons ledger_Ledger_Held_snd (all_nil))) (all_nil) mixed Try.func33 rfl (by kernel_rfl) (ac_code [] Try.f33 rfl) (L := ledger_Ledger_Give_L)
    (fun n l h x => by cases h) (fun k n l h => by cases h)
    (fun k => All.mem (ledger_Ledger_Give_vc k) trivial) (fun x r h => ⟨0, (ledger_Ledger_Give_eq 0 x.1 x.2).symm.trans h⟩) (by kernel_rfl) (by kernel_rfl) (Nat.le_of_ble_eq_true (by kernel_rfl))
/-! ### 31 cotillion/cotillionlaw4.known -/
noncomputable def law4_known  : Option Bool := (ledger_New [2, 1]).bind fun r1 =>
    (match r1.1 with
    | none => if r1.2 ≠ 0 then
    some false else
    some false
    | some y2 => if r1.2 ≠ 0 then
    some false else
    (ledger_Ledger_Take (y2.1, y2.2) 0).bind fun r3 =>
    if r3.1 = 0 then
    (ledger_Ledger_Has (r3.2.1, r3.2.2) [1, 1]).bind fun r4 =>
    bif r4.1 then
    (ledger_Ledger_Has (r4.2.1, r4.2.2) [2]).bind fun r5 =>
    bif !r5.1 then
    (ledger_Ledger_Give (r5.2.1, r5.2.2) 1).bind fun r6 =>
    if r6.1 = 9 then
    (ledger_Ledger_Free (r6.2.1, r6.2.2) 0).bind fun r7 =>
    if r7.1 = 1 then
    (ledger_Ledger_Held (r7.2.1, r7.2.2) 0).bind fun r8 =>
    some (decide (r8.1 = 1)) else
    some false else
    some false else
    some false else
    some false else
    some false)
noncomputable abbrev law4_known_T : Tab S := ⟨[⟨32, [.val (.data (.sl (.int .i64)))], [.opt [.data (.sl (.int .i64)), .marr (.int .i64)], .val (.data (.int .i64))], fun x => ledger_New x⟩, ⟨34, [.obj [.data (.sl (.int .i64)), .marr (.int .i64)], .val (.data (.int .i64))], [.val (.data (.int .i64))], fun x => ledger_Ledger_Take x.1 x.2⟩, ⟨44, [.obj [.data (.sl (.int .i64)), .marr (.int .i64)], .val (.data (.sl (.int .i64)))], [.val (.data .bool)], fun x => ledger_Ledger_Has x.1 x.2⟩, ⟨33, [.obj [.data (.sl (.int .i64)), .marr (.int .i64)], .val (.data (.int .i64))], [.val (.data (.int .i64))], fun x => ledger_Ledger_Give x.1 x.2⟩, ⟨35, [.obj [.data (.sl (.int .i64)), .marr (.int .i64)], .val (.data (.int .i64))], [.val (.data (.int .i64))], fun x => ledger_Ledger_Free x.1 x.2⟩, ⟨36, [.obj [.data (.sl (.int .i64)), .marr (.int .i64)], .val (.data (.int .i64))], [.val (.data (.int .i64))], fun x => ledger_Ledger_Held x.1 x.2⟩], [], false⟩
noncomputable def law4_known_L (k : Nat) : Nat → List (Lab S Bool)
  | _ => []
theorem law4_known_eq (k : Nat) : law4_known = exec S (law4_known_T) byt (labs S (law4_known_T) (law4_known_L k)) (ac [] Try.f31) (frame0 S [] ()) (retK S (law4_known_T) Try.f31 [] [.val (.data .bool)]) := by kernel_rfl
theorem law4_known_vc (k : Nat) : VC S (law4_known_T) byt (law4_known_L k) (law4_known_L (k + 1)) (ac [] Try.f31) (retK S (law4_known_T) Try.f31 [] [.val (.data .bool)]) = [] := by kernel_rfl
theorem law4_known_snd : Snd Try.prog S ⟨31, [], [.val (.data .bool)], fun x => law4_known⟩ :=
  fn_ok progOk (T := (law4_known_T)) (all_cons ledger_New_snd (all_cons ledger_Ledger_Take_snd (all_cons ledger_Ledger_Has_snd (all_cons ledger_Ledger_Give_snd (all_cons ledger_Ledger_Free_snd (all_cons ledger_Ledger_Held_snd (all_nil))))))) (all_nil) mixed Try.func31 rfl (by kernel_rfl) (ac_code [] Try.f31 rfl) (L := law4_known_L)
    (fun n l h x => by cases h) (fun k n l h => by cases h)
    (fun k => All.mem (law4_known_vc k) trivial) (fun x r h => ⟨0, (law4_known_eq 0).symm.trans h⟩) (by kernel_rfl) (by kernel_rfl) (Nat.le_of_ble_eq_true (by kernel_rfl))
/-! ### 7 cotillion/cotillionlaw4.LedgerSums -/
mutual
noncomputable def law4_LedgerSums_l1 : Nat → (List law4_Step) → (List Int) → (List Int) → (List Int) → Int → Option Bool
  | 0, _, _, _, _, _ => none
  | k + 1, l, m, a_caps, a_free, i => if i < (l.length : Int) then
    if 0 ≤ i then
    if i < (l.length : Int) then
    if ¬ (3 : Int) = 0 then
    if (((l.getD i.toNat law4_Step.z).What).tmod 3) = 0 then
    if 0 ≤ i then
    if i < (l.length : Int) then
    (ledger_Ledger_Give (a_caps, a_free) ((l.getD i.toNat law4_Step.z).C)).bind fun r5 =>
    law4_LedgerSums_l2 k l m r5.2.1 r5.2.2 i 0 else none else none else
    if 0 ≤ i then
    if i < (l.length : Int) then
    (ledger_Ledger_Take (a_caps, a_free) ((l.getD i.toNat law4_Step.z).C)).bind fun r6 =>
    law4_LedgerSums_l2 k l m r6.2.1 r6.2.2 i 0 else none else none else none else none else none else
    (law4_known).bind fun r7 =>
    some r7
noncomputable def law4_LedgerSums_l2 : Nat → (List law4_Step) → (List Int) → (List Int) → (List Int) → Int → Int → Option Bool
  | 0, _, _, _, _, _, _ => none
  | k + 1, l, m, a_caps, a_free, i, c => if c < (m.length : Int) then
    (ledger_Ledger_Free (a_caps, a_free) c).bind fun r8 =>
    if r8.1 < 0 then
    some false else
    (ledger_Ledger_Held (r8.2.1, r8.2.2) c).bind fun r9 =>
    if r9.1 < 0 then
    some false else
    (ledger_Ledger_Free (r9.2.1, r9.2.2) c).bind fun r10 =>
    (ledger_Ledger_Held (r10.2.1, r10.2.2) c).bind fun r11 =>
    if 0 ≤ c then
    if c < (m.length : Int) then
    if (w64 (r10.1 + r11.1)) ≠ (m.getD c.toNat 0) then
    some false else
    law4_LedgerSums_l2 k l m r11.2.1 r11.2.2 i (w64 (c + 1)) else none else none else
    law4_LedgerSums_l1 k l m a_caps a_free (w64 (i + 1))
end
noncomputable def law4_LedgerSums_l0 : Nat → (List Int) → (List law4_Step) → (List Int) → Int → Option Bool
  | 0, _, _, _, _ => none
  | k + 1, caps, l, m, i => if i < (caps.length : Int) then
    if 0 ≤ i then
    if i < (caps.length : Int) then
    if ¬ (32 : Int) = 0 then
    if (m.length + [w64 (1 + ((w64 (caps.getD i.toNat 0)).tmod 32))].length) * 8 ≤ 140737488355328 then
    law4_LedgerSums_l0 k caps l (m ++ [w64 (1 + ((w64 (caps.getD i.toNat 0)).tmod 32))]) (w64 (i + 1)) else none else none else none else none else
    (ledger_New m).bind fun r3 =>
    (match r3.1 with
    | none => if r3.2 ≠ 0 then
    some false else
    some false
    | some y4 => if r3.2 ≠ 0 then
    some false else
    law4_LedgerSums_l1 k l m y4.1 y4.2 0)
noncomputable def law4_LedgerSums_f (k : Nat) (caps : List Int) (l : List law4_Step) : Option Bool := if 24 < (caps.length : Int) then
    (law4_known).bind fun r1 =>
    some r1 else
    if 200 < (l.length : Int) then
    (law4_known).bind fun r2 =>
    some r2 else
    law4_LedgerSums_l0 k caps l [] 0
noncomputable def law4_LedgerSums (caps : List Int) (l : List law4_Step) : Option Bool := lim (fun k (x : List Int × List law4_Step) => law4_LedgerSums_f k x.1 x.2) (caps, l)
noncomputable abbrev law4_LedgerSums_T : Tab S := ⟨[⟨31, [], [.val (.data .bool)], fun x => law4_known⟩, ⟨32, [.val (.data (.sl (.int .i64)))], [.opt [.data (.sl (.int .i64)), .marr (.int .i64)], .val (.data (.int .i64))], fun x => ledger_New x⟩, ⟨33, [.obj [.data (.sl (.int .i64)), .marr (.int .i64)], .val (.data (.int .i64))], [.val (.data (.int .i64))], fun x => ledger_Ledger_Give x.1 x.2⟩, ⟨34, [.obj [.data (.sl (.int .i64)), .marr (.int .i64)], .val (.data (.int .i64))], [.val (.data (.int .i64))], fun x => ledger_Ledger_Take x.1 x.2⟩, ⟨35, [.obj [.data (.sl (.int .i64)), .marr (.int .i64)], .val (.data (.int .i64))], [.val (.data (.int .i64))], fun x => ledger_Ledger_Free x.1 x.2⟩, ⟨36, [.obj [.data (.sl (.int .i64)), .marr (.int .i64)], .val (.data (.int .i64))], [.val (.data (.int .i64))], fun x => ledger_Ledger_Held x.1 x.2⟩], [], false⟩
noncomputable def law4_LedgerSums_L (k : Nat) : Nat → List (Lab S Bool)
  | 0 => [⟨[0, 1, 5, 6], [.val (.data (.sl (.int .u8))), .val (.data (.sl (.st 0))), .val (.town (.int .i64)), .val (.data (.int .i64))], fun x => law4_LedgerSums_l0 k x.1 x.2.1 x.2.2.1 x.2.2.2⟩]
  | 1 => []
  | 2 => [⟨[1, 5, 7, 9], [.val (.data (.sl (.st 0))), .val (.town (.int .i64)), .obj [.data (.sl (.int .i64)), .marr (.int .i64)], .val (.data (.int .i64))], fun x => law4_LedgerSums_l1 k x.1 x.2.1 x.2.2.1.1 x.2.2.1.2 x.2.2.2⟩]
  | 3 => []
  | 4 => [⟨[1, 5, 7, 9, 10], [.val (.data (.sl (.st 0))), .val (.town (.int .i64)), .obj [.data (.sl (.int .i64)), .marr (.int .i64)], .val (.data (.int .i64)), .val (.data (.int .i64))], fun x => law4_LedgerSums_l2 k x.1 x.2.1 x.2.2.1.1 x.2.2.1.2 x.2.2.2.1 x.2.2.2.2⟩]
  | _ + 5 => []
theorem law4_LedgerSums_eq (k : Nat) (caps : List Int) (l : List law4_Step) : law4_LedgerSums_f k caps l = exec S (law4_LedgerSums_T) byt (labs S (law4_LedgerSums_T) (law4_LedgerSums_L k)) (ac [] Try.f7) (frame0 S [.val (.data (.sl (.int .u8))), .val (.data (.sl (.st 0)))] (caps, l)) (retK S (law4_LedgerSums_T) Try.f7 [.val (.data (.sl (.int .u8))), .val (.data (.sl (.st 0)))] [.val (.data .bool)]) := by kernel_rfl
theorem law4_LedgerSums_vc (k : Nat) : VC S (law4_LedgerSums_T) byt (law4_LedgerSums_L k) (law4_LedgerSums_L (k + 1)) (ac [] Try.f7) (retK S (law4_LedgerSums_T) Try.f7 [.val (.data (.sl (.int .u8))), .val (.data (.sl (.st 0)))] [.val (.data .bool)]) = [∀ x : List Int × List law4_Step × List Int × Int, law4_LedgerSums_l0 (k + 1) x.1 x.2.1 x.2.2.1 x.2.2.2 = law4_LedgerSums_l0 (k + 1) x.1 x.2.1 x.2.2.1 x.2.2.2, ∀ x : List law4_Step × List Int × (List Int × List Int) × Int × Int, law4_LedgerSums_l2 (k + 1) x.1 x.2.1 x.2.2.1.1 x.2.2.1.2 x.2.2.2.1 x.2.2.2.2 = law4_LedgerSums_l2 (k + 1) x.1 x.2.1 x.2.2.1.1 x.2.2.1.2 x.2.2.2.1 x.2.2.2.2, ∀ x : List law4_Step × List Int × (List Int × List Int) × Int, law4_LedgerSums_l1 (k + 1) x.1 x.2.1 x.2.2.1.1 x.2.2.1.2 x.2.2.2 = law4_LedgerSums_l1 (k + 1) x.1 x.2.1 x.2.2.1.1 x.2.2.1.2 x.2.2.2] := by kernel_rfl
theorem law4_LedgerSums_sndk (k : Nat) : Snd Try.prog S ⟨7, [.val (.data (.sl (.int .u8))), .val (.data (.sl (.st 0)))], [.val (.data .bool)], fun x => law4_LedgerSums_f k x.1 x.2⟩ :=
  fn_ok progOk (T := (law4_LedgerSums_T)) (all_cons law4_known_snd (all_cons ledger_New_snd (all_cons ledger_Ledger_Give_snd (all_cons ledger_Ledger_Take_snd (all_cons ledger_Ledger_Free_snd (all_cons ledger_Ledger_Held_snd (all_nil))))))) (all_nil) mixed Try.func7 rfl (by kernel_rfl) (ac_code [] Try.f7 rfl) (L := law4_LedgerSums_L)
    (fun n l h x => by match n, h with
        | 0, h => 
          rcases List.mem_cons.1 h with rfl | h
          · rfl
          cases h
        | 1, h => cases h
        | 2, h => 
          rcases List.mem_cons.1 h with rfl | h
          · rfl
          cases h
        | 3, h => cases h
        | 4, h => 
          rcases List.mem_cons.1 h with rfl | h
          · rfl
          cases h
        | _ + 5, h => cases h) (fun k n l h => by match n, h with
        | 0, h => 
          rcases List.mem_cons.1 h with rfl | h
          · rfl
          cases h
        | 1, h => cases h
        | 2, h => 
          rcases List.mem_cons.1 h with rfl | h
          · rfl
          cases h
        | 3, h => cases h
        | 4, h => 
          rcases List.mem_cons.1 h with rfl | h
          · rfl
          cases h
        | _ + 5, h => cases h)
    (fun k => All.mem (law4_LedgerSums_vc k) ⟨fun _ => rfl, ⟨fun _ => rfl, ⟨fun _ => rfl, trivial⟩⟩⟩) (fun x r h => ⟨k, (law4_LedgerSums_eq k x.1 x.2).symm.trans h⟩) (by kernel_rfl) (by kernel_rfl) (Nat.le_of_ble_eq_true (by kernel_rfl))
theorem law4_LedgerSums_snd : Snd Try.prog S ⟨7, [.val (.data (.sl (.int .u8))), .val (.data (.sl (.st 0)))], [.val (.data .bool)], fun x => law4_LedgerSums x.1 x.2⟩ := Snd.lim law4_LedgerSums_sndk
/-! ### 8 cotillion/cotillionlaw4.LedgerCaps -/
noncomputable def law4_LedgerCaps_c0 : Nat → (List Int) → Bool → Option Bool
  | 0, _, _ => none
  | k + 1, caps, want => (ledger_New caps).bind fun r1 =>
    (match r1.1 with
    | none => if (decide (r1.2 = 0)) = want then
    if false = want then
    bif want then
    (law4_known).bind fun r3 =>
    some r3 else
    if r1.2 = 1 then
    (law4_known).bind fun r4 =>
    some r4 else
    some false else
    some false else
    some false
    | some y2 => if (decide (r1.2 = 0)) = want then
    if true = want then
    bif want then
    (law4_known).bind fun r5 =>
    some r5 else
    if r1.2 = 1 then
    (law4_known).bind fun r6 =>
    some r6 else
    some false else
    some false else
    some false)
noncomputable def law4_LedgerCaps_l0 : Nat → Int → Int → Int → (List Int) → Int → Option Bool
  | 0, _, _, _, _, _ => none
  | k + 1, v_at, c, k_, caps, i => if i < k_ then
    if ¬ (32 : Int) = 0 then
    if 0 ≤ i then
    if i < (caps.length : Int) then
    law4_LedgerCaps_l0 k v_at c k_ (caps.set i.toNat (w64 (1 + (i.tmod 32)))) (w64 (i + 1)) else none else none else none else
    if 0 < k_ then
    if ¬ k_ = 0 then
    if 0 ≤ ((w64 v_at).tmod k_) then
    if ((w64 v_at).tmod k_) < (caps.length : Int) then
    if k_ ≤ 24 then
    if 1 ≤ c then
    law4_LedgerCaps_c0 k (caps.set ((w64 v_at).tmod k_).toNat c) (decide (c ≤ 32)) else
    law4_LedgerCaps_c0 k (caps.set ((w64 v_at).tmod k_).toNat c) false else
    law4_LedgerCaps_c0 k (caps.set ((w64 v_at).tmod k_).toNat c) false else none else none else none else
    law4_LedgerCaps_c0 k caps (decide (k_ ≤ 24))
noncomputable def law4_LedgerCaps_f (k : Nat) (n : Int) (v_at : Int) (c : Int) : Option Bool := if ¬ (40 : Int) = 0 then
    if 0 ≤ ((w64 n).tmod 40) then
    if ((w64 n).tmod 40) ≤ ((w64 n).tmod 40) then
    if ((w64 n).tmod 40) * 8 ≤ 140737488355328 then
    law4_LedgerCaps_l0 k v_at c ((w64 n).tmod 40) (List.replicate ((w64 n).tmod 40).toNat 0) 0 else none else none else none else none
noncomputable def law4_LedgerCaps (n : Int) (v_at : Int) (c : Int) : Option Bool := lim (fun k (x : Int × Int × Int) => law4_LedgerCaps_f k x.1 x.2.1 x.2.2) (n, v_at, c)
noncomputable abbrev law4_LedgerCaps_T : Tab S := ⟨[⟨32, [.val (.data (.sl (.int .i64)))], [.opt [.data (.sl (.int .i64)), .marr (.int .i64)], .val (.data (.int .i64))], fun x => ledger_New x⟩, ⟨31, [], [.val (.data .bool)], fun x => law4_known⟩], [], false⟩
noncomputable def law4_LedgerCaps_L (k : Nat) : Nat → List (Lab S Bool)
  | 0 => [⟨[1, 2, 7, 8, 9], [.val (.data (.int .u8)), .val (.data (.int .i64)), .val (.data (.int .i64)), .val (.marr (.int .i64)), .val (.data (.int .i64))], fun x => law4_LedgerCaps_l0 k x.1 x.2.1 x.2.2.1 x.2.2.2.1 x.2.2.2.2⟩]
  | 1 => [⟨[8, 10], [.val (.marr (.int .i64)), .val (.data .bool)], fun x => law4_LedgerCaps_c0 k x.1 x.2⟩]
  | _ + 2 => []
theorem law4_LedgerCaps_eq (k : Nat) (n : Int) (v_at : Int) (c : Int) : law4_LedgerCaps_f k n v_at c = exec S (law4_LedgerCaps_T) byt (labs S (law4_LedgerCaps_T) (law4_LedgerCaps_L k)) (ac [9] Try.f8) (frame0 S [.val (.data (.int .u8)), .val (.data (.int .u8)), .val (.data (.int .i64))] (n, v_at, c)) (retK S (law4_LedgerCaps_T) Try.f8 [.val (.data (.int .u8)), .val (.data (.int .u8)), .val (.data (.int .i64))] [.val (.data .bool)]) := by kernel_rfl
theorem law4_LedgerCaps_vc (k : Nat) : VC S (law4_LedgerCaps_T) byt (law4_LedgerCaps_L k) (law4_LedgerCaps_L (k + 1)) (ac [9] Try.f8) (retK S (law4_LedgerCaps_T) Try.f8 [.val (.data (.int .u8)), .val (.data (.int .u8)), .val (.data (.int .i64))] [.val (.data .bool)]) = [∀ x : Int × Int × Int × List Int × Int, law4_LedgerCaps_l0 (k + 1) x.1 x.2.1 x.2.2.1 x.2.2.2.1 x.2.2.2.2 = law4_LedgerCaps_l0 (k + 1) x.1 x.2.1 x.2.2.1 x.2.2.2.1 x.2.2.2.2, ∀ x : List Int × Bool, law4_LedgerCaps_c0 (k + 1) x.1 x.2 = law4_LedgerCaps_c0 (k + 1) x.1 x.2] := by kernel_rfl
theorem law4_LedgerCaps_sndk (k : Nat) : Snd Try.prog S ⟨8, [.val (.data (.int .u8)), .val (.data (.int .u8)), .val (.data (.int .i64))], [.val (.data .bool)], fun x => law4_LedgerCaps_f k x.1 x.2.1 x.2.2⟩ :=
  fn_ok progOk (T := (law4_LedgerCaps_T)) (all_cons ledger_New_snd (all_cons law4_known_snd (all_nil))) (all_nil) mixed Try.func8 rfl (by kernel_rfl) (ac_code [9] Try.f8 rfl) (L := law4_LedgerCaps_L)
    (fun n l h x => by match n, h with
        | 0, h => 
          rcases List.mem_cons.1 h with rfl | h
          · rfl
          cases h
        | 1, h => 
          rcases List.mem_cons.1 h with rfl | h
          · rfl
          cases h
        | _ + 2, h => cases h) (fun k n l h => by match n, h with
        | 0, h => 
          rcases List.mem_cons.1 h with rfl | h
          · rfl
          cases h
        | 1, h => 
          rcases List.mem_cons.1 h with rfl | h
          · rfl
          cases h
        | _ + 2, h => cases h)
    (fun k => All.mem (law4_LedgerCaps_vc k) ⟨fun _ => rfl, ⟨fun _ => rfl, trivial⟩⟩) (fun x r h => ⟨k, (law4_LedgerCaps_eq k x.1 x.2.1 x.2.2).symm.trans h⟩) (by kernel_rfl) (by kernel_rfl) (Nat.le_of_ble_eq_true (by kernel_rfl))
theorem law4_LedgerCaps_snd : Snd Try.prog S ⟨8, [.val (.data (.int .u8)), .val (.data (.int .u8)), .val (.data (.int .i64))], [.val (.data .bool)], fun x => law4_LedgerCaps x.1 x.2.1 x.2.2⟩ := Snd.lim law4_LedgerCaps_sndk
/-! ### 37 cotillion/cotillionref4.New -/
noncomputable def ref4_New_l0 : Nat → (List Int) → Int → Option ((Option (List Int × List Int)) × Int)
  | 0, _, _ => none
  | k + 1, caps, i => if i < (caps.length : Int) then
    if 0 ≤ i then
    if i < (caps.length : Int) then
    if (caps.getD i.toNat 0) < 1 then
    some (none, 1) else
    if 0 ≤ i then
    if i < (caps.length : Int) then
    if 32 < (caps.getD i.toNat 0) then
    some (none, 1) else
    ref4_New_l0 k caps (w64 (i + 1)) else none else none else none else none else
    if (([] : List Int).length + caps.length) * 8 ≤ 140737488355328 then
    if 0 ≤ (caps.length : Int) then
    if (caps.length : Int) ≤ (caps.length : Int) then
    if (caps.length : Int) * 8 ≤ 140737488355328 then
    some (some (([] : List Int) ++ caps, List.replicate (caps.length : Int).toNat 0), 0) else none else none else none else none
noncomputable def ref4_New_f (k : Nat) (caps : List Int) : Option ((Option (List Int × List Int)) × Int) := if 24 < (caps.length : Int) then some (none, 1) else ref4_New_l0 k caps 0
noncomputable def ref4_New (caps : List Int) : Option ((Option (List Int × List Int)) × Int) := lim (fun k (x : List Int) => ref4_New_f k x) caps
noncomputable abbrev ref4_New_T : Tab S := ⟨[], [], false⟩
noncomputable def ref4_New_L (k : Nat) : Nat → List (Lab S ((Option (List Int × List Int)) × Int))
  | 0 => [⟨[0, 4], [.val (.data (.sl (.int .i64))), .val (.data (.int .i64))], fun x => ref4_New_l0 k x.1 x.2⟩]
  | _ + 1 => []
theorem ref4_New_eq (k : Nat) (caps : List Int) : ref4_New_f k caps = exec S (ref4_New_T) byt (labs S (ref4_New_T) (ref4_New_L k)) (ac [] Try.f37) (frame0 S [.val (.data (.sl (.int .i64)))] caps) (retK S (ref4_New_T) Try.f37 [.val (.data (.sl (.int .i64)))] [.opt [.data (.sl (.int .i64)), .marr (.int .i64)], .val (.data (.int .i64))]) := by kernel_rfl
theorem ref4_New_vc (k : Nat) : VC S (ref4_New_T) byt (ref4_New_L k) (ref4_New_L (k + 1)) (ac [] Try.f37) (retK S (ref4_New_T) Try.f37 [.val (.data (.sl (.int .i64)))] [.opt [.data (.sl (.int .i64)), .marr (.int .i64)], .val (.data (.int .i64))]) = [∀ x : List Int × Int, ref4_New_l0 (k + 1) x.1 x.2 = ref4_New_l0 (k + 1) x.1 x.2] := by kernel_rfl
theorem ref4_New_sndk (k : Nat) : Snd Try.prog S ⟨37, [.val (.data (.sl (.int .i64)))], [.opt [.data (.sl (.int .i64)), .marr (.int .i64)], .val (.data (.int .i64))], fun x => ref4_New_f k x⟩ :=
  fn_ok progOk (T := (ref4_New_T)) (all_nil) (all_nil) mixed Try.func37 rfl (by kernel_rfl) (ac_code [] Try.f37 rfl) (L := ref4_New_L)
    (fun n l h x => by match n, h with
        | 0, h => 
          rcases List.mem_cons.1 h with rfl | h
          · rfl
          cases h
        | _ + 1, h => cases h) (fun k n l h => by match n, h with
        | 0, h => 
          rcases List.mem_cons.1 h with rfl | h
          · rfl
          cases h
        | _ + 1, h => cases h)
    (fun k => All.mem (ref4_New_vc k) ⟨fun _ => rfl, trivial⟩) (fun x r h => ⟨k, (ref4_New_eq k x).symm.trans h⟩) (by kernel_rfl) (by kernel_rfl) (Nat.le_of_ble_eq_true (by kernel_rfl))
theorem ref4_New_snd : Snd Try.prog S ⟨37, [.val (.data (.sl (.int .i64)))], [.opt [.data (.sl (.int .i64)), .marr (.int .i64)], .val (.data (.int .i64))], fun x => ref4_New x⟩ := Snd.lim ref4_New_sndk
/-! ### 52 (*cotillion/ledger.Ledger).is -/
noncomputable def ledger_Ledger_is_1  (u_ : Unit) (c : Int) : Option Bool := some false
noncomputable abbrev ledger_Ledger_is_1_T : Tab S := ⟨[], [], false⟩
noncomputable def ledger_Ledger_is_1_L (k : Nat) : Nat → List (Lab S Bool)
  | _ => []
theorem ledger_Ledger_is_1_eq (k : Nat) (u_ : Unit) (c : Int) : ledger_Ledger_is_1 u_ c = exec S (ledger_Ledger_is_1_T) byt (labs S (ledger_Ledger_is_1_T) (ledger_Ledger_is_1_L k)) (ac [] Try.f52) (frame0 S [.nil, .val (.data (.int .i64))] (u_, c)) (retK S (ledger_Ledger_is_1_T) Try.f52 [.nil, .val (.data (.int .i64))] [.val (.data .bool)]) := by kernel_rfl
theorem ledger_Ledger_is_1_vc (k : Nat) : VC S (ledger_Ledger_is_1_T) byt (ledger_Ledger_is_1_L k) (ledger_Ledger_is_1_L (k + 1)) (ac [] Try.f52) (retK S (ledger_Ledger_is_1_T) Try.f52 [.nil, .val (.data (.int .i64))] [.val (.data .bool)]) = [] := by kernel_rfl
theorem ledger_Ledger_is_1_snd : Snd Try.prog S ⟨52, [.nil, .val (.data (.int .i64))], [.val (.data .bool)], fun x => ledger_Ledger_is_1 x.1 x.2⟩ :=
  fn_ok progOk (T := (ledger_Ledger_is_1_T)) (all_nil) (all_nil) mixed Try.func52 rfl (by kernel_rfl) (ac_code [] Try.f52 rfl) (L := ledger_Ledger_is_1_L)
    (fun n l h x => by cases h) (fun k n l h => by cases h)
    (fun k => All.mem (ledger_Ledger_is_1_vc k) trivial) (fun x r h => ⟨0, (ledger_Ledger_is_1_eq 0 x.1 x.2).symm.trans h⟩) (by kernel_rfl) (by kernel_rfl) (Nat.le_of_ble_eq_true (by kernel_rfl))
/-! ### 34 (*cotillion/ledger.Ledger).Take -/
noncomputable def ledger_Ledger_Take_1  (u_ : Unit) (c : Int) : Option Int := (ledger_Ledger_is_1 () c).bind fun r1 => bif !r1 then some 7 else none
noncomputable abbrev ledger_Ledger_Take_1_T : Tab S := ⟨[⟨52, [.nil, .val (.data (.int .i64))], [.val (.data .bool)], fun x => ledger_Ledger_is_1 x.1 x.2⟩], [], false⟩
noncomputable def ledger_Ledger_Take_1_L (k : Nat) : Nat → List (Lab S Int)
  | _ => []
theorem ledger_Ledger_Take_1_eq (k : Nat) (u_ : Unit) (c : Int) : ledger_Ledger_Take_1 u_ c = exec S (ledger_Ledger_Take_1_T) byt (labs S (ledger_Ledger_Take_1_T) (ledger_Ledger_Take_1_L k)) (ac [] Try.f34) (frame0 S [.nil, .val (.data (.int .i64))] (u_, c)) (retK S (ledger_Ledger_Take_1_T) Try.f34 [.nil, .val (.data (.int .i64))] [.val (.data (.int .i64))]) := by kernel_rfl
theorem ledger_Ledger_Take_1_vc (k : Nat) : VC S (ledger_Ledger_Take_1_T) byt (ledger_Ledger_Take_1_L k) (ledger_Ledger_Take_1_L (k + 1)) (ac [] Try.f34) (retK S (ledger_Ledger_Take_1_T) Try.f34 [.nil, .val (.data (.int .i64))] [.val (.data (.int .i64))]) = [] := by kernel_rfl
theorem ledger_Ledger_Take_1_snd : Snd Try.prog S ⟨34, [.nil, .val (.data (.int .i64))], [.val (.data (.int .i64))], fun x => ledger_Ledger_Take_1 x.1 x.2⟩ :=
  fn_ok progOk (T := (ledger_Ledger_Take_1_T)) (all_cons ledger_Ledger_is_1_snd (all_nil)) (all_nil) mixed Try.func34 rfl (by kernel_rfl) (ac_code [] Try.f34 rfl) (L := ledger_Ledger_Take_1_L)
    (fun n l h x => by cases h) (fun k n l h => by cases h)
    (fun k => All.mem (ledger_Ledger_Take_1_vc k) trivial) (fun x r h => ⟨0, (ledger_Ledger_Take_1_eq 0 x.1 x.2).symm.trans h⟩) (by kernel_rfl) (by kernel_rfl) (Nat.le_of_ble_eq_true (by kernel_rfl))
/-! ### 53 (*cotillion/cotillionref4.Ledger).in -/
noncomputable def ref4_Ledger_in  (l : List Int × List Int) (c : Int) : Option (Bool × (List Int × List Int)) := if 0 ≤ c then
    some (decide (c < (l.1.length : Int)), (l.1, l.2)) else
    some (false, (l.1, l.2))
noncomputable abbrev ref4_Ledger_in_T : Tab S := ⟨[], [], false⟩
noncomputable def ref4_Ledger_in_L (k : Nat) : Nat → List (Lab S (Bool × (List Int × List Int)))
  | _ => []
theorem ref4_Ledger_in_eq (k : Nat) (l : List Int × List Int) (c : Int) : ref4_Ledger_in l c = exec S (ref4_Ledger_in_T) byt (labs S (ref4_Ledger_in_T) (ref4_Ledger_in_L k)) (ac [] Try.f53) (frame0 S [.obj [.data (.sl (.int .i64)), .marr (.int .i64)], .val (.data (.int .i64))] (l, c)) (retK S (ref4_Ledger_in_T) Try.f53 [.obj [.data (.sl (.int .i64)), .marr (.int .i64)], .val (.data (.int .i64))] [.val (.data .bool)]) := by kernel_rfl
theorem ref4_Ledger_in_vc (k : Nat) : VC S (ref4_Ledger_in_T) byt (ref4_Ledger_in_L k) (ref4_Ledger_in_L (k + 1)) (ac [] Try.f53) (retK S (ref4_Ledger_in_T) Try.f53 [.obj [.data (.sl (.int .i64)), .marr (.int .i64)], .val (.data (.int .i64))] [.val (.data .bool)]) = [] := by kernel_rfl
theorem ref4_Ledger_in_snd : Snd Try.prog S ⟨53, [.obj [.data (.sl (.int .i64)), .marr (.int .i64)], .val (.data (.int .i64))], [.val (.data .bool)], fun x => ref4_Ledger_in x.1 x.2⟩ :=
  fn_ok progOk (T := (ref4_Ledger_in_T)) (all_nil) (all_nil) mixed Try.func53 rfl (by kernel_rfl) (ac_code [] Try.f53 rfl) (L := ref4_Ledger_in_L)
    (fun n l h x => by cases h) (fun k n l h => by cases h)
    (fun k => All.mem (ref4_Ledger_in_vc k) trivial) (fun x r h => ⟨0, (ref4_Ledger_in_eq 0 x.1 x.2).symm.trans h⟩) (by kernel_rfl) (by kernel_rfl) (Nat.le_of_ble_eq_true (by kernel_rfl))
/-! ### 38 (*cotillion/cotillionref4.Ledger).Take -/
noncomputable def ref4_Ledger_Take  (l : List Int × List Int) (c : Int) : Option (Int × (List Int × List Int)) := (ref4_Ledger_in (l.1, l.2) c).bind fun r1 =>
    bif !r1.1 then
    some (7, (r1.2.1, r1.2.2)) else
    if 0 ≤ c then
    if c < (r1.2.2.length : Int) then
    if 0 ≤ c then
    if c < (r1.2.1.length : Int) then
    if (r1.2.2.getD c.toNat 0) = (r1.2.1.getD c.toNat 0) then
    some (6, (r1.2.1, r1.2.2)) else
    if 0 ≤ c then
    if c < (r1.2.2.length : Int) then
    if 0 ≤ c then
    if c < (r1.2.2.length : Int) then
    some (0, (r1.2.1, r1.2.2.set c.toNat (w64 ((r1.2.2.getD c.toNat 0) + 1)))) else none else none else none else none else none else none else none else none
noncomputable abbrev ref4_Ledger_Take_T : Tab S := ⟨[⟨53, [.obj [.data (.sl (.int .i64)), .marr (.int .i64)], .val (.data (.int .i64))], [.val (.data .bool)], fun x => ref4_Ledger_in x.1 x.2⟩], [], false⟩
noncomputable def ref4_Ledger_Take_L (k : Nat) : Nat → List (Lab S (Int × (List Int × List Int)))
  | _ => []
theorem ref4_Ledger_Take_eq (k : Nat) (l : List Int × List Int) (c : Int) : ref4_Ledger_Take l c = exec S (ref4_Ledger_Take_T) byt (labs S (ref4_Ledger_Take_T) (ref4_Ledger_Take_L k)) (ac [] Try.f38) (frame0 S [.obj [.data (.sl (.int .i64)), .marr (.int .i64)], .val (.data (.int .i64))] (l, c)) (retK S (ref4_Ledger_Take_T) Try.f38 [.obj [.data (.sl (.int .i64)), .marr (.int .i64)], .val (.data (.int .i64))] [.val (.data (.int .i64))]) := by kernel_rfl
theorem ref4_Ledger_Take_vc (k : Nat) : VC S (ref4_Ledger_Take_T) byt (ref4_Ledger_Take_L k) (ref4_Ledger_Take_L (k + 1)) (ac [] Try.f38) (retK S (ref4_Ledger_Take_T) Try.f38 [.obj [.data (.sl (.int .i64)), .marr (.int .i64)], .val (.data (.int .i64))] [.val (.data (.int .i64))]) = [] := by kernel_rfl
theorem ref4_Ledger_Take_snd : Snd Try.prog S ⟨38, [.obj [.data (.sl (.int .i64)), .marr (.int .i64)], .val (.data (.int .i64))], [.val (.data (.int .i64))], fun x => ref4_Ledger_Take x.1 x.2⟩ :=
  fn_ok progOk (T := (ref4_Ledger_Take_T)) (all_cons ref4_Ledger_in_snd (all_nil)) (all_nil) mixed Try.func38 rfl (by kernel_rfl) (ac_code [] Try.f38 rfl) (L := ref4_Ledger_Take_L)
    (fun n l h x => by cases h) (fun k n l h => by cases h)
    (fun k => All.mem (ref4_Ledger_Take_vc k) trivial) (fun x r h => ⟨0, (ref4_Ledger_Take_eq 0 x.1 x.2).symm.trans h⟩) (by kernel_rfl) (by kernel_rfl) (Nat.le_of_ble_eq_true (by kernel_rfl))
/-! ### 36 (*cotillion/ledger.Ledger).Held -/
noncomputable def ledger_Ledger_Held_1  (u_ : Unit) (c : Int) : Option Int := (ledger_Ledger_is_1 () c).bind fun r1 => bif !r1 then some 0 else none
noncomputable abbrev ledger_Ledger_Held_1_T : Tab S := ⟨[⟨52, [.nil, .val (.data (.int .i64))], [.val (.data .bool)], fun x => ledger_Ledger_is_1 x.1 x.2⟩], [], false⟩
noncomputable def ledger_Ledger_Held_1_L (k : Nat) : Nat → List (Lab S Int)
  | _ => []
theorem ledger_Ledger_Held_1_eq (k : Nat) (u_ : Unit) (c : Int) : ledger_Ledger_Held_1 u_ c = exec S (ledger_Ledger_Held_1_T) byt (labs S (ledger_Ledger_Held_1_T) (ledger_Ledger_Held_1_L k)) (ac [] Try.f36) (frame0 S [.nil, .val (.data (.int .i64))] (u_, c)) (retK S (ledger_Ledger_Held_1_T) Try.f36 [.nil, .val (.data (.int .i64))] [.val (.data (.int .i64))]) := by kernel_rfl
theorem ledger_Ledger_Held_1_vc (k : Nat) : VC S (ledger_Ledger_Held_1_T) byt (ledger_Ledger_Held_1_L k) (ledger_Ledger_Held_1_L (k + 1)) (ac [] Try.f36) (retK S (ledger_Ledger_Held_1_T) Try.f36 [.nil, .val (.data (.int .i64))] [.val (.data (.int .i64))]) = [] := by kernel_rfl
theorem ledger_Ledger_Held_1_snd : Snd Try.prog S ⟨36, [.nil, .val (.data (.int .i64))], [.val (.data (.int .i64))], fun x => ledger_Ledger_Held_1 x.1 x.2⟩ :=
  fn_ok progOk (T := (ledger_Ledger_Held_1_T)) (all_cons ledger_Ledger_is_1_snd (all_nil)) (all_nil) mixed Try.func36 rfl (by kernel_rfl) (ac_code [] Try.f36 rfl) (L := ledger_Ledger_Held_1_L)
    (fun n l h x => by cases h) (fun k n l h => by cases h)
    (fun k => All.mem (ledger_Ledger_Held_1_vc k) trivial) (fun x r h => ⟨0, (ledger_Ledger_Held_1_eq 0 x.1 x.2).symm.trans h⟩) (by kernel_rfl) (by kernel_rfl) (Nat.le_of_ble_eq_true (by kernel_rfl))
/-! ### 33 (*cotillion/ledger.Ledger).Give -/
noncomputable def ledger_Ledger_Give_1  (u_ : Unit) (c : Int) : Option Int := (ledger_Ledger_is_1 () c).bind fun r1 =>
    bif !r1 then
    some 7 else
    (ledger_Ledger_Held_1 () c).bind fun r2 =>
    if r2 = 0 then
    some 9 else none
noncomputable abbrev ledger_Ledger_Give_1_T : Tab S := ⟨[⟨52, [.nil, .val (.data (.int .i64))], [.val (.data .bool)], fun x => ledger_Ledger_is_1 x.1 x.2⟩, ⟨36, [.nil, .val (.data (.int .i64))], [.val (.data (.int .i64))], fun x => ledger_Ledger_Held_1 x.1 x.2⟩], [], false⟩
noncomputable def ledger_Ledger_Give_1_L (k : Nat) : Nat → List (Lab S Int)
  | _ => []
theorem ledger_Ledger_Give_1_eq (k : Nat) (u_ : Unit) (c : Int) : ledger_Ledger_Give_1 u_ c = exec S (ledger_Ledger_Give_1_T) byt (labs S (ledger_Ledger_Give_1_T) (ledger_Ledger_Give_1_L k)) (ac [] Try.f33) (frame0 S [.nil, .val (.data (.int .i64))] (u_, c)) (retK S (ledger_Ledger_Give_1_T) Try.f33 [.nil, .val (.data (.int .i64))] [.val (.data (.int .i64))]) := by kernel_rfl
theorem ledger_Ledger_Give_1_vc (k : Nat) : VC S (ledger_Ledger_Give_1_T) byt (ledger_Ledger_Give_1_L k) (ledger_Ledger_Give_1_L (k + 1)) (ac [] Try.f33) (retK S (ledger_Ledger_Give_1_T) Try.f33 [.nil, .val (.data (.int .i64))] [.val (.data (.int .i64))]) = [] := by kernel_rfl
theorem ledger_Ledger_Give_1_snd : Snd Try.prog S ⟨33, [.nil, .val (.data (.int .i64))], [.val (.data (.int .i64))], fun x => ledger_Ledger_Give_1 x.1 x.2⟩ :=
  fn_ok progOk (T := (ledger_Ledger_Give_1_T)) (all_cons ledger_Ledger_is_1_snd (all_cons ledger_Ledger_Held_1_snd (all_nil))) (all_nil) mixed Try.func33 rfl (by kernel_rfl) (ac_code [] Try.f33 rfl) (L := ledger_Ledger_Give_1_L)
    (fun n l h x => by cases h) (fun k n l h => by cases h)
    (fun k => All.mem (ledger_Ledger_Give_1_vc k) trivial) (fun x r h => ⟨0, (ledger_Ledger_Give_1_eq 0 x.1 x.2).symm.trans h⟩) (by kernel_rfl) (by kernel_rfl) (Nat.le_of_ble_eq_true (by kernel_rfl))
/-! ### 39 (*cotillion/cotillionref4.Ledger).Give -/
noncomputable def ref4_Ledger_Give  (l : List Int × List Int) (c : Int) : Option (Int × (List Int × List Int)) := (ref4_Ledger_in (l.1, l.2) c).bind fun r1 =>
    bif !r1.1 then
    some (7, (r1.2.1, r1.2.2)) else
    if 0 ≤ c then
    if c < (r1.2.2.length : Int) then
    if (r1.2.2.getD c.toNat 0) = 0 then
    some (9, (r1.2.1, r1.2.2)) else
    if 0 ≤ c then
    if c < (r1.2.2.length : Int) then
    if 0 ≤ c then
    if c < (r1.2.2.length : Int) then
    some (0, (r1.2.1, r1.2.2.set c.toNat (w64 ((r1.2.2.getD c.toNat 0) - 1)))) else none else none else none else none else none else none
noncomputable abbrev ref4_Ledger_Give_T : Tab S := ⟨[⟨53, [.obj [.data (.sl (.int .i64)), .marr (.int .i64)], .val (.data (.int .i64))], [.val (.data .bool)], fun x => ref4_Ledger_in x.1 x.2⟩], [], false⟩
noncomputable def ref4_Ledger_Give_L (k : Nat) : Nat → List (Lab S (Int × (List Int × List Int)))
  | _ => []
theorem ref4_Ledger_Give_eq (k : Nat) (l : List Int × List Int) (c : Int) : ref4_Ledger_Give l c = exec S (ref4_Ledger_Give_T) byt (labs S (ref4_Ledger_Give_T) (ref4_Ledger_Give_L k)) (ac [] Try.f39) (frame0 S [.obj [.data (.sl (.int .i64)), .marr (.int .i64)], .val (.data (.int .i64))] (l, c)) (retK S (ref4_Ledger_Give_T) Try.f39 [.obj [.data (.sl (.int .i64)), .marr (.int .i64)], .val (.data (.int .i64))] [.val (.data (.int .i64))]) := by kernel_rfl
theorem ref4_Ledger_Give_vc (k : Nat) : VC S (ref4_Ledger_Give_T) byt (ref4_Ledger_Give_L k) (ref4_Ledger_Give_L (k + 1)) (ac [] Try.f39) (retK S (ref4_Ledger_Give_T) Try.f39 [.obj [.data (.sl (.int .i64)), .marr (.int .i64)], .val (.data (.int .i64))] [.val (.data (.int .i64))]) = [] := by kernel_rfl
theorem ref4_Ledger_Give_snd : Snd Try.prog S ⟨39, [.obj [.data (.sl (.int .i64)), .marr (.int .i64)], .val (.data (.int .i64))], [.val (.data (.int .i64))], fun x => ref4_Ledger_Give x.1 x.2⟩ :=
  fn_ok progOk (T := (ref4_Ledger_Give_T)) (all_cons ref4_Ledger_in_snd (all_nil)) (all_nil) mixed Try.func39 rfl (by kernel_rfl) (ac_code [] Try.f39 rfl) (L := ref4_Ledger_Give_L)
    (fun n l h x => by cases h) (fun k n l h => by cases h)
    (fun k => All.mem (ref4_Ledger_Give_vc k) trivial) (fun x r h => ⟨0, (ref4_Ledger_Give_eq 0 x.1 x.2).symm.trans h⟩) (by kernel_rfl) (by kernel_rfl) (Nat.le_of_ble_eq_true (by kernel_rfl))
/-! ### 40 (*cotillion/ledger.Ledger).Reset -/
noncomputable def ledger_Ledger_Reset  (u_ : Unit) (c : Int) : Option (Int × Int) := (ledger_Ledger_is_1 () c).bind fun r1 =>
    bif !r1 then
    some (0, 7) else
    (ledger_Ledger_Held_1 () c).bind fun r2 => none
noncomputable abbrev ledger_Ledger_Reset_T : Tab S := ⟨[⟨52, [.nil, .val (.data (.int .i64))], [.val (.data .bool)], fun x => ledger_Ledger_is_1 x.1 x.2⟩, ⟨36, [.nil, .val (.data (.int .i64))], [.val (.data (.int .i64))], fun x => ledger_Ledger_Held_1 x.1 x.2⟩], [], false⟩
noncomputable def ledger_Ledger_Reset_L (k : Nat) : Nat → List (Lab S (Int × Int))
  | _ => []
theorem ledger_Ledger_Reset_eq (k : Nat) (u_ : Unit) (c : Int) : ledger_Ledger_Reset u_ c = exec S (ledger_Ledger_Reset_T) byt (labs S (ledger_Ledger_Reset_T) (ledger_Ledger_Reset_L k)) (ac [] Try.f40) (frame0 S [.nil, .val (.data (.int .i64))] (u_, c)) (retK S (ledger_Ledger_Reset_T) Try.f40 [.nil, .val (.data (.int .i64))] [.val (.data (.int .i64)), .val (.data (.int .i64))]) := by kernel_rfl
theorem ledger_Ledger_Reset_vc (k : Nat) : VC S (ledger_Ledger_Reset_T) byt (ledger_Ledger_Reset_L k) (ledger_Ledger_Reset_L (k + 1)) (ac [] Try.f40) (retK S (ledger_Ledger_Reset_T) Try.f40 [.nil, .val (.data (.int .i64))] [.val (.data (.int .i64)), .val (.data (.int .i64))]) = [] := by kernel_rfl
theorem ledger_Ledger_Reset_snd : Snd Try.prog S ⟨40, [.nil, .val (.data (.int .i64))], [.val (.data (.int .i64)), .val (.data (.int .i64))], fun x => ledger_Ledger_Reset x.1 x.2⟩ :=
  fn_ok progOk (T := (ledger_Ledger_Reset_T)) (all_cons ledger_Ledger_is_1_snd (all_cons ledger_Ledger_Held_1_snd (all_nil))) (all_nil) mixed Try.func40 rfl (by kernel_rfl) (ac_code [] Try.f40 rfl) (L := ledger_Ledger_Reset_L)
    (fun n l h x => by cases h) (fun k n l h => by cases h)
    (fun k => All.mem (ledger_Ledger_Reset_vc k) trivial) (fun x r h => ⟨0, (ledger_Ledger_Reset_eq 0 x.1 x.2).symm.trans h⟩) (by kernel_rfl) (by kernel_rfl) (Nat.le_of_ble_eq_true (by kernel_rfl))
/-! ### 41 (*cotillion/cotillionref4.Ledger).Reset -/
noncomputable def ref4_Ledger_Reset  (l : List Int × List Int) (c : Int) : Option (Int × Int × (List Int × List Int)) := (ref4_Ledger_in (l.1, l.2) c).bind fun r1 =>
    bif !r1.1 then
    some (0, 7, (r1.2.1, r1.2.2)) else
    if 0 ≤ c then
    if c < (r1.2.2.length : Int) then
    if 0 ≤ c then
    if c < (r1.2.2.length : Int) then
    some (r1.2.2.getD c.toNat 0, 0, (r1.2.1, r1.2.2.set c.toNat 0)) else none else none else none else none
noncomputable abbrev ref4_Ledger_Reset_T : Tab S := ⟨[⟨53, [.obj [.data (.sl (.int .i64)), .marr (.int .i64)], .val (.data (.int .i64))], [.val (.data .bool)], fun x => ref4_Ledger_in x.1 x.2⟩], [], false⟩
noncomputable def ref4_Ledger_Reset_L (k : Nat) : Nat → List (Lab S (Int × Int × (List Int × List Int)))
  | _ => []
theorem ref4_Ledger_Reset_eq (k : Nat) (l : List Int × List Int) (c : Int) : ref4_Ledger_Reset l c = exec S (ref4_Ledger_Reset_T) byt (labs S (ref4_Ledger_Reset_T) (ref4_Ledger_Reset_L k)) (ac [] Try.f41) (frame0 S [.obj [.data (.sl (.int .i64)), .marr (.int .i64)], .val (.data (.int .i64))] (l, c)) (retK S (ref4_Ledger_Reset_T) Try.f41 [.obj [.data (.sl (.int .i64)), .marr (.int .i64)], .val (.data (.int .i64))] [.val (.data (.int .i64)), .val (.data (.int .i64))]) := by kernel_rfl
theorem ref4_Ledger_Reset_vc (k : Nat) : VC S (ref4_Ledger_Reset_T) byt (ref4_Ledger_Reset_L k) (ref4_Ledger_Reset_L (k + 1)) (ac [] Try.f41) (retK S (ref4_Ledger_Reset_T) Try.f41 [.obj [.data (.sl (.int .i64)), .marr (.int .i64)], .val (.data (.int .i64))] [.val (.data (.int .i64)), .val (.data (.int .i64))]) = [] := by kernel_rfl
theorem ref4_Ledger_Reset_snd : Snd Try.prog S ⟨41, [.obj [.data (.sl (.int .i64)), .marr (.int .i64)], .val (.data (.int .i64))], [.val (.data (.int .i64)), .val (.data (.int .i64))], fun x => ref4_Ledger_Reset x.1 x.2⟩ :=
  fn_ok progOk (T := (ref4_Ledger_Reset_T)) (all_cons ref4_Ledger_in_snd (all_nil)) (all_nil) mixed Try.func41 rfl (by kernel_rfl) (ac_code [] Try.f41 rfl) (L := ref4_Ledger_Reset_L)
    (fun n l h x => by cases h) (fun k n l h => by cases h)
    (fun k => All.mem (ref4_Ledger_Reset_vc k) trivial) (fun x r h => ⟨0, (ref4_Ledger_Reset_eq 0 x.1 x.2).symm.trans h⟩) (by kernel_rfl) (by kernel_rfl) (Nat.le_of_ble_eq_true (by kernel_rfl))
/-! ### 40 (*cotillion/ledger.Ledger).Reset -/
noncomputable def ledger_Ledger_Reset_1  (l : List Int × List Int) (c : Int) : Option (Int × Int × (List Int × List Int)) := (ledger_Ledger_is (l.1, l.2) c).bind fun r1 =>
    bif !r1.1 then
    some (0, 7, (r1.2.1, r1.2.2)) else
    (ledger_Ledger_Held (r1.2.1, r1.2.2) c).bind fun r2 =>
    if 0 ≤ c then
    if c < (r2.2.1.length : Int) then
    if 0 ≤ c then
    if c < (r2.2.2.length : Int) then
    some (r2.1, 0, (r2.2.1, r2.2.2.set c.toNat (r2.2.1.getD c.toNat 0))) else none else none else none else none
noncomputable abbrev ledger_Ledger_Reset_1_T : Tab S := ⟨[⟨52, [.obj [.data (.sl (.int .i64)), .marr (.int .i64)], .val (.data (.int .i64))], [.val (.data .bool)], fun x => ledger_Ledger_is x.1 x.2⟩, ⟨36, [.obj [.data (.sl (.int .i64)), .marr (.int .i64)], .val (.data (.int .i64))], [.val (.data (.int .i64))], fun x => ledger_Ledger_Held x.1 x.2⟩], [], false⟩
noncomputable def ledger_Ledger_Reset_1_L (k : Nat) : Nat → List (Lab S (Int × Int × (List Int × List Int)))
  | _ => []
theorem ledger_Ledger_Reset_1_eq (k : Nat) (l : List Int × List Int) (c : Int) : ledger_Ledger_Reset_1 l c = exec S (ledger_Ledger_Reset_1_T) byt (labs S (ledger_Ledger_Reset_1_T) (ledger_Ledger_Reset_1_L k)) (ac [] Try.f40) (frame0 S [.obj [.data (.sl (.int .i64)), .marr (.int .i64)], .val (.data (.int .i64))] (l, c)) (retK S (ledger_Ledger_Reset_1_T) Try.f40 [.obj [.data (.sl (.int .i64)), .marr (.int .i64)], .val (.data (.int .i64))] [.val (.data (.int .i64)), .val (.data (.int .i64))]) := by kernel_rfl
theorem ledger_Ledger_Reset_1_vc (k : Nat) : VC S (ledger_Ledger_Reset_1_T) byt (ledger_Ledger_Reset_1_L k) (ledger_Ledger_Reset_1_L (k + 1)) (ac [] Try.f40) (retK S (ledger_Ledger_Reset_1_T) Try.f40 [.obj [.data (.sl (.int .i64)), .marr (.int .i64)], .val (.data (.int .i64))] [.val (.data (.int .i64)), .val (.data (.int .i64))]) = [] := by kernel_rfl
theorem ledger_Ledger_Reset_1_snd : Snd Try.prog S ⟨40, [.obj [.data (.sl (.int .i64)), .marr (.int .i64)], .val (.data (.int .i64))], [.val (.data (.int .i64)), .val (.data (.int .i64))], fun x => ledger_Ledger_Reset_1 x.1 x.2⟩ :=
  fn_ok progOk (T := (ledger_Ledger_Reset_1_T)) (all_cons ledger_Ledger_is_snd (all_cons ledger_Ledger_Held_snd (all_nil))) (all_nil) mixed Try.func40 rfl (by kernel_rfl) (ac_code [] Try.f40 rfl) (L := ledger_Ledger_Reset_1_L)
    (fun n l h x => by cases h) (fun k n l h => by cases h)
    (fun k => All.mem (ledger_Ledger_Reset_1_vc k) trivial) (fun x r h => ⟨0, (ledger_Ledger_Reset_1_eq 0 x.1 x.2).symm.trans h⟩) (by kernel_rfl) (by kernel_rfl) (Nat.le_of_ble_eq_true (by kernel_rfl))
/-! ### 35 (*cotillion/ledger.Ledger).Free -/
noncomputable def ledger_Ledger_Free_1  (u_ : Unit) (c : Int) : Option Int := (ledger_Ledger_is_1 () c).bind fun r1 => bif !r1 then some 0 else none
noncomputable abbrev ledger_Ledger_Free_1_T : Tab S := ⟨[⟨52, [.nil, .val (.data (.int .i64))], [.val (.data .bool)], fun x => ledger_Ledger_is_1 x.1 x.2⟩], [], false⟩
noncomputable def ledger_Ledger_Free_1_L (k : Nat) : Nat → List (Lab S Int)
  | _ => []
theorem ledger_Ledger_Free_1_eq (k : Nat) (u_ : Unit) (c : Int) : ledger_Ledger_Free_1 u_ c = exec S (ledger_Ledger_Free_1_T) byt (labs S (ledger_Ledger_Free_1_T) (ledger_Ledger_Free_1_L k)) (ac [] Try.f35) (frame0 S [.nil, .val (.data (.int .i64))] (u_, c)) (retK S (ledger_Ledger_Free_1_T) Try.f35 [.nil, .val (.data (.int .i64))] [.val (.data (.int .i64))]) := by kernel_rfl
theorem ledger_Ledger_Free_1_vc (k : Nat) : VC S (ledger_Ledger_Free_1_T) byt (ledger_Ledger_Free_1_L k) (ledger_Ledger_Free_1_L (k + 1)) (ac [] Try.f35) (retK S (ledger_Ledger_Free_1_T) Try.f35 [.nil, .val (.data (.int .i64))] [.val (.data (.int .i64))]) = [] := by kernel_rfl
theorem ledger_Ledger_Free_1_snd : Snd Try.prog S ⟨35, [.nil, .val (.data (.int .i64))], [.val (.data (.int .i64))], fun x => ledger_Ledger_Free_1 x.1 x.2⟩ :=
  fn_ok progOk (T := (ledger_Ledger_Free_1_T)) (all_cons ledger_Ledger_is_1_snd (all_nil)) (all_nil) mixed Try.func35 rfl (by kernel_rfl) (ac_code [] Try.f35 rfl) (L := ledger_Ledger_Free_1_L)
    (fun n l h x => by cases h) (fun k n l h => by cases h)
    (fun k => All.mem (ledger_Ledger_Free_1_vc k) trivial) (fun x r h => ⟨0, (ledger_Ledger_Free_1_eq 0 x.1 x.2).symm.trans h⟩) (by kernel_rfl) (by kernel_rfl) (Nat.le_of_ble_eq_true (by kernel_rfl))
/-! ### 42 (*cotillion/cotillionref4.Ledger).Free -/
noncomputable def ref4_Ledger_Free  (l : List Int × List Int) (c : Int) : Option (Int × (List Int × List Int)) := (ref4_Ledger_in (l.1, l.2) c).bind fun r1 =>
    bif !r1.1 then
    some (0, (r1.2.1, r1.2.2)) else
    if 0 ≤ c then
    if c < (r1.2.1.length : Int) then
    if 0 ≤ c then
    if c < (r1.2.2.length : Int) then
    some (w64 ((r1.2.1.getD c.toNat 0) - (r1.2.2.getD c.toNat 0)), (r1.2.1, r1.2.2)) else none else none else none else none
noncomputable abbrev ref4_Ledger_Free_T : Tab S := ⟨[⟨53, [.obj [.data (.sl (.int .i64)), .marr (.int .i64)], .val (.data (.int .i64))], [.val (.data .bool)], fun x => ref4_Ledger_in x.1 x.2⟩], [], false⟩
noncomputable def ref4_Ledger_Free_L (k : Nat) : Nat → List (Lab S (Int × (List Int × List Int)))
  | _ => []
theorem ref4_Ledger_Free_eq (k : Nat) (l : List Int × List Int) (c : Int) : ref4_Ledger_Free l c = exec S (ref4_Ledger_Free_T) byt (labs S (ref4_Ledger_Free_T) (ref4_Ledger_Free_L k)) (ac [] Try.f42) (frame0 S [.obj [.data (.sl (.int .i64)), .marr (.int .i64)], .val (.data (.int .i64))] (l, c)) (retK S (ref4_Ledger_Free_T) Try.f42 [.obj [.data (.sl (.int .i64)), .marr (.int .i64)], .val (.data (.int .i64))] [.val (.data (.int .i64))]) := by kernel_rfl
theorem ref4_Ledger_Free_vc (k : Nat) : VC S (ref4_Ledger_Free_T) byt (ref4_Ledger_Free_L k) (ref4_Ledger_Free_L (k + 1)) (ac [] Try.f42) (retK S (ref4_Ledger_Free_T) Try.f42 [.obj [.data (.sl (.int .i64)), .marr (.int .i64)], .val (.data (.int .i64))] [.val (.data (.int .i64))]) = [] := by kernel_rfl
theorem ref4_Ledger_Free_snd : Snd Try.prog S ⟨42, [.obj [.data (.sl (.int .i64)), .marr (.int .i64)], .val (.data (.int .i64))], [.val (.data (.int .i64))], fun x => ref4_Ledger_Free x.1 x.2⟩ :=
  fn_ok progOk (T := (ref4_Ledger_Free_T)) (all_cons ref4_Ledger_in_snd (all_nil)) (all_nil) mixed Try.func42 rfl (by kernel_rfl) (ac_code [] Try.f42 rfl) (L := ref4_Ledger_Free_L)
    (fun n l h x => by cases h) (fun k n l h => by cases h)
    (fun k => All.mem (ref4_Ledger_Free_vc k) trivial) (fun x r h => ⟨0, (ref4_Ledger_Free_eq 0 x.1 x.2).symm.trans h⟩) (by kernel_rfl) (by kernel_rfl) (Nat.le_of_ble_eq_true (by kernel_rfl))
/-! ### 43 (*cotillion/cotillionref4.Ledger).Held -/
noncomputable def ref4_Ledger_Held  (l : List Int × List Int) (c : Int) : Option (Int × (List Int × List Int)) := (ref4_Ledger_in (l.1, l.2) c).bind fun r1 =>
    bif !r1.1 then
    some (0, (r1.2.1, r1.2.2)) else
    if 0 ≤ c then
    if c < (r1.2.2.length : Int) then
    some (r1.2.2.getD c.toNat 0, (r1.2.1, r1.2.2)) else none else none
noncomputable abbrev ref4_Ledger_Held_T : Tab S := ⟨[⟨53, [.obj [.data (.sl (.int .i64)), .marr (.int .i64)], .val (.data (.int .i64))], [.val (.data .bool)], fun x => ref4_Ledger_in x.1 x.2⟩], [], false⟩
noncomputable def ref4_Ledger_Held_L (k : Nat) : Nat → List (Lab S (Int × (List Int × List Int)))
  | _ => []
theorem ref4_Ledger_Held_eq (k : Nat) (l : List Int × List Int) (c : Int) : ref4_Ledger_Held l c = exec S (ref4_Ledger_Held_T) byt (labs S (ref4_Ledger_Held_T) (ref4_Ledger_Held_L k)) (ac [] Try.f43) (frame0 S [.obj [.data (.sl (.int .i64)), .marr (.int .i64)], .val (.data (.int .i64))] (l, c)) (retK S (ref4_Ledger_Held_T) Try.f43 [.obj [.data (.sl (.int .i64)), .marr (.int .i64)], .val (.data (.int .i64))] [.val (.data (.int .i64))]) := by kernel_rfl
theorem ref4_Ledger_Held_vc (k : Nat) : VC S (ref4_Ledger_Held_T) byt (ref4_Ledger_Held_L k) (ref4_Ledger_Held_L (k + 1)) (ac [] Try.f43) (retK S (ref4_Ledger_Held_T) Try.f43 [.obj [.data (.sl (.int .i64)), .marr (.int .i64)], .val (.data (.int .i64))] [.val (.data (.int .i64))]) = [] := by kernel_rfl
theorem ref4_Ledger_Held_snd : Snd Try.prog S ⟨43, [.obj [.data (.sl (.int .i64)), .marr (.int .i64)], .val (.data (.int .i64))], [.val (.data (.int .i64))], fun x => ref4_Ledger_Held x.1 x.2⟩ :=
  fn_ok progOk (T := (ref4_Ledger_Held_T)) (all_cons ref4_Ledger_in_snd (all_nil)) (all_nil) mixed Try.func43 rfl (by kernel_rfl) (ac_code [] Try.f43 rfl) (L := ref4_Ledger_Held_L)
    (fun n l h x => by cases h) (fun k n l h => by cases h)
    (fun k => All.mem (ref4_Ledger_Held_vc k) trivial) (fun x r h => ⟨0, (ref4_Ledger_Held_eq 0 x.1 x.2).symm.trans h⟩) (by kernel_rfl) (by kernel_rfl) (Nat.le_of_ble_eq_true (by kernel_rfl))
/-! ### 44 (*cotillion/ledger.Ledger).Has -/
noncomputable def ledger_Ledger_Has_1  (u_ : Unit) (needs : List Int) : Option Bool := some false
noncomputable abbrev ledger_Ledger_Has_1_T : Tab S := ⟨[], [], false⟩
noncomputable def ledger_Ledger_Has_1_L (k : Nat) : Nat → List (Lab S Bool)
  | _ => []
theorem ledger_Ledger_Has_1_eq (k : Nat) (u_ : Unit) (needs : List Int) : ledger_Ledger_Has_1 u_ needs = exec S (ledger_Ledger_Has_1_T) byt (labs S (ledger_Ledger_Has_1_T) (ledger_Ledger_Has_1_L k)) (ac [] Try.f44) (frame0 S [.nil, .val (.data (.sl (.int .i64)))] (u_, needs)) (retK S (ledger_Ledger_Has_1_T) Try.f44 [.nil, .val (.data (.sl (.int .i64)))] [.val (.data .bool)]) := by kernel_rfl
theorem ledger_Ledger_Has_1_vc (k : Nat) : VC S (ledger_Ledger_Has_1_T) byt (ledger_Ledger_Has_1_L k) (ledger_Ledger_Has_1_L (k + 1)) (ac [] Try.f44) (retK S (ledger_Ledger_Has_1_T) Try.f44 [.nil, .val (.data (.sl (.int .i64)))] [.val (.data .bool)]) = [] := by kernel_rfl
theorem ledger_Ledger_Has_1_snd : Snd Try.prog S ⟨44, [.nil, .val (.data (.sl (.int .i64)))], [.val (.data .bool)], fun x => ledger_Ledger_Has_1 x.1 x.2⟩ :=
  fn_ok progOk (T := (ledger_Ledger_Has_1_T)) (all_nil) (all_nil) mixed Try.func44 rfl (by kernel_rfl) (ac_code [] Try.f44 rfl) (L := ledger_Ledger_Has_1_L)
    (fun n l h x => by cases h) (fun k n l h => by cases h)
    (fun k => All.mem (ledger_Ledger_Has_1_vc k) trivial) (fun x r h => ⟨0, (ledger_Ledger_Has_1_eq 0 x.1 x.2).symm.trans h⟩) (by kernel_rfl) (by kernel_rfl) (Nat.le_of_ble_eq_true (by kernel_rfl))
/-! ### 45 (*cotillion/cotillionref4.Ledger).Has -/
noncomputable def ref4_Ledger_Has_l0 : Nat → (List Int) → (List Int) → (List Int) → Int → Option (Bool × (List Int × List Int))
  | 0, _, _, _, _ => none
  | k + 1, l_Caps, l_Taken, needs, i => if i < (needs.length : Int) then
    (ref4_Ledger_Free (l_Caps, l_Taken) i).bind fun r1 =>
    if 0 ≤ i then
    if i < (needs.length : Int) then
    if r1.1 < (needs.getD i.toNat 0) then
    some (false, (r1.2.1, r1.2.2)) else
    ref4_Ledger_Has_l0 k r1.2.1 r1.2.2 needs (w64 (i + 1)) else none else none else
    some (true, (l_Caps, l_Taken))
noncomputable def ref4_Ledger_Has_f (k : Nat) (l : List Int × List Int) (needs : List Int) : Option (Bool × (List Int × List Int)) := ref4_Ledger_Has_l0 k l.1 l.2 needs 0
noncomputable def ref4_Ledger_Has (l : List Int × List Int) (needs : List Int) : Option (Bool × (List Int × List Int)) := lim (fun k (x : (List Int × List Int) × List Int) => ref4_Ledger_Has_f k x.1 x.2) (l, needs)
noncomputable abbrev ref4_Ledger_Has_T : Tab S := ⟨[⟨42, [.obj [.data (.sl (.int .i64)), .marr (.int .i64)], .val (.data (.int .i64))], [.val (.data (.int .i64))], fun x => ref4_Ledger_Free x.1 x.2⟩], [], false⟩
noncomputable def ref4_Ledger_Has_L (k : Nat) : Nat → List (Lab S (Bool × (List Int × List Int)))
  | 0 => [⟨[0, 1, 5], [.obj [.data (.sl (.int .i64)), .marr (.int .i64)], .val (.data (.sl (.int .i64))), .val (.data (.int .i64))], fun x => ref4_Ledger_Has_l0 k x.1.1 x.1.2 x.2.1 x.2.2⟩]
  | _ + 1 => []
theorem ref4_Ledger_Has_eq (k : Nat) (l : List Int × List Int) (needs : List Int) : ref4_Ledger_Has_f k l needs = exec S (ref4_Ledger_Has_T) byt (labs S (ref4_Ledger_Has_T) (ref4_Ledger_Has_L k)) (ac [] Try.f45) (frame0 S [.obj [.data (.sl (.int .i64)), .marr (.int .i64)], .val (.data (.sl (.int .i64)))] (l, needs)) (retK S (ref4_Ledger_Has_T) Try.f45 [.obj [.data (.sl (.int .i64)), .marr (.int .i64)], .val (.data (.sl (.int .i64)))] [.val (.data .bool)]) := by kernel_rfl
theorem ref4_Ledger_Has_vc (k : Nat) : VC S (ref4_Ledger_Has_T) byt (ref4_Ledger_Has_L k) (ref4_Ledger_Has_L (k + 1)) (ac [] Try.f45) (retK S (ref4_Ledger_Has_T) Try.f45 [.obj [.data (.sl (.int .i64)), .marr (.int .i64)], .val (.data (.sl (.int .i64)))] [.val (.data .bool)]) = [∀ x : (List Int × List Int) × List Int × Int, ref4_Ledger_Has_l0 (k + 1) x.1.1 x.1.2 x.2.1 x.2.2 = ref4_Ledger_Has_l0 (k + 1) x.1.1 x.1.2 x.2.1 x.2.2] := by kernel_rfl
theorem ref4_Ledger_Has_sndk (k : Nat) : Snd Try.prog S ⟨45, [.obj [.data (.sl (.int .i64)), .marr (.int .i64)], .val (.data (.sl (.int .i64)))], [.val (.data .bool)], fun x => ref4_Ledger_Has_f k x.1 x.2⟩ :=
  fn_ok progOk (T := (ref4_Ledger_Has_T)) (all_cons ref4_Ledger_Free_snd (all_nil)) (all_nil) mixed Try.func45 rfl (by kernel_rfl) (ac_code [] Try.f45 rfl) (L := ref4_Ledger_Has_L)
    (fun n l h x => by match n, h with
        | 0, h => 
          rcases List.mem_cons.1 h with rfl | h
          · rfl
          cases h
        | _ + 1, h => cases h) (fun k n l h => by match n, h with
        | 0, h => 
          rcases List.mem_cons.1 h with rfl | h
          · rfl
          cases h
        | _ + 1, h => cases h)
    (fun k => All.mem (ref4_Ledger_Has_vc k) ⟨fun _ => rfl, trivial⟩) (fun x r h => ⟨k, (ref4_Ledger_Has_eq k x.1 x.2).symm.trans h⟩) (by kernel_rfl) (by kernel_rfl) (Nat.le_of_ble_eq_true (by kernel_rfl))
theorem ref4_Ledger_Has_snd : Snd Try.prog S ⟨45, [.obj [.data (.sl (.int .i64)), .marr (.int .i64)], .val (.data (.sl (.int .i64)))], [.val (.data .bool)], fun x => ref4_Ledger_Has x.1 x.2⟩ := Snd.lim ref4_Ledger_Has_sndk
/-! ### 9 cotillion/cotillionlaw4.LedgerPlays -/
mutual
noncomputable def law4_LedgerPlays_l0b : Nat → (List law4_Step) → (List Int) → (List Int) → (List Int) → Int → Option Bool
  | 0, _, _, _, _, _ => none
  | k + 1, l, needs, b_Caps, b_Taken, i => if i < (l.length : Int) then
    if 0 ≤ i then
    if i < (l.length : Int) then
    if 0 ≤ i then
    if i < (l.length : Int) then
    if 0 ≤ ((l.getD i.toNat law4_Step.z).What) then
    if 0 ≤ i then
    if i < (l.length : Int) then
    if ((l.getD i.toNat law4_Step.z).What) ≤ 3 then
    (ledger_Ledger_Take_1 () ((l.getD i.toNat law4_Step.z).C)).bind fun r12 =>
    (ref4_Ledger_Take (b_Caps, b_Taken) ((l.getD i.toNat law4_Step.z).C)).bind fun r13 =>
    law4_LedgerPlays_c1 k l needs r13.2.1 r13.2.2 i ((l.getD i.toNat law4_Step.z).C) (decide (r12 = r13.1)) else
    if 0 ≤ i then
    if i < (l.length : Int) then
    if 4 ≤ ((l.getD i.toNat law4_Step.z).What) then
    if 0 ≤ i then
    if i < (l.length : Int) then
    if ((l.getD i.toNat law4_Step.z).What) ≤ 6 then
    (ledger_Ledger_Give_1 () ((l.getD i.toNat law4_Step.z).C)).bind fun r14 =>
    (ref4_Ledger_Give (b_Caps, b_Taken) ((l.getD i.toNat law4_Step.z).C)).bind fun r15 =>
    law4_LedgerPlays_c1 k l needs r15.2.1 r15.2.2 i ((l.getD i.toNat law4_Step.z).C) (decide (r14 = r15.1)) else
    if 0 ≤ i then
    if i < (l.length : Int) then
    if ((l.getD i.toNat law4_Step.z).What) = 7 then
    (ledger_Ledger_Reset () ((l.getD i.toNat law4_Step.z).C)).bind fun r16 =>
    (ref4_Ledger_Reset (b_Caps, b_Taken) ((l.getD i.toNat law4_Step.z).C)).bind fun r17 =>
    if r16.1 = r17.1 then
    law4_LedgerPlays_c1 k l needs r17.2.2.1 r17.2.2.2 i ((l.getD i.toNat law4_Step.z).C) (decide (r16.2 = r17.2.1)) else
    law4_LedgerPlays_c1 k l needs r17.2.2.1 r17.2.2.2 i ((l.getD i.toNat law4_Step.z).C) false else
    law4_LedgerPlays_c1 k l needs b_Caps b_Taken i ((l.getD i.toNat law4_Step.z).C) true else none else none else none else none else
    if 0 ≤ i then
    if i < (l.length : Int) then
    if ((l.getD i.toNat law4_Step.z).What) = 7 then
    (ledger_Ledger_Reset () ((l.getD i.toNat law4_Step.z).C)).bind fun r18 =>
    (ref4_Ledger_Reset (b_Caps, b_Taken) ((l.getD i.toNat law4_Step.z).C)).bind fun r19 =>
    if r18.1 = r19.1 then
    law4_LedgerPlays_c1 k l needs r19.2.2.1 r19.2.2.2 i ((l.getD i.toNat law4_Step.z).C) (decide (r18.2 = r19.2.1)) else
    law4_LedgerPlays_c1 k l needs r19.2.2.1 r19.2.2.2 i ((l.getD i.toNat law4_Step.z).C) false else
    law4_LedgerPlays_c1 k l needs b_Caps b_Taken i ((l.getD i.toNat law4_Step.z).C) true else none else none else none else none else none else none else
    if 0 ≤ i then
    if i < (l.length : Int) then
    if 4 ≤ ((l.getD i.toNat law4_Step.z).What) then
    if 0 ≤ i then
    if i < (l.length : Int) then
    if ((l.getD i.toNat law4_Step.z).What) ≤ 6 then
    (ledger_Ledger_Give_1 () ((l.getD i.toNat law4_Step.z).C)).bind fun r20 =>
    (ref4_Ledger_Give (b_Caps, b_Taken) ((l.getD i.toNat law4_Step.z).C)).bind fun r21 =>
    law4_LedgerPlays_c1 k l needs r21.2.1 r21.2.2 i ((l.getD i.toNat law4_Step.z).C) (decide (r20 = r21.1)) else
    if 0 ≤ i then
    if i < (l.length : Int) then
    if ((l.getD i.toNat law4_Step.z).What) = 7 then
    (ledger_Ledger_Reset () ((l.getD i.toNat law4_Step.z).C)).bind fun r22 =>
    (ref4_Ledger_Reset (b_Caps, b_Taken) ((l.getD i.toNat law4_Step.z).C)).bind fun r23 =>
    if r22.1 = r23.1 then
    law4_LedgerPlays_c1 k l needs r23.2.2.1 r23.2.2.2 i ((l.getD i.toNat law4_Step.z).C) (decide (r22.2 = r23.2.1)) else
    law4_LedgerPlays_c1 k l needs r23.2.2.1 r23.2.2.2 i ((l.getD i.toNat law4_Step.z).C) false else
    law4_LedgerPlays_c1 k l needs b_Caps b_Taken i ((l.getD i.toNat law4_Step.z).C) true else none else none else none else none else
    if 0 ≤ i then
    if i < (l.length : Int) then
    if ((l.getD i.toNat law4_Step.z).What) = 7 then
    (ledger_Ledger_Reset () ((l.getD i.toNat law4_Step.z).C)).bind fun r24 =>
    (ref4_Ledger_Reset (b_Caps, b_Taken) ((l.getD i.toNat law4_Step.z).C)).bind fun r25 =>
    if r24.1 = r25.1 then
    law4_LedgerPlays_c1 k l needs r25.2.2.1 r25.2.2.2 i ((l.getD i.toNat law4_Step.z).C) (decide (r24.2 = r25.2.1)) else
    law4_LedgerPlays_c1 k l needs r25.2.2.1 r25.2.2.2 i ((l.getD i.toNat law4_Step.z).C) false else
    law4_LedgerPlays_c1 k l needs b_Caps b_Taken i ((l.getD i.toNat law4_Step.z).C) true else none else none else none else none else none else none else none else none else
    (law4_known).bind fun r26 =>
    some r26
noncomputable def law4_LedgerPlays_c1 : Nat → (List law4_Step) → (List Int) → (List Int) → (List Int) → Int → Int → Bool → Option Bool
  | 0, _, _, _, _, _, _, _ => none
  | k + 1, l, needs, b_Caps, b_Taken, i, c, ok => bif !ok then
    some false else
    (ledger_Ledger_Free_1 () c).bind fun r44 =>
    (ref4_Ledger_Free (b_Caps, b_Taken) c).bind fun r45 =>
    if r44 ≠ r45.1 then
    some false else
    (ledger_Ledger_Held_1 () c).bind fun r46 =>
    (ref4_Ledger_Held (r45.2.1, r45.2.2) c).bind fun r47 =>
    if r46 ≠ r47.1 then
    some false else
    (ledger_Ledger_Has_1 () needs).bind fun r48 =>
    (ref4_Ledger_Has (r47.2.1, r47.2.2) needs).bind fun r49 =>
    if r48 ≠ r49.1 then
    some false else
    law4_LedgerPlays_l0b k l needs r49.2.1 r49.2.2 (w64 (i + 1))
end
noncomputable def law4_LedgerPlays_l0c : Nat → (List law4_Step) → (List Int) → (List Int) → (List Int) → Int → Option Bool
  | 0, _, _, _, _, _ => none
  | k + 1, l, needs, a_caps, a_free, i => if i < (l.length : Int) then
    (law4_known).bind fun r27 =>
    some r27 else
    (law4_known).bind fun r28 =>
    some r28
mutual
noncomputable def law4_LedgerPlays_l0d : Nat → (List law4_Step) → (List Int) → (List Int) → (List Int) → (List Int) → (List Int) → Int → Option Bool
  | 0, _, _, _, _, _, _, _ => none
  | k + 1, l, needs, a_caps, a_free, b_Caps, b_Taken, i => if i < (l.length : Int) then
    if 0 ≤ i then
    if i < (l.length : Int) then
    if 0 ≤ i then
    if i < (l.length : Int) then
    if 0 ≤ ((l.getD i.toNat law4_Step.z).What) then
    if 0 ≤ i then
    if i < (l.length : Int) then
    if ((l.getD i.toNat law4_Step.z).What) ≤ 3 then
    (ledger_Ledger_Take (a_caps, a_free) ((l.getD i.toNat law4_Step.z).C)).bind fun r29 =>
    (ref4_Ledger_Take (b_Caps, b_Taken) ((l.getD i.toNat law4_Step.z).C)).bind fun r30 =>
    law4_LedgerPlays_c1b k l needs r29.2.1 r29.2.2 r30.2.1 r30.2.2 i ((l.getD i.toNat law4_Step.z).C) (decide (r29.1 = r30.1)) else
    if 0 ≤ i then
    if i < (l.length : Int) then
    if 4 ≤ ((l.getD i.toNat law4_Step.z).What) then
    if 0 ≤ i then
    if i < (l.length : Int) then
    if ((l.getD i.toNat law4_Step.z).What) ≤ 6 then
    (ledger_Ledger_Give (a_caps, a_free) ((l.getD i.toNat law4_Step.z).C)).bind fun r31 =>
    (ref4_Ledger_Give (b_Caps, b_Taken) ((l.getD i.toNat law4_Step.z).C)).bind fun r32 =>
    law4_LedgerPlays_c1b k l needs r31.2.1 r31.2.2 r32.2.1 r32.2.2 i ((l.getD i.toNat law4_Step.z).C) (decide (r31.1 = r32.1)) else
    if 0 ≤ i then
    if i < (l.length : Int) then
    if ((l.getD i.toNat law4_Step.z).What) = 7 then
    (ledger_Ledger_Reset_1 (a_caps, a_free) ((l.getD i.toNat law4_Step.z).C)).bind fun r33 =>
    (ref4_Ledger_Reset (b_Caps, b_Taken) ((l.getD i.toNat law4_Step.z).C)).bind fun r34 =>
    if r33.1 = r34.1 then
    law4_LedgerPlays_c1b k l needs r33.2.2.1 r33.2.2.2 r34.2.2.1 r34.2.2.2 i ((l.getD i.toNat law4_Step.z).C) (decide (r33.2.1 = r34.2.1)) else
    law4_LedgerPlays_c1b k l needs r33.2.2.1 r33.2.2.2 r34.2.2.1 r34.2.2.2 i ((l.getD i.toNat law4_Step.z).C) false else
    law4_LedgerPlays_c1b k l needs a_caps a_free b_Caps b_Taken i ((l.getD i.toNat law4_Step.z).C) true else none else none else none else none else
    if 0 ≤ i then
    if i < (l.length : Int) then
    if ((l.getD i.toNat law4_Step.z).What) = 7 then
    (ledger_Ledger_Reset_1 (a_caps, a_free) ((l.getD i.toNat law4_Step.z).C)).bind fun r35 =>
    (ref4_Ledger_Reset (b_Caps, b_Taken) ((l.getD i.toNat law4_Step.z).C)).bind fun r36 =>
    if r35.1 = r36.1 then
    law4_LedgerPlays_c1b k l needs r35.2.2.1 r35.2.2.2 r36.2.2.1 r36.2.2.2 i ((l.getD i.toNat law4_Step.z).C) (decide (r35.2.1 = r36.2.1)) else
    law4_LedgerPlays_c1b k l needs r35.2.2.1 r35.2.2.2 r36.2.2.1 r36.2.2.2 i ((l.getD i.toNat law4_Step.z).C) false else
    law4_LedgerPlays_c1b k l needs a_caps a_free b_Caps b_Taken i ((l.getD i.toNat law4_Step.z).C) true else none else none else none else none else none else none else
    if 0 ≤ i then
    if i < (l.length : Int) then
    if 4 ≤ ((l.getD i.toNat law4_Step.z).What) then
    if 0 ≤ i then
    if i < (l.length : Int) then
    if ((l.getD i.toNat law4_Step.z).What) ≤ 6 then
    (ledger_Ledger_Give (a_caps, a_free) ((l.getD i.toNat law4_Step.z).C)).bind fun r37 =>
    (ref4_Ledger_Give (b_Caps, b_Taken) ((l.getD i.toNat law4_Step.z).C)).bind fun r38 =>
    law4_LedgerPlays_c1b k l needs r37.2.1 r37.2.2 r38.2.1 r38.2.2 i ((l.getD i.toNat law4_Step.z).C) (decide (r37.1 = r38.1)) else
    if 0 ≤ i then
    if i < (l.length : Int) then
    if ((l.getD i.toNat law4_Step.z).What) = 7 then
    (ledger_Ledger_Reset_1 (a_caps, a_free) ((l.getD i.toNat law4_Step.z).C)).bind fun r39 =>
    (ref4_Ledger_Reset (b_Caps, b_Taken) ((l.getD i.toNat law4_Step.z).C)).bind fun r40 =>
    if r39.1 = r40.1 then
    law4_LedgerPlays_c1b k l needs r39.2.2.1 r39.2.2.2 r40.2.2.1 r40.2.2.2 i ((l.getD i.toNat law4_Step.z).C) (decide (r39.2.1 = r40.2.1)) else
    law4_LedgerPlays_c1b k l needs r39.2.2.1 r39.2.2.2 r40.2.2.1 r40.2.2.2 i ((l.getD i.toNat law4_Step.z).C) false else
    law4_LedgerPlays_c1b k l needs a_caps a_free b_Caps b_Taken i ((l.getD i.toNat law4_Step.z).C) true else none else none else none else none else
    if 0 ≤ i then
    if i < (l.length : Int) then
    if ((l.getD i.toNat law4_Step.z).What) = 7 then
    (ledger_Ledger_Reset_1 (a_caps, a_free) ((l.getD i.toNat law4_Step.z).C)).bind fun r41 =>
    (ref4_Ledger_Reset (b_Caps, b_Taken) ((l.getD i.toNat law4_Step.z).C)).bind fun r42 =>
    if r41.1 = r42.1 then
    law4_LedgerPlays_c1b k l needs r41.2.2.1 r41.2.2.2 r42.2.2.1 r42.2.2.2 i ((l.getD i.toNat law4_Step.z).C) (decide (r41.2.1 = r42.2.1)) else
    law4_LedgerPlays_c1b k l needs r41.2.2.1 r41.2.2.2 r42.2.2.1 r42.2.2.2 i ((l.getD i.toNat law4_Step.z).C) false else
    law4_LedgerPlays_c1b k l needs a_caps a_free b_Caps b_Taken i ((l.getD i.toNat law4_Step.z).C) true else none else none else none else none else none else none else none else none else
    (law4_known).bind fun r43 =>
    some r43
noncomputable def law4_LedgerPlays_c1b : Nat → (List law4_Step) → (List Int) → (List Int) → (List Int) → (List Int) → (List Int) → Int → Int → Bool → Option Bool
  | 0, _, _, _, _, _, _, _, _, _ => none
  | k + 1, l, needs, a_caps, a_free, b_Caps, b_Taken, i, c, ok => bif !ok then
    some false else
    (ledger_Ledger_Free (a_caps, a_free) c).bind fun r50 =>
    (ref4_Ledger_Free (b_Caps, b_Taken) c).bind fun r51 =>
    if r50.1 ≠ r51.1 then
    some false else
    (ledger_Ledger_Held (r50.2.1, r50.2.2) c).bind fun r52 =>
    (ref4_Ledger_Held (r51.2.1, r51.2.2) c).bind fun r53 =>
    if r52.1 ≠ r53.1 then
    some false else
    (ledger_Ledger_Has (r52.2.1, r52.2.2) needs).bind fun r54 =>
    (ref4_Ledger_Has (r53.2.1, r53.2.2) needs).bind fun r55 =>
    if r54.1 ≠ r55.1 then
    some false else
    law4_LedgerPlays_l0d k l needs r54.2.1 r54.2.2 r55.2.1 r55.2.2 (w64 (i + 1))
end
noncomputable def law4_LedgerPlays_l0 : Nat → (List law4_Step) → (List Int) → Int → Option Bool
  | 0, _, _, _ => none
  | k + 1, l, needs, i => if i < (l.length : Int) then
    (law4_known).bind fun r10 =>
    some r10 else
    (law4_known).bind fun r11 =>
    some r11
noncomputable def law4_LedgerPlays_c0 : Nat → (List Int) → (List law4_Step) → (List Int) → Option Bool
  | 0, _, _, _ => none
  | k + 1, caps, l, needs => (ledger_New caps).bind fun r4 =>
    (match r4.1 with
    | none => (ref4_New caps).bind fun r6 =>
    (match r6.1 with
    | none => if r4.2 ≠ r6.2 then
    some false else
    if true ≠ true then
    some false else
    law4_LedgerPlays_l0 k l needs 0
    | some y7 => if r4.2 ≠ r6.2 then
    some false else
    if true ≠ false then
    some false else
    law4_LedgerPlays_l0b k l needs y7.1 y7.2 0)
    | some y5 => (ref4_New caps).bind fun r8 =>
    (match r8.1 with
    | none => if r4.2 ≠ r8.2 then
    some false else
    if false ≠ true then
    some false else
    law4_LedgerPlays_l0c k l needs y5.1 y5.2 0
    | some y9 => if r4.2 ≠ r8.2 then
    some false else
    if false ≠ false then
    some false else
    law4_LedgerPlays_l0d k l needs y5.1 y5.2 y9.1 y9.2 0))
noncomputable def law4_LedgerPlays_f (k : Nat) (caps : List Int) (l : List law4_Step) (needs : List Int) : Option Bool := if 100 < (caps.length : Int) then
    (law4_known).bind fun r1 =>
    some r1 else
    if 200 < (l.length : Int) then
    (law4_known).bind fun r2 =>
    some r2 else
    if 100 < (needs.length : Int) then
    (law4_known).bind fun r3 =>
    some r3 else
    law4_LedgerPlays_c0 k caps l needs
noncomputable def law4_LedgerPlays (caps : List Int) (l : List law4_Step) (needs : List Int) : Option Bool := lim (fun k (x : List Int × List law4_Step × List Int) => law4_LedgerPlays_f k x.1 x.2.1 x.2.2) (caps, l, needs)
noncomputable abbrev law4_LedgerPlays_T : Tab S := ⟨[⟨31, [], [.val (.data .bool)], fun x => law4_known⟩, ⟨32, [.val (.data (.sl (.int .i64)))], [.opt [.data (.sl (.int .i64)), .marr (.int .i64)], .val (.data (.int .i64))], fun x => ledger_New x⟩, ⟨37, [.val (.data (.sl (.int .i64)))], [.opt [.data (.sl (.int .i64)), .marr (.int .i64)], .val (.data (.int .i64))], fun x => ref4_New x⟩, ⟨34, [.nil, .val (.data (.int .i64))], [.val (.data (.int .i64))], fun x => ledger_Ledger_Take_1 x.1 x.2⟩, ⟨38, [.obj [.data (.sl (.int .i64)), .marr (.int .i64)], .val (.data (.int .i64))], [.val (.data (.int .i64))], fun x => ref4_Ledger_Take x.1 x.2⟩, ⟨33, [.nil, .val (.data (.int .i64))], [.val (.data (.int .i64))], fun x => ledger_Ledger_Give_1 x.1 x.2⟩, ⟨39, [.obj [.data (.sl (.int .i64)), .marr (.int .i64)], .val (.data (.int .i64))], [.val (.data (.int .i64))], fun x => ref4_Ledger_Give x.1 x.2⟩, ⟨40, [.nil, .val (.data (.int .i64))], [.val (.data (.int .i64)), .val (.data (.int .i64))], fun x => ledger_Ledger_Reset x.1 x.2⟩, ⟨41, [.obj [.data (.sl (.int .i64)), .marr (.int .i64)], .val (.data (.int .i64))], [.val (.data (.int .i64)), .val (.data (.int .i64))], fun x => ref4_Ledger_Reset x.1 x.2⟩, ⟨34, [.obj [.data (.sl (.int .i64)), .marr (.int .i64)], .val (.data (.int .i64))], [.val (.data (.int .i64))], fun x => ledger_Ledger_Take x.1 x.2⟩, ⟨33, [.obj [.data (.sl (.int .i64)), .marr (.int .i64)], .val (.data (.int .i64))], [.val (.data (.int .i64))], fun x => ledger_Ledger_Give x.1 x.2⟩, ⟨40, [.obj [.data (.sl (.int .i64)), .marr (.int .i64)], .val (.data (.int .i64))], [.val (.data (.int .i64)), .val (.data (.int .i64))], fun x => ledger_Ledger_Reset_1 x.1 x.2⟩, ⟨35, [.nil, .val (.data (.int .i64))], [.val (.data (.int .i64))], fun x => ledger_Ledger_Free_1 x.1 x.2⟩, ⟨42, [.obj [.data (.sl (.int .i64)), .marr (.int .i64)], .val (.data (.int .i64))], [.val (.data (.int .i64))], fun x => ref4_Ledger_Free x.1 x.2⟩, ⟨36, [.nil, .val (.data (.int .i64))], [.val (.data (.int .i64))], fun x => ledger_Ledger_Held_1 x.1 x.2⟩, ⟨43, [.obj [.data (.sl (.int .i64)), .marr (.int .i64)], .val (.data (.int .i64))], [.val (.data (.int .i64))], fun x => ref4_Ledger_Held x.1 x.2⟩, ⟨44, [.nil, .val (.data (.sl (.int .i64)))], [.val (.data .bool)], fun x => ledger_Ledger_Has_1 x.1 x.2⟩, ⟨45, [.obj [.data (.sl (.int .i64)), .marr (.int .i64)], .val (.data (.sl (.int .i64)))], [.val (.data .bool)], fun x => ref4_Ledger_Has x.1 x.2⟩, ⟨35, [.obj [.data (.sl (.int .i64)), .marr (.int .i64)], .val (.data (.int .i64))], [.val (.data (.int .i64))], fun x => ledger_Ledger_Free x.1 x.2⟩, ⟨36, [.obj [.data (.sl (.int .i64)), .marr (.int .i64)], .val (.data (.int .i64))], [.val (.data (.int .i64))], fun x => ledger_Ledger_Held x.1 x.2⟩, ⟨44, [.obj [.data (.sl (.int .i64)), .marr (.int .i64)], .val (.data (.sl (.int .i64)))], [.val (.data .bool)], fun x => ledger_Ledger_Has x.1 x.2⟩], [], false⟩
noncomputable def law4_LedgerPlays_L (k : Nat) : Nat → List (Lab S Bool)
  | 0 => [⟨[1, 2, 7, 9, 11], [.val (.data (.sl (.st 0))), .val (.data (.sl (.int .i64))), .nil, .nil, .val (.data (.int .i64))], fun x => law4_LedgerPlays_l0 k x.1 x.2.1 x.2.2.2.2⟩, ⟨[1, 2, 7, 9, 11], [.val (.data (.sl (.st 0))), .val (.data (.sl (.int .i64))), .nil, .obj [.data (.sl (.int .i64)), .marr (.int .i64)], .val (.data (.int .i64))], fun x => law4_LedgerPlays_l0b k x.1 x.2.1 x.2.2.2.1.1 x.2.2.2.1.2 x.2.2.2.2⟩, ⟨[1, 2, 7, 9, 11], [.val (.data (.sl (.st 0))), .val (.data (.sl (.int .i64))), .obj [.data (.sl (.int .i64)), .marr (.int .i64)], .nil, .val (.data (.int .i64))], fun x => law4_LedgerPlays_l0c k x.1 x.2.1 x.2.2.1.1 x.2.2.1.2 x.2.2.2.2⟩, ⟨[1, 2, 7, 9, 11], [.val (.data (.sl (.st 0))), .val (.data (.sl (.int .i64))), .obj [.data (.sl (.int .i64)), .marr (.int .i64)], .obj [.data (.sl (.int .i64)), .marr (.int .i64)], .val (.data (.int .i64))], fun x => law4_LedgerPlays_l0d k x.1 x.2.1 x.2.2.1.1 x.2.2.1.2 x.2.2.2.1.1 x.2.2.2.1.2 x.2.2.2.2⟩]
  | 1 => [⟨[0, 1, 2], [.val (.data (.sl (.int .i64))), .val (.data (.sl (.st 0))), .val (.data (.sl (.int .i64)))], fun x => law4_LedgerPlays_c0 k x.1 x.2.1 x.2.2⟩]
  | 2 => []
  | 3 => [⟨[1, 2, 7, 9, 11, 12, 13], [.val (.data (.sl (.st 0))), .val (.data (.sl (.int .i64))), .nil, .obj [.data (.sl (.int .i64)), .marr (.int .i64)], .val (.data (.int .i64)), .val (.data (.int .i64)), .val (.data .bool)], fun x => law4_LedgerPlays_c1 k x.1 x.2.1 x.2.2.2.1.1 x.2.2.2.1.2 x.2.2.2.2.1 x.2.2.2.2.2.1 x.2.2.2.2.2.2⟩, ⟨[1, 2, 7, 9, 11, 12, 13], [.val (.data (.sl (.st 0))), .val (.data (.sl (.int .i64))), .obj [.data (.sl (.int .i64)), .marr (.int .i64)], .obj [.data (.sl (.int .i64)), .marr (.int .i64)], .val (.data (.int .i64)), .val (.data (.int .i64)), .val (.data .bool)], fun x => law4_LedgerPlays_c1b k x.1 x.2.1 x.2.2.1.1 x.2.2.1.2 x.2.2.2.1.1 x.2.2.2.1.2 x.2.2.2.2.1 x.2.2.2.2.2.1 x.2.2.2.2.2.2⟩]
  | _ + 4 => []
theorem law4_LedgerPlays_eq (k : Nat) (caps : List Int) (l : List law4_Step) (needs : List Int) : law4_LedgerPlays_f k caps l needs = exec S (law4_LedgerPlays_T) byt (labs S (law4_LedgerPlays_T) (law4_LedgerPlays_L k)) (ac [1, 16] Try.f9) (frame0 S [.val (.data (.sl (.int .i64))), .val (.data (.sl (.st 0))), .val (.data (.sl (.int .i64)))] (caps, l, needs)) (retK S (law4_LedgerPlays_T) Try.f9 [.val (.data (.sl (.int .i64))), .val (.data (.sl (.st 0))), .val (.data (.sl (.int .i64)))] [.val (.data .bool)]) := by kernel_rfl
theorem law4_LedgerPlays_vc (k : Nat) : VC S (law4_LedgerPlays_T) byt (law4_LedgerPlays_L k) (law4_LedgerPlays_L (k + 1)) (ac [1, 16] Try.f9) (retK S (law4_LedgerPlays_T) Try.f9 [.val (.data (.sl (.int .i64))), .val (.data (.sl (.st 0))), .val (.data (.sl (.int .i64)))] [.val (.data .bool)]) = [∀ x : List law4_Step × List Int × Unit × (List Int × List Int) × Int × Int × Bool, law4_LedgerPlays_c1 (k + 1) x.1 x.2.1 x.2.2.2.1.1 x.2.2.2.1.2 x.2.2.2.2.1 x.2.2.2.2.2.1 x.2.2.2.2.2.2 = law4_LedgerPlays_c1 (k + 1) x.1 x.2.1 x.2.2.2.1.1 x.2.2.2.1.2 x.2.2.2.2.1 x.2.2.2.2.2.1 x.2.2.2.2.2.2, ∀ x : List law4_Step × List Int × (List Int × List Int) × (List Int × List Int) × Int × Int × Bool, law4_LedgerPlays_c1b (k + 1) x.1 x.2.1 x.2.2.1.1 x.2.2.1.2 x.2.2.2.1.1 x.2.2.2.1.2 x.2.2.2.2.1 x.2.2.2.2.2.1 x.2.2.2.2.2.2 = law4_LedgerPlays_c1b (k + 1) x.1 x.2.1 x.2.2.1.1 x.2.2.1.2 x.2.2.2.1.1 x.2.2.2.1.2 x.2.2.2.2.1 x.2.2.2.2.2.1 x.2.2.2.2.2.2, ∀ x : List law4_Step × List Int × Unit × Unit × Int, law4_LedgerPlays_l0 (k + 1) x.1 x.2.1 x.2.2.2.2 = law4_LedgerPlays_l0 (k + 1) x.1 x.2.1 x.2.2.2.2, ∀ x : List law4_Step × List Int × Unit × (List Int × List Int) × Int, law4_LedgerPlays_l0b (k + 1) x.1 x.2.1 x.2.2.2.1.1 x.2.2.2.1.2 x.2.2.2.2 = law4_LedgerPlays_l0b (k + 1) x.1 x.2.1 x.2.2.2.1.1 x.2.2.2.1.2 x.2.2.2.2, ∀ x : List law4_Step × List Int × (List Int × List Int) × Unit × Int, law4_LedgerPlays_l0c (k + 1) x.1 x.2.1 x.2.2.1.1 x.2.2.1.2 x.2.2.2.2 = law4_LedgerPlays_l0c (k + 1) x.1 x.2.1 x.2.2.1.1 x.2.2.1.2 x.2.2.2.2, ∀ x : List law4_Step × List Int × (List Int × List Int) × (List Int × List Int) × Int, law4_LedgerPlays_l0d (k + 1) x.1 x.2.1 x.2.2.1.1 x.2.2.1.2 x.2.2.2.1.1 x.2.2.2.1.2 x.2.2.2.2 = law4_LedgerPlays_l0d (k + 1) x.1 x.2.1 x.2.2.1.1 x.2.2.1.2 x.2.2.2.1.1 x.2.2.2.1.2 x.2.2.2.2, ∀ x : List Int × List law4_Step × List Int, law4_LedgerPlays_c0 (k + 1) x.1 x.2.1 x.2.2 = law4_LedgerPlays_c0 (k + 1) x.1 x.2.1 x.2.2] := by kernel_rfl
theorem law4_LedgerPlays_sndk (k : Nat) : Snd Try.prog S ⟨9, [.val (.data (.sl (.int .i64))), .val (.data (.sl (.st 0))), .val (.data (.sl (.int .i64)))], [.val (.data .bool)], fun x => law4_LedgerPlays_f k x.1 x.2.1 x.2.2⟩ :=
  fn_ok progOk (T := (law4_LedgerPlays_T)) (all_cons law4_known_snd (all_cons ledger_New_snd (all_cons ref4_New_snd (all_cons ledger_Ledger_Take_1_snd (all_cons ref4_Ledger_Take_snd (all_cons ledger_Ledger_Give_1_snd (all_cons ref4_Ledger_Give_snd (all_cons ledger_Ledger_Reset_snd (all_cons ref4_Ledger_Reset_snd (all_cons ledger_Ledger_Take_snd (all_cons ledger_Ledger_Give_snd (all_cons ledger_Ledger_Reset_1_snd (all_cons ledger_Ledger_Free_1_snd (all_cons ref4_Ledger_Free_snd (all_cons ledger_Ledger_Held_1_snd (all_cons ref4_Ledger_Held_snd (all_cons ledger_Ledger_Has_1_snd (all_cons ref4_Ledger_Has_snd (all_cons ledger_Ledger_Free_snd (all_cons ledger_Ledger_Held_snd (all_cons ledger_Ledger_Has_snd (all_nil)))))))))))))))))))))) (all_nil) mixed Try.func9 rfl (by kernel_rfl) (ac_code [1, 16] Try.f9 rfl) (L := law4_LedgerPlays_L)
    (fun n l h x => by match n, h with
        | 0, h => 
          rcases List.mem_cons.1 h with rfl | h
          · rfl
          rcases List.mem_cons.1 h with rfl | h
          · rfl
          rcases List.mem_cons.1 h with rfl | h
          · rfl
          rcases List.mem_cons.1 h with rfl | h
          · rfl
          cases h
        | 1, h => 
          rcases List.mem_cons.1 h with rfl | h
          · rfl
          cases h
        | 2, h => cases h
        | 3, h => 
          rcases List.mem_cons.1 h with rfl | h
          · rfl
          rcases List.mem_cons.1 h with rfl | h
          · rfl
          cases h
        | _ + 4, h => cases h) (fun k n l h => by match n, h with
        | 0, h => 
          rcases List.mem_cons.1 h with rfl | h
          · rfl
          rcases List.mem_cons.1 h with rfl | h
          · rfl
          rcases List.mem_cons.1 h with rfl | h
          · rfl
          rcases List.mem_cons.1 h with rfl | h
          · rfl
          cases h
        | 1, h => 
          rcases List.mem_cons.1 h with rfl | h
          · rfl
          cases h
        | 2, h => cases h
        | 3, h => 
          rcases List.mem_cons.1 h with rfl | h
          · rfl
          rcases List.mem_cons.1 h with rfl | h
          · rfl
          cases h
        | _ + 4, h => cases h)
    (fun k => All.mem (law4_LedgerPlays_vc k) ⟨fun _ => rfl, ⟨fun _ => rfl, ⟨fun _ => rfl, ⟨fun _ => rfl, ⟨fun _ => rfl, ⟨fun _ => rfl, ⟨fun _ => rfl, trivial⟩⟩⟩⟩⟩⟩⟩) (fun x r h => ⟨k, (law4_LedgerPlays_eq k x.1 x.2.1 x.2.2).symm.trans h⟩) (by kernel_rfl) (by kernel_rfl) (Nat.le_of_ble_eq_true (by kernel_rfl))
theorem law4_LedgerPlays_snd : Snd Try.prog S ⟨9, [.val (.data (.sl (.int .i64))), .val (.data (.sl (.st 0))), .val (.data (.sl (.int .i64)))], [.val (.data .bool)], fun x => law4_LedgerPlays x.1 x.2.1 x.2.2⟩ := Snd.lim law4_LedgerPlays_sndk
/-! ### 10 cotillion/cotillionlaw4.LedgerDrains -/
noncomputable def law4_LedgerDrains_l1 : Nat → Int → (List Int) → (List Int) → Int → Int → Option Bool
  | 0, _, _, _, _, _ => none
  | k + 1, k_, a_caps, a_free, b, i => if i < b then
    (ledger_Ledger_Give (a_caps, a_free) 1).bind fun r6 =>
    if r6.1 ≠ 0 then
    some false else
    law4_LedgerDrains_l1 k k_ r6.2.1 r6.2.2 b (w64 (i + 1)) else
    (ledger_Ledger_Free (a_caps, a_free) 1).bind fun r7 =>
    if r7.1 ≠ b then
    some false else
    (ledger_Ledger_Free (r7.2.1, r7.2.2) 0).bind fun r8 =>
    if r8.1 ≠ 3 then
    some false else
    (ledger_Ledger_Reset_1 (r8.2.1, r8.2.2) 1).bind fun r9 =>
    if r9.1 = (w64 (k_ - b)) then
    if r9.2.1 = 0 then
    (ledger_Ledger_Give (r9.2.2.1, r9.2.2.2) 1).bind fun r10 =>
    if r10.1 = 9 then
    (ledger_Ledger_Free (r10.2.1, r10.2.2) 1).bind fun r11 =>
    if r11.1 = k_ then
    (law4_known).bind fun r12 =>
    some r12 else
    some false else
    some false else
    some false else
    some false
noncomputable def law4_LedgerDrains_l0 : Nat → Int → Int → (List Int) → (List Int) → Int → Option Bool
  | 0, _, _, _, _, _ => none
  | k + 1, back, k_, a_caps, a_free, i => if i < k_ then
    (ledger_Ledger_Has (a_caps, a_free) [3, w64 (k_ - i)]).bind fun r3 =>
    bif !r3.1 then
    some false else
    (ledger_Ledger_Has (r3.2.1, r3.2.2) [0, w64 ((w64 (k_ - i)) + 1)]).bind fun r4 =>
    bif r4.1 then
    some false else
    (ledger_Ledger_Take (r4.2.1, r4.2.2) 1).bind fun r5 =>
    if r5.1 ≠ 0 then
    some false else
    law4_LedgerDrains_l0 k back k_ r5.2.1 r5.2.2 (w64 (i + 1)) else
    if ¬ (w64 (k_ + 1)) = 0 then
    law4_LedgerDrains_l1 k k_ a_caps a_free ((w64 back).tmod (w64 (k_ + 1))) 0 else none
noncomputable def law4_LedgerDrains_f (k : Nat) (n : Int) (back : Int) : Option Bool := if ¬ (32 : Int) = 0 then
    (ledger_New [3, w64 (1 + ((w64 n).tmod 32))]).bind fun r1 =>
    (match r1.1 with
    | none => if r1.2 ≠ 0 then
    some false else
    some false
    | some y2 => if r1.2 ≠ 0 then
    some false else
    law4_LedgerDrains_l0 k back (w64 (1 + ((w64 n).tmod 32))) y2.1 y2.2 0) else none
noncomputable def law4_LedgerDrains (n : Int) (back : Int) : Option Bool := lim (fun k (x : Int × Int) => law4_LedgerDrains_f k x.1 x.2) (n, back)
noncomputable abbrev law4_LedgerDrains_T : Tab S := ⟨[⟨32, [.val (.data (.sl (.int .i64)))], [.opt [.data (.sl (.int .i64)), .marr (.int .i64)], .val (.data (.int .i64))], fun x => ledger_New x⟩, ⟨44, [.obj [.data (.sl (.int .i64)), .marr (.int .i64)], .val (.data (.sl (.int .i64)))], [.val (.data .bool)], fun x => ledger_Ledger_Has x.1 x.2⟩, ⟨34, [.obj [.data (.sl (.int .i64)), .marr (.int .i64)], .val (.data (.int .i64))], [.val (.data (.int .i64))], fun x => ledger_Ledger_Take x.1 x.2⟩, ⟨33, [.obj [.data (.sl (.int .i64)), .marr (.int .i64)], .val (.data (.int .i64))], [.val (.data (.int .i64))], fun x => ledger_Ledger_Give x.1 x.2⟩, ⟨35, [.obj [.data (.sl (.int .i64)), .marr (.int .i64)], .val (.data (.int .i64))], [.val (.data (.int .i64))], fun x => ledger_Ledger_Free x.1 x.2⟩, ⟨40, [.obj [.data (.sl (.int .i64)), .marr (.int .i64)], .val (.data (.int .i64))], [.val (.data (.int .i64)), .val (.data (.int .i64))], fun x => ledger_Ledger_Reset_1 x.1 x.2⟩, ⟨31, [], [.val (.data .bool)], fun x => law4_known⟩], [], false⟩
noncomputable def law4_LedgerDrains_L (k : Nat) : Nat → List (Lab S Bool)
  | 0 => [⟨[1, 5, 6, 8], [.val (.data (.int .u8)), .val (.data (.int .i64)), .obj [.data (.sl (.int .i64)), .marr (.int .i64)], .val (.data (.int .i64))], fun x => law4_LedgerDrains_l0 k x.1 x.2.1 x.2.2.1.1 x.2.2.1.2 x.2.2.2⟩]
  | 1 => []
  | 2 => [⟨[5, 6, 9, 10], [.val (.data (.int .i64)), .obj [.data (.sl (.int .i64)), .marr (.int .i64)], .val (.data (.int .i64)), .val (.data (.int .i64))], fun x => law4_LedgerDrains_l1 k x.1 x.2.1.1 x.2.1.2 x.2.2.1 x.2.2.2⟩]
  | _ + 3 => []
theorem law4_LedgerDrains_eq (k : Nat) (n : Int) (back : Int) : law4_LedgerDrains_f k n back = exec S (law4_LedgerDrains_T) byt (labs S (law4_LedgerDrains_T) (law4_LedgerDrains_L k)) (ac [] Try.f10) (frame0 S [.val (.data (.int .u8)), .val (.data (.int .u8))] (n, back)) (retK S (law4_LedgerDrains_T) Try.f10 [.val (.data (.int .u8)), .val (.data (.int .u8))] [.val (.data .bool)]) := by kernel_rfl
theorem law4_LedgerDrains_vc (k : Nat) : VC S (law4_LedgerDrains_T) byt (law4_LedgerDrains_L k) (law4_LedgerDrains_L (k + 1)) (ac [] Try.f10) (retK S (law4_LedgerDrains_T) Try.f10 [.val (.data (.int .u8)), .val (.data (.int .u8))] [.val (.data .bool)]) = [∀ x : Int × Int × (List Int × List Int) × Int, law4_LedgerDrains_l0 (k + 1) x.1 x.2.1 x.2.2.1.1 x.2.2.1.2 x.2.2.2 = law4_LedgerDrains_l0 (k + 1) x.1 x.2.1 x.2.2.1.1 x.2.2.1.2 x.2.2.2, ∀ x : Int × (List Int × List Int) × Int × Int, law4_LedgerDrains_l1 (k + 1) x.1 x.2.1.1 x.2.1.2 x.2.2.1 x.2.2.2 = law4_LedgerDrains_l1 (k + 1) x.1 x.2.1.1 x.2.1.2 x.2.2.1 x.2.2.2] := by kernel_rfl
theorem law4_LedgerDrains_sndk (k : Nat) : Snd Try.prog S ⟨10, [.val (.data (.int .u8)), .val (.data (.int .u8))], [.val (.data .bool)], fun x => law4_LedgerDrains_f k x.1 x.2⟩ :=
  fn_ok progOk (T := (law4_LedgerDrains_T)) (all_cons ledger_New_snd (all_cons ledger_Ledger_Has_snd (all_cons ledger_Ledger_Take_snd (all_cons ledger_Ledger_Give_snd (all_cons ledger_Ledger_Free_snd (all_cons ledger_Ledger_Reset_1_snd (all_cons law4_known_snd (all_nil)))))))) (all_nil) mixed Try.func10 rfl (by kernel_rfl) (ac_code [] Try.f10 rfl) (L := law4_LedgerDrains_L)
    (fun n l h x => by match n, h with
        | 0, h => 
          rcases List.mem_cons.1 h with rfl | h
          · rfl
          cases h
        | 1, h => cases h
        | 2, h => 
          rcases List.mem_cons.1 h with rfl | h
          · rfl
          cases h
        | _ + 3, h => cases h) (fun k n l h => by match n, h with
        | 0, h => 
          rcases List.mem_cons.1 h with rfl | h
          · rfl
          cases h
        | 1, h => cases h
        | 2, h => 
          rcases List.mem_cons.1 h with rfl | h
          · rfl
          cases h
        | _ + 3, h => cases h)
    (fun k => All.mem (law4_LedgerDrains_vc k) ⟨fun _ => rfl, ⟨fun _ => rfl, trivial⟩⟩) (fun x r h => ⟨k, (law4_LedgerDrains_eq k x.1 x.2).symm.trans h⟩) (by kernel_rfl) (by kernel_rfl) (Nat.le_of_ble_eq_true (by kernel_rfl))
theorem law4_LedgerDrains_snd : Snd Try.prog S ⟨10, [.val (.data (.int .u8)), .val (.data (.int .u8))], [.val (.data .bool)], fun x => law4_LedgerDrains x.1 x.2⟩ := Snd.lim law4_LedgerDrains_sndk
/-! ### 11 cotillion/cotillionlaw4.LedgerNone -/
noncomputable def law4_LedgerNone  (c : Int) (needs : List Int) : Option Bool := (ledger_Ledger_Reset () c).bind fun r1 =>
    (ledger_Ledger_Take_1 () c).bind fun r2 =>
    if r2 = 7 then
    (ledger_Ledger_Give_1 () c).bind fun r3 =>
    if r3 = 7 then
    if r1.1 = 0 then
    if r1.2 = 7 then
    (ledger_Ledger_Free_1 () c).bind fun r4 =>
    if r4 = 0 then
    (ledger_Ledger_Held_1 () c).bind fun r5 =>
    if r5 = 0 then
    (ledger_Ledger_Has_1 () needs).bind fun r6 =>
    bif !r6 then
    (law4_known).bind fun r7 =>
    some r7 else
    some false else
    some false else
    some false else
    some false else
    some false else
    some false else
    some false
noncomputable abbrev law4_LedgerNone_T : Tab S := ⟨[⟨40, [.nil, .val (.data (.int .i64))], [.val (.data (.int .i64)), .val (.data (.int .i64))], fun x => ledger_Ledger_Reset x.1 x.2⟩, ⟨34, [.nil, .val (.data (.int .i64))], [.val (.data (.int .i64))], fun x => ledger_Ledger_Take_1 x.1 x.2⟩, ⟨33, [.nil, .val (.data (.int .i64))], [.val (.data (.int .i64))], fun x => ledger_Ledger_Give_1 x.1 x.2⟩, ⟨35, [.nil, .val (.data (.int .i64))], [.val (.data (.int .i64))], fun x => ledger_Ledger_Free_1 x.1 x.2⟩, ⟨36, [.nil, .val (.data (.int .i64))], [.val (.data (.int .i64))], fun x => ledger_Ledger_Held_1 x.1 x.2⟩, ⟨44, [.nil, .val (.data (.sl (.int .i64)))], [.val (.data .bool)], fun x => ledger_Ledger_Has_1 x.1 x.2⟩, ⟨31, [], [.val (.data .bool)], fun x => law4_known⟩], [], false⟩
noncomputable def law4_LedgerNone_L (k : Nat) : Nat → List (Lab S Bool)
  | _ => []
theorem law4_LedgerNone_eq (k : Nat) (c : Int) (needs : List Int) : law4_LedgerNone c needs = exec S (law4_LedgerNone_T) byt (labs S (law4_LedgerNone_T) (law4_LedgerNone_L k)) (ac [] Try.f11) (frame0 S [.val (.data (.int .i64)), .val (.data (.sl (.int .i64)))] (c, needs)) (retK S (law4_LedgerNone_T) Try.f11 [.val (.data (.int .i64)), .val (.data (.sl (.int .i64)))] [.val (.data .bool)]) := by kernel_rfl
theorem law4_LedgerNone_vc (k : Nat) : VC S (law4_LedgerNone_T) byt (law4_LedgerNone_L k) (law4_LedgerNone_L (k + 1)) (ac [] Try.f11) (retK S (law4_LedgerNone_T) Try.f11 [.val (.data (.int .i64)), .val (.data (.sl (.int .i64)))] [.val (.data .bool)]) = [] := by kernel_rfl
theorem law4_LedgerNone_snd : Snd Try.prog S ⟨11, [.val (.data (.int .i64)), .val (.data (.sl (.int .i64)))], [.val (.data .bool)], fun x => law4_LedgerNone x.1 x.2⟩ :=
  fn_ok progOk (T := (law4_LedgerNone_T)) (all_cons ledger_Ledger_Reset_snd (all_cons ledger_Ledger_Take_1_snd (all_cons ledger_Ledger_Give_1_snd (all_cons ledger_Ledger_Free_1_snd (all_cons ledger_Ledger_Held_1_snd (all_cons ledger_Ledger_Has_1_snd (all_cons law4_known_snd (all_nil)))))))) (all_nil) mixed Try.func11 rfl (by kernel_rfl) (ac_code [] Try.f11 rfl) (L := law4_LedgerNone_L)
    (fun n l h x => by cases h) (fun k n l h => by cases h)
    (fun k => All.mem (law4_LedgerNone_vc k) trivial) (fun x r h => ⟨0, (law4_LedgerNone_eq 0 x.1 x.2).symm.trans h⟩) (by kernel_rfl) (by kernel_rfl) (Nat.le_of_ble_eq_true (by kernel_rfl))
end Go.Sy.Le
/-! Plain laws over ledger. -/
namespace Go.Sy.Le
open Go.Sy
abbrev Led := List Int × List Int
/-- A closed test. -/
def odd (n : Int) : Bool := decide (n < 1) || decide (32 < n)
theorem odd_eq (n : Int) : ledger_New_S1 n = some (odd n) := by
  unfold ledger_New_S1 odd
  by_cases h : n < 1
  · rw [if_pos h, decide_eq_true h]; rfl
  · rw [if_neg h, decide_eq_false h]; rfl
theorem IndexFunc_l (s : List Int) (p : Int → Bool) (f : Int → Option Bool) (hf : ∀ x, f x = some (p x)) (hl : s.length < 1000000000000) : ∀ m k n, n + m = s.length → m < k →
    ∃ r, slices_IndexFunc_int_int_l0 k s f (s.length : Int) (n : Int) = some r ∧ (0 ≤ r ↔ (s.drop n).any p = true) := by
  intro m
  induction m with
  | zero =>
    intro k n h hk
    obtain ⟨k, rfl⟩ : ∃ j, k = j + 1 := ⟨k - 1, by omega⟩
    simp only [slices_IndexFunc_int_int_l0]
    rw [if_neg (by omega), List.drop_eq_nil_of_le (by omega)]
    exact ⟨-1, rfl, by simp⟩
  | succ m ih =>
    intro k n h hk
    obtain ⟨k, rfl⟩ : ∃ j, k = j + 1 := ⟨k - 1, by omega⟩
    simp only [slices_IndexFunc_int_int_l0]
    have hlt : n < s.length := by omega
    rw [if_pos (by omega), if_pos (by omega), if_pos (by omega), w64_in (by omega) (by omega), List.drop_eq_getElem_cons hlt, Int.toNat_natCast, getD_lt _ hlt, hf, bind_some_eq, List.any_cons]
    cases hp : p s[n] with
    | true => exact ⟨n, rfl, by simp⟩
    | false =>
      simp only [cond_false, Bool.false_or]
      exact ih k (n + 1) (by omega) (by omega)
theorem ContainsFunc_eq (s : List Int) (p : Int → Bool) (f : Int → Option Bool) (hf : ∀ x, f x = some (p x)) (hl : s.length < 1000000000000) : slices_ContainsFunc_int_int s f = some (s.any p) := by
  obtain ⟨r, h1, h2⟩ := IndexFunc_l s p f hf hl s.length (s.length + 1) 0 (by omega) (by omega)
  have : slices_IndexFunc_int_int s f = some r := by
    refine lim_eq (s.length + 1) fun k hk => ?_
    obtain ⟨r', g1, g2⟩ := IndexFunc_l s p f hf hl s.length k 0 (by omega) (by omega)
    have mono : ∀ m n j k, n + m = s.length → m < j → m < k → slices_IndexFunc_int_int_l0 j s f (s.length : Int) (n : Int) = slices_IndexFunc_int_int_l0 k s f (s.length : Int) (n : Int) := by
      intro m
      induction m with
      | zero =>
        intro n j k h1 h2 h3
        obtain ⟨j, rfl⟩ : ∃ i, j = i + 1 := ⟨j - 1, by omega⟩
        obtain ⟨k, rfl⟩ : ∃ i, k = i + 1 := ⟨k - 1, by omega⟩
        simp only [slices_IndexFunc_int_int_l0]
        rw [if_neg (by omega), if_neg (by omega)]
      | succ m ih =>
        intro n j k h1 h2 h3
        obtain ⟨j, rfl⟩ : ∃ i, j = i + 1 := ⟨j - 1, by omega⟩
        obtain ⟨k, rfl⟩ : ∃ i, k = i + 1 := ⟨k - 1, by omega⟩
        simp only [slices_IndexFunc_int_int_l0]
        rw [w64_in (n := (n : Int) + 1) (by omega) (by omega)]
        have := ih (n + 1) j k (by omega) (by omega) (by omega)
        rw [show ((n + 1 : Nat) : Int) = (n : Int) + 1 from by omega] at this
        rw [this]
    show slices_IndexFunc_int_int_l0 k s f (s.length : Int) 0 = some r
    rw [← h1]
    exact mono s.length 0 k (s.length + 1) (by omega) (by omega) (by omega)
  unfold slices_ContainsFunc_int_int
  rw [this, bind_some_eq]
  rw [List.drop_zero] at h2
  congr 1
  rw [Bool.eq_iff_iff]
  simp [h2]
theorem Clone_eq (s : List Int) (hl : s.length < 1000000000000) : slices_Clone_int_int s = some s := by
  unfold slices_Clone_int_int
  have h1 : (([] : List Int).length + s.length) * 8 ≤ 140737488355328 := by simp; omega
  rw [if_pos h1, List.nil_append]
  split
  · rename_i h
    have : s = [] := List.length_eq_zero_iff.1 h
    subst this
    unfold agree
    rw [if_pos rfl]
  · rfl
def valid (caps : List Int) : Bool := decide (caps.length ≤ 24) && !caps.any odd
theorem New_eq (caps : List Int) : ledger_New caps = some (if valid caps then (some (caps, caps), 0) else (none, 1)) := by
  unfold ledger_New valid
  by_cases h : caps.length ≤ 24
  · rw [if_neg (by omega), ContainsFunc_eq caps odd _ odd_eq (by omega), bind_some_eq, Clone_eq caps (by omega)]
    simp only [bind_some_eq, h, decide_true, Bool.true_and]
    cases caps.any odd <;> rfl
  · rw [if_pos (by omega)]
    simp [h]
theorem any_odd {caps : List Int} (h : caps.any odd = false) (i : Nat) (hi : i < caps.length) : 1 ≤ caps.getD i 0 ∧ caps.getD i 0 ≤ 32 := by
  rw [getD_lt _ hi]
  have := List.any_eq_false.1 h _ (List.getElem_mem hi)
  simp [odd] at this
  omega
/-- A ledger as it always is. -/
structure Ok (l : Led) : Prop where
  len : l.2.length = l.1.length
  short : l.1.length ≤ 24
  cap : ∀ i : Nat, i < l.1.length → 1 ≤ l.1.getD i 0 ∧ l.1.getD i 0 ≤ 32
  free : ∀ i : Nat, i < l.1.length → 0 ≤ l.2.getD i 0 ∧ l.2.getD i 0 ≤ l.1.getD i 0
theorem Ok.new {caps : List Int} (h : valid caps = true) : Ok (caps, caps) := by
  unfold valid at h
  rw [Bool.and_eq_true] at h
  have h1 := of_decide_eq_true h.1
  have h2 : caps.any odd = false := by simpa using h.2
  exact ⟨rfl, h1, any_odd h2, fun i hi => ⟨by have := any_odd h2 i hi; dsimp only; omega, Int.le_refl _⟩⟩
/-- Is there such a channel? -/
def In (l : Led) (c : Int) : Prop := 0 ≤ c ∧ c < (l.1.length : Int)
instance (l : Led) (c : Int) : Decidable (In l c) := inferInstanceAs (Decidable (0 ≤ c ∧ c < (l.1.length : Int)))
theorem is_eq (l : Led) (c : Int) : ledger_Ledger_is l c = some (decide (In l c), l) := by
  unfold ledger_Ledger_is
  by_cases h : 0 ≤ c
  · rw [if_pos h]
    by_cases h' : c < (l.1.length : Int)
    · rw [decide_eq_true h', decide_eq_true (show In l c from ⟨h, h'⟩)]
    · rw [decide_eq_false h', decide_eq_false (show ¬ In l c from fun q => h' q.2)]
  · rw [if_neg h, decide_eq_false (show ¬ In l c from fun q => h q.1)]
def freeI (l : Led) (c : Int) : Int := if In l c then l.2.getD c.toNat 0 else 0
def heldI (l : Led) (c : Int) : Int := if In l c then l.1.getD c.toNat 0 - l.2.getD c.toNat 0 else 0
theorem Free_eq {l : Led} (h : Ok l) (c : Int) : ledger_Ledger_Free l c = some (freeI l c, l) := by
  unfold ledger_Ledger_Free freeI
  obtain ⟨u, f⟩ := l
  rw [is_eq, bind_some_eq]
  by_cases hc : In (u, f) c
  · have h1 := hc.1; have h2 := hc.2; have h3 := h.len
    dsimp only at h2 h3
    simp only [hc, decide_true, Bool.not_true, cond_false, if_true]
    rw [if_pos (show 0 ≤ c from h1), if_pos (show c < (f.length : Int) by omega)]
  · simp [hc]
theorem Held_eq {l : Led} (h : Ok l) (c : Int) : ledger_Ledger_Held l c = some (heldI l c, l) := by
  unfold ledger_Ledger_Held heldI
  obtain ⟨u, f⟩ := l
  rw [is_eq, bind_some_eq]
  by_cases hc : In (u, f) c
  · have h1 := hc.1; have h2 := hc.2; have h3 := h.len
    dsimp only at h2 h3
    have h4 := h.cap c.toNat (by show c.toNat < u.length; omega); have h5 := h.free c.toNat (by show c.toNat < u.length; omega)
    dsimp only at h4 h5
    simp only [hc, decide_true, Bool.not_true, cond_false, if_true]
    rw [if_pos h1, if_pos h2, if_pos h1, if_pos (by omega), w64_in (by omega) (by omega)]
  · simp [hc]
def takeC (l : Led) (c : Int) : Int := if In l c then (if freeI l c = 0 then 6 else 0) else 7
def takeL (l : Led) (c : Int) : Led := if In l c ∧ freeI l c ≠ 0 then (l.1, l.2.set c.toNat (freeI l c - 1)) else l
theorem Take_eq {l : Led} (h : Ok l) (c : Int) : ledger_Ledger_Take l c = some (takeC l c, takeL l c) := by
  unfold ledger_Ledger_Take takeC takeL
  obtain ⟨u, f⟩ := l
  rw [is_eq, bind_some_eq]
  by_cases hc : In (u, f) c
  · have h1 := hc.1; have h2 := hc.2; have h3 := h.len
    dsimp only at h2 h3
    have h4 := h.cap c.toNat (by show c.toNat < u.length; omega); have h5 := h.free c.toNat (by show c.toNat < u.length; omega)
    dsimp only at h4 h5
    have hf : freeI (u, f) c = f.getD c.toNat 0 := by unfold freeI; rw [if_pos hc]
    have h6 : c < (f.length : Int) := by omega
    rw [hf]
    simp only [hc, decide_true, Bool.not_true, cond_false, if_true, h1, h6, true_and]
    by_cases h0 : f.getD c.toNat 0 = 0
    · rw [if_pos h0, if_pos h0, if_neg (fun q => q h0)]
    · rw [if_neg h0, if_neg h0, if_pos h0, w64_in (by omega) (by omega)]
  · simp [hc]
def giveC (l : Led) (c : Int) : Int := if In l c then (if heldI l c = 0 then 9 else 0) else 7
def giveL (l : Led) (c : Int) : Led := if In l c ∧ heldI l c ≠ 0 then (l.1, l.2.set c.toNat (freeI l c + 1)) else l
theorem Give_eq {l : Led} (h : Ok l) (c : Int) : ledger_Ledger_Give l c = some (giveC l c, giveL l c) := by
  unfold ledger_Ledger_Give giveC giveL
  obtain ⟨u, f⟩ := l
  rw [is_eq, bind_some_eq]
  by_cases hc : In (u, f) c
  · have h1 := hc.1; have h2 := hc.2; have h3 := h.len
    dsimp only at h2 h3
    have h4 := h.cap c.toNat (by show c.toNat < u.length; omega); have h5 := h.free c.toNat (by show c.toNat < u.length; omega)
    dsimp only at h4 h5
    have hf : freeI (u, f) c = f.getD c.toNat 0 := by unfold freeI; rw [if_pos hc]
    have h6 : c < (f.length : Int) := by omega
    simp only [hc, decide_true, Bool.not_true, cond_false, if_true, true_and]
    rw [Held_eq h, bind_some_eq, hf]
    simp only [h1, h6, if_true]
    by_cases h0 : heldI (u, f) c = 0
    · rw [if_pos h0, if_pos h0, if_neg (by simp [h0])]
    · rw [if_neg h0, if_neg h0, if_pos h0, w64_in (by omega) (by omega)]
  · simp [hc]
def resetC (l : Led) (c : Int) : Int := if In l c then 0 else 7
def resetL (l : Led) (c : Int) : Led := if In l c then (l.1, l.2.set c.toNat (l.1.getD c.toNat 0)) else l
theorem Reset_eq {l : Led} (h : Ok l) (c : Int) : ledger_Ledger_Reset_1 l c = some (heldI l c, resetC l c, resetL l c) := by
  unfold ledger_Ledger_Reset_1 resetC resetL
  obtain ⟨u, f⟩ := l
  rw [is_eq, bind_some_eq]
  by_cases hc : In (u, f) c
  · have h1 := hc.1; have h2 := hc.2; have h3 := h.len
    dsimp only at h2 h3
    have h6 : c < (f.length : Int) := by omega
    simp only [hc, decide_true, Bool.not_true, cond_false, if_true]
    rw [Held_eq h, bind_some_eq]
    simp only [h1, h2, h6, if_true]
  · simp [hc, heldI]
theorem Ok.set {l : Led} (h : Ok l) (c : Nat) (x : Int) (hx : c < l.1.length → 0 ≤ x ∧ x ≤ l.1.getD c 0) : Ok (l.1, l.2.set c x) := by
  refine ⟨by simp [h.len], h.short, h.cap, fun i hi => ?_⟩
  have h3 := h.len
  dsimp only at hi ⊢
  rw [getD_lt (l := l.2.set c x) 0 (by simp; omega), List.getElem_set]
  split
  · rename_i e; subst e; exact hx hi
  · rw [← getD_lt (l := l.2) 0 (by omega)]; exact h.free i hi
theorem Ok.take {l : Led} (h : Ok l) (c : Int) : Ok (takeL l c) := by
  unfold takeL
  split
  · rename_i hc
    have h1 := hc.1.1; have h2 := hc.1.2
    have h5 := h.free c.toNat (by omega)
    have hf : freeI l c = l.2.getD c.toNat 0 := by unfold freeI; rw [if_pos hc.1]
    exact h.set _ _ fun _ => by have := hc.2; omega
  · exact h
theorem Ok.give {l : Led} (h : Ok l) (c : Int) : Ok (giveL l c) := by
  unfold giveL
  split
  · rename_i hc
    have h1 := hc.1.1; have h2 := hc.1.2
    have h5 := h.free c.toNat (by omega)
    have hf : freeI l c = l.2.getD c.toNat 0 := by unfold freeI; rw [if_pos hc.1]
    have hh : heldI l c = l.1.getD c.toNat 0 - l.2.getD c.toNat 0 := by unfold heldI; rw [if_pos hc.1]
    exact h.set _ _ fun _ => by have := hc.2; omega
  · exact h
theorem Ok.reset {l : Led} (h : Ok l) (c : Int) : Ok (resetL l c) := by
  unfold resetL
  split
  · rename_i hc
    have h1 := hc.1; have h2 := hc.2
    have h5 := h.cap c.toNat (by omega)
    exact h.set _ _ fun _ => by omega
  · exact h
theorem takeL_caps (l : Led) (c : Int) : (takeL l c).1 = l.1 := by unfold takeL; split <;> rfl
theorem giveL_caps (l : Led) (c : Int) : (giveL l c).1 = l.1 := by unfold giveL; split <;> rfl
theorem resetL_caps (l : Led) (c : Int) : (resetL l c).1 = l.1 := by unfold resetL; split <;> rfl
def hasB (l : Led) (needs : List Int) (n : Nat) : Bool := !(decide (freeI l n < needs.getD n 0) && decide (0 < needs.getD n 0))
theorem Has_l {l : Led} (h : Ok l) (needs : List Int) (hl : needs.length < 1000000000000) : ∀ m k n, n + m = needs.length → m < k →
    ledger_Ledger_Has_l0 k l.1 l.2 needs (needs.length : Int) (n : Int) = some ((List.range' n m).all (hasB l needs), l) := by
  intro m
  induction m with
  | zero =>
    intro k n h hk
    obtain ⟨k, rfl⟩ : ∃ j, k = j + 1 := ⟨k - 1, by omega⟩
    simp only [ledger_Ledger_Has_l0]
    rw [if_neg (by omega)]; rfl
  | succ m ih =>
    intro k n hn hk
    obtain ⟨k, rfl⟩ : ∃ j, k = j + 1 := ⟨k - 1, by omega⟩
    simp only [ledger_Ledger_Has_l0]
    have ih := ih k (n + 1) (by omega) (by omega)
    rw [show ((n + 1 : Nat) : Int) = (n : Int) + 1 from by omega] at ih
    rw [if_pos (by omega), if_pos (by omega), if_pos (by omega), Free_eq (l := (l.1, l.2)) h, bind_some_eq, w64_in (by omega) (by omega), ih, List.range'_succ, List.all_cons, Int.toNat_natCast]
    show (if freeI l n < needs.getD n 0 then _ else _) = _
    have e : hasB l needs n = !(decide (freeI l n < needs.getD n 0) && decide (0 < needs.getD n 0)) := rfl
    rw [e]
    by_cases h1 : freeI l n < needs.getD n 0
    · rw [if_pos h1, decide_eq_true h1]
      by_cases h2 : 0 < needs.getD n 0
      · rw [if_pos h2, decide_eq_true h2]; rfl
      · rw [if_neg h2, decide_eq_false h2]; rfl
    · rw [if_neg h1, decide_eq_false h1]; rfl
def hasI (l : Led) (needs : List Int) : Bool := (List.range' 0 needs.length).all (hasB l needs)
theorem Has_eq {l : Led} (h : Ok l) (needs : List Int) (hl : needs.length < 1000000000000) : ledger_Ledger_Has l needs = some (hasI l needs, l) :=
  lim_eq (needs.length + 1) fun k hk => Has_l h needs hl needs.length k 0 (by omega) (by omega)
theorem known_eq : law4_known = some true := by
  unfold law4_known
  have hv : valid [2, 1] = true := by decide
  have k0 := Ok.new hv
  rw [New_eq, hv, if_pos rfl, bind_some_eq]
  dsimp only
  rw [if_neg (by decide), Take_eq k0, bind_some_eq]
  have k1 := k0.take 0
  have e1 : takeL ([2, 1], [2, 1]) 0 = ([2, 1], [1, 1]) := by decide
  rw [e1] at k1 ⊢
  have k2 := k1.give 1
  have e2 : giveL ([2, 1], [1, 1]) 1 = ([2, 1], [1, 1]) := by decide
  rw [e2] at k2
  dsimp only
  rw [if_pos (by decide), Has_eq k1 _ (by simp), bind_some_eq]
  dsimp only
  rw [show hasI ([2, 1], [1, 1]) [1, 1] = true from by decide, cond_true, Has_eq k1 _ (by simp), bind_some_eq]
  dsimp only
  rw [show hasI ([2, 1], [1, 1]) [2] = false from by decide, Bool.not_false, cond_true, Give_eq k1, bind_some_eq, e2]
  dsimp only
  rw [if_pos (by decide), Free_eq k1, bind_some_eq]
  dsimp only
  rw [if_pos (by decide), Held_eq k1, bind_some_eq]
  decide
end Go.Sy.Le
/-! Plain laws over ledger: the statements. -/
namespace Go.Sy.Le
open Go.Sy
theorem None_true (c : Int) (needs : List Int) : law4_LedgerNone c needs = some true := by
  unfold law4_LedgerNone
  simp [ledger_Ledger_Reset, ledger_Ledger_is_1, ledger_Ledger_Take_1, ledger_Ledger_Give_1, ledger_Ledger_Free_1, ledger_Ledger_Held_1, ledger_Ledger_Has_1, known_eq, bind_some_eq]
theorem Sums_l12 {m : List Int} (l : List law4_Step) (hl : l.length ≤ 200) : ∀ q k n, n + q = l.length → q * 40 + 1 ≤ k → ∀ a : Led, Ok a → a.1 = m → law4_LedgerSums_l1 k l m a.1 a.2 (n : Int) = some true := by
  have inner : ∀ (a : Led), Ok a → a.1 = m → ∀ p k j (n : Nat), j + p = m.length → p < k → (∃ k', k' + p + 1 = k ∧ law4_LedgerSums_l1 k' l m a.1 a.2 (w64 ((n : Int) + 1)) = some true) → law4_LedgerSums_l2 k l m a.1 a.2 (n : Int) (j : Int) = some true := by
    intro a ha hm p
    have hlen := ha.len
    have hsh := ha.short
    induction p with
    | zero =>
      intro k j n hj hk ⟨k', hk', hr⟩
      obtain ⟨k, rfl⟩ : ∃ i, k = i + 1 := ⟨k - 1, by omega⟩
      simp only [law4_LedgerSums_l2]
      obtain rfl : k' = k := by omega
      rw [if_neg (by omega), hr]
    | succ p ih =>
      intro k j n hj hk ⟨k', hk', hr⟩
      obtain ⟨k, rfl⟩ : ∃ i, k = i + 1 := ⟨k - 1, by omega⟩
      simp only [law4_LedgerSums_l2]
      have hin : In a (j : Int) := ⟨by omega, by rw [hm]; omega⟩
      have hc := ha.cap j (by rw [hm]; omega)
      have hf := ha.free j (by rw [hm]; omega)
      have e1 : freeI a (j : Int) = a.2.getD j 0 := by unfold freeI; rw [if_pos hin]; rfl
      have e2 : heldI a (j : Int) = a.1.getD j 0 - a.2.getD j 0 := by unfold heldI; rw [if_pos hin]; rfl
      have he : ((a.1, a.2) : Led) = a := rfl
      rw [if_pos (by omega), Free_eq (l := (a.1, a.2)) ha, bind_some_eq]
      dsimp only
      rw [he, e1, if_neg (by omega), Held_eq ha, bind_some_eq]
      dsimp only
      rw [e2, if_neg (by omega), Free_eq ha, bind_some_eq]
      dsimp only
      rw [Held_eq ha, bind_some_eq]
      dsimp only
      rw [e1, e2, if_pos (by omega), if_pos (by omega), w64_in (n := a.2.getD j 0 + (a.1.getD j 0 - a.2.getD j 0)) (by omega) (by omega), Int.toNat_natCast, if_neg (by rw [hm]; omega), w64_in (n := (j : Int) + 1) (by rw [hm] at hsh; omega) (by rw [hm] at hsh; omega)]
      exact ih k (j + 1) n (by omega) (by omega) ⟨k', by omega, hr⟩
  intro q
  induction q with
  | zero =>
    intro k n h hk a ha hm
    obtain ⟨k, rfl⟩ : ∃ i, k = i + 1 := ⟨k - 1, by omega⟩
    simp only [law4_LedgerSums_l1]
    rw [if_neg (by omega), known_eq]; rfl
  | succ q ih =>
    intro k n h hk a ha hm
    obtain ⟨k, rfl⟩ : ∃ i, k = i + 1 := ⟨k - 1, by omega⟩
    simp only [law4_LedgerSums_l1]
    have hn : (n : Int) < (l.length : Int) := by omega
    have hn0 : (0 : Int) ≤ n := by omega
    have hsh := ha.short
    rw [hm] at hsh
    simp only [hn, hn0, if_true, show ¬ (3 : Int) = 0 by decide, not_false_eq_true]
    have next : ∀ b : Led, Ok b → b.1 = m → law4_LedgerSums_l2 k l m b.1 b.2 (n : Int) 0 = some true := by
      intro b hb hbm
      refine inner b hb hbm m.length k 0 n (by omega) (by omega) ⟨k - m.length - 1, by omega, ?_⟩
      rw [w64_in (by omega) (by omega)]
      exact ih (k - m.length - 1) (n + 1) (by omega) (by omega) b hb hbm
    split
    · rw [Give_eq (l := (a.1, a.2)) ha, bind_some_eq]
      exact next _ (ha.give _) ((giveL_caps _ _).trans hm)
    · rw [Take_eq (l := (a.1, a.2)) ha, bind_some_eq]
      exact next _ (ha.take _) ((takeL_caps _ _).trans hm)
def capM (x : Int) : Int := 1 + x % 32
theorem Sums_l0 (caps : List Int) (hc : ∀ x ∈ caps, 0 ≤ x ∧ x < 256) (hcl : caps.length ≤ 24) (l : List law4_Step) (hl : l.length ≤ 200) : ∀ q k n, n + q = caps.length → q + 9000 ≤ k →
    law4_LedgerSums_l0 k caps l ((caps.take n).map capM) (n : Int) = some true := by
  intro q
  induction q with
  | zero =>
    intro k n h hk
    obtain ⟨k, rfl⟩ : ∃ i, k = i + 1 := ⟨k - 1, by omega⟩
    simp only [law4_LedgerSums_l0]
    rw [if_neg (by omega), List.take_of_length_le (by omega), New_eq, bind_some_eq]
    have hv : valid (caps.map capM) = true := by
      unfold valid
      rw [Bool.and_eq_true]
      refine ⟨decide_eq_true (by simpa using hcl), ?_⟩
      rw [Bool.not_eq_true', List.any_eq_false]
      intro x hx
      obtain ⟨y, hy, rfl⟩ := List.mem_map.1 hx
      have := hc y hy
      unfold odd capM
      rw [decide_eq_false (by omega), decide_eq_false (by omega)]
      decide
    rw [hv, if_pos rfl]
    dsimp only
    rw [if_neg (by decide)]
    exact Sums_l12 l hl l.length k 0 (by omega) (by omega) (caps.map capM, caps.map capM) (Ok.new hv) rfl
  | succ q ih =>
    intro k n h hk
    obtain ⟨k, rfl⟩ : ∃ i, k = i + 1 := ⟨k - 1, by omega⟩
    simp only [law4_LedgerSums_l0]
    have hlt : n < caps.length := by omega
    have hx := hc caps[n] (List.getElem_mem _)
    rw [if_pos (by omega), if_pos (by omega), if_pos (by omega), if_pos (by decide), if_pos (by simp; omega), Int.toNat_natCast, getD_lt _ hlt, w64_in (n := caps[n]) (by omega) (by omega), Int.tmod_eq_emod_of_nonneg hx.1, w64_in (n := 1 + caps[n] % 32) (by omega) (by omega), w64_in (n := (n : Int) + 1) (by omega) (by omega)]
    have := ih k (n + 1) (by omega) (by omega)
    rw [List.take_succ_eq_append_getElem hlt, List.map_append] at this
    exact this
theorem Sums_true (caps : List Int) (l : List law4_Step) (hc : ∀ x ∈ caps, 0 ≤ x ∧ x < 256) : law4_LedgerSums caps l = some true := by
  refine lim_eq 9100 fun k hk => ?_
  show law4_LedgerSums_f k caps l = some true
  unfold law4_LedgerSums_f
  rw [known_eq]
  split
  · rfl
  · split
    · rfl
    · exact Sums_l0 caps hc (by omega) l (by omega) caps.length k 0 (by omega) (by omega)
theorem Caps_c (k : Nat) (caps : List Int) : law4_LedgerCaps_c0 (k + 1) caps (valid caps) = some true := by
  simp only [law4_LedgerCaps_c0]
  rw [New_eq, bind_some_eq, known_eq]
  cases valid caps <;> simp [bind_some_eq]
theorem Caps_mid {caps : List Int} (k : Nat) (hk : 1 < k) (n v c : Int) (hn : 0 ≤ n ∧ n < 40) (hlen : (caps.length : Int) = n) (hcap : ∀ x ∈ caps, 1 ≤ x ∧ x ≤ 32) (hv : 0 ≤ v ∧ v < 256) : law4_LedgerCaps_l0 k v c n caps n = some true := by
  obtain ⟨k, rfl⟩ : ∃ i, k = i + 2 := ⟨k - 2, by omega⟩
  simp only [law4_LedgerCaps_l0]
  rw [if_neg (by omega)]
  have hodd : ∀ x ∈ caps, odd x = false := fun x hx => by
    have := hcap x hx
    unfold odd
    rw [decide_eq_false (by omega), decide_eq_false (by omega)]
    decide
  by_cases h0 : 0 < n
  · have hvn : 0 ≤ v.tmod n ∧ v.tmod n < n := by
      rw [Int.tmod_eq_emod_of_nonneg hv.1]
      exact ⟨Int.emod_nonneg _ (by omega), Int.emod_lt_of_pos _ h0⟩
    rw [w64_in (n := v) (by omega) (by omega), if_pos h0, if_pos (by omega), if_pos hvn.1, if_pos (by omega)]
    have hval : valid (caps.set (v.tmod n).toNat c) = (decide (n ≤ 24) && (decide (1 ≤ c) && decide (c ≤ 32))) := by
      unfold valid
      have hl : (caps.set (v.tmod n).toNat c).length = caps.length := by simp
      rw [hl]
      have : (caps.set (v.tmod n).toNat c).any odd = odd c := by
        rw [Bool.eq_iff_iff, List.any_eq_true]
        constructor
        · rintro ⟨x, hx, ho⟩
          rcases List.mem_or_eq_of_mem_set hx with h | h
          · rw [hodd x h] at ho; cases ho
          · rw [← h]; exact ho
        · intro ho
          refine ⟨c, ?_, ho⟩
          exact List.mem_set (by omega) c
      rw [this]
      have e1 : decide (caps.length ≤ 24) = decide (n ≤ 24) := by rw [decide_eq_decide]; omega
      rw [e1]
      congr 1
      unfold odd
      by_cases h1 : 1 ≤ c
      · rw [decide_eq_false (show ¬ c < 1 by omega), decide_eq_true h1]
        by_cases h2 : c ≤ 32
        · rw [decide_eq_false (show ¬ 32 < c by omega), decide_eq_true h2]; rfl
        · rw [decide_eq_true (show 32 < c by omega), decide_eq_false h2]; rfl
      · rw [decide_eq_true (show c < 1 by omega), decide_eq_false h1]; rfl
    have fin := Caps_c k (caps.set (v.tmod n).toNat c)
    rw [hval] at fin
    by_cases h1 : n ≤ 24
    · rw [if_pos h1]
      rw [decide_eq_true h1] at fin
      by_cases h2 : 1 ≤ c
      · rw [if_pos h2]
        rw [decide_eq_true h2] at fin
        exact fin
      · rw [if_neg h2]
        rw [decide_eq_false h2] at fin
        exact fin
    · rw [if_neg h1]
      rw [decide_eq_false h1] at fin
      exact fin
  · rw [if_neg h0]
    have hc : caps = [] := List.length_eq_zero_iff.1 (by omega)
    subst hc
    have hn0 : n = 0 := by omega
    subst hn0
    exact Caps_c k []
theorem Caps_l (v c n : Int) (hn : 0 ≤ n ∧ n < 40) (hv : 0 ≤ v ∧ v < 256) : ∀ (q k i : Nat), (i : Int) + q = n → q + 1 < k → ∀ caps : List Int, (caps.length : Int) = n → (∀ j (h : j < caps.length), j < i → 1 ≤ caps[j] ∧ caps[j] ≤ 32) → law4_LedgerCaps_l0 k v c n caps (i : Int) = some true := by
  intro q
  induction q with
  | zero =>
    intro k i h hk caps hl hc
    have : (i : Int) = n := by omega
    rw [this]
    refine Caps_mid k (by omega) n v c hn hl (fun x hx => ?_) hv
    obtain ⟨j, hj, rfl⟩ := List.mem_iff_getElem.1 hx
    exact hc j hj (by omega)
  | succ q ih =>
    intro k i h hk caps hl hc
    obtain ⟨k, rfl⟩ : ∃ j, k = j + 1 := ⟨k - 1, by omega⟩
    simp only [law4_LedgerCaps_l0]
    rw [if_pos (by omega), if_pos (by decide), if_pos (by omega), if_pos (by omega), Int.tmod_eq_emod_of_nonneg (by omega), w64_in (n := 1 + (i : Int) % 32) (by omega) (by omega), w64_in (n := (i : Int) + 1) (by omega) (by omega), Int.toNat_natCast]
    refine ih k (i + 1) (by omega) (by omega) _ (by simpa using hl) fun j hj hlt => ?_
    rw [List.getElem_set]
    split
    · omega
    · exact hc j (by simpa using hj) (by omega)
theorem Caps_true (n v c : Int) (hn : 0 ≤ n ∧ n < 256) (hv : 0 ≤ v ∧ v < 256) : law4_LedgerCaps n v c = some true := by
  refine lim_eq 50 fun k hk => ?_
  show law4_LedgerCaps_f k n v c = some true
  unfold law4_LedgerCaps_f
  rw [w64_in (n := n) (by omega) (by omega), Int.tmod_eq_emod_of_nonneg hn.1]
  rw [if_pos (by decide), if_pos (by omega), if_pos (by omega), if_pos (by omega)]
  refine Caps_l v c (n % 40) (by omega) hv (n % 40).toNat k 0 (by omega) (by omega) _ (by rw [List.length_replicate]; omega) fun j hj hlt => by omega
end Go.Sy.Le
/-! Plain laws over ledger: against the reference; drained. -/
namespace Go.Sy.Le
open Go.Sy
/-- The reference's state beside the ledger's. -/
structure Twin (a b : Led) : Prop where
  caps : b.1 = a.1
  len : b.2.length = a.1.length
  taken : ∀ i : Nat, i < a.1.length → b.2.getD i 0 = a.1.getD i 0 - a.2.getD i 0
theorem in_eq (l : Led) (c : Int) : ref4_Ledger_in l c = some (decide (In l c), l) := by
  unfold ref4_Ledger_in
  by_cases h : 0 ≤ c
  · rw [if_pos h]
    by_cases h' : c < (l.1.length : Int)
    · rw [decide_eq_true h', decide_eq_true (show In l c from ⟨h, h'⟩)]
    · rw [decide_eq_false h', decide_eq_false (show ¬ In l c from fun q => h' q.2)]
  · rw [if_neg h, decide_eq_false (show ¬ In l c from fun q => h q.1)]
theorem Twin.inn {a b : Led} (h : Twin a b) (c : Int) : In b c ↔ In a c := by unfold In; rw [h.caps]
theorem Twin.set {a b : Led} (h : Twin a b) (ha : Ok a) (c : Nat) (x y : Int) (hc : c < a.1.length) (hy : y = a.1.getD c 0 - x) : Twin (a.1, a.2.set c x) (b.1, b.2.set c y) := by
  refine ⟨h.caps, by simpa using h.len, fun i hi => ?_⟩
  have h3 := ha.len
  have h4 := h.len
  dsimp only at hi ⊢
  rw [getD_lt (l := b.2.set c y) 0 (by simp; omega), getD_lt (l := a.2.set c x) 0 (by simp; omega), List.getElem_set, List.getElem_set]
  split
  · rename_i e; subst e; exact hy
  · have := h.taken i hi
    rw [getD_lt (l := b.2) 0 (by omega), getD_lt (l := a.2) 0 (by omega)] at this
    exact this
theorem rFree {a b : Led} (ha : Ok a) (h : Twin a b) (c : Int) : ref4_Ledger_Free b c = some (freeI a c, b) := by
  obtain ⟨u, f⟩ := b
  have h1 := h.caps; dsimp only at h1; subst h1
  unfold ref4_Ledger_Free freeI
  rw [in_eq, bind_some_eq]
  by_cases hc : In a c
  · have hb := (h.inn c).2 hc
    have h1 := hc.1; have h2 := hc.2; have h3 := h.len; have h6 := ha.len
    have h4 := ha.cap c.toNat (by omega); have h5 := ha.free c.toNat (by omega); have h7 := h.taken c.toNat (by omega)
    dsimp only at h3 h7
    simp only [hb, hc, decide_true, Bool.not_true, cond_false, if_true]
    rw [if_pos h1, if_pos h2, if_pos h1, if_pos (by omega), w64_in (by omega) (by omega)]
    congr 2; omega
  · have hb := mt (h.inn c).1 hc
    simp [hc, hb]
theorem rHeld {a b : Led} (ha : Ok a) (h : Twin a b) (c : Int) : ref4_Ledger_Held b c = some (heldI a c, b) := by
  obtain ⟨u, f⟩ := b
  have h1 := h.caps; dsimp only at h1; subst h1
  unfold ref4_Ledger_Held heldI
  rw [in_eq, bind_some_eq]
  by_cases hc : In a c
  · have hb := (h.inn c).2 hc
    have h1 := hc.1; have h2 := hc.2; have h3 := h.len; have h7 := h.taken c.toNat (by omega)
    dsimp only at h3 h7
    simp only [hb, hc, decide_true, Bool.not_true, cond_false, if_true]
    rw [if_pos h1, if_pos (by omega), h7]
  · have hb := mt (h.inn c).1 hc
    simp [hc, hb]
theorem rTake {a b : Led} (ha : Ok a) (h : Twin a b) (c : Int) : ∃ b', ref4_Ledger_Take b c = some (takeC a c, b') ∧ Twin (takeL a c) b' := by
  obtain ⟨u, f⟩ := b
  have h1 := h.caps; dsimp only at h1; subst h1
  unfold ref4_Ledger_Take takeC takeL
  rw [in_eq, bind_some_eq]
  by_cases hc : In a c
  · have hb := (h.inn c).2 hc
    have h1 := hc.1; have h2 := hc.2; have h3 := h.len; have h7 := h.taken c.toNat (by omega)
    have h4 := ha.cap c.toNat (by omega); have h5 := ha.free c.toNat (by omega)
    dsimp only at h3 h7
    have hf : freeI a c = a.2.getD c.toNat 0 := by unfold freeI; rw [if_pos hc]
    simp only [hb, hc, decide_true, Bool.not_true, cond_false, if_true, true_and, h1, h2, show c < (f.length : Int) by omega]
    by_cases h0 : freeI a c = 0
    · rw [if_pos (by omega), if_pos h0, if_neg (fun q => q h0)]
      exact ⟨_, rfl, h⟩
    · rw [if_neg (by omega), if_neg h0, if_pos h0, w64_in (by omega) (by omega)]
      exact ⟨_, rfl, h.set ha c.toNat _ _ (by omega) (by omega)⟩
  · have hb := mt (h.inn c).1 hc
    simp [hc, hb]
    exact h
theorem rGive {a b : Led} (ha : Ok a) (h : Twin a b) (c : Int) : ∃ b', ref4_Ledger_Give b c = some (giveC a c, b') ∧ Twin (giveL a c) b' := by
  obtain ⟨u, f⟩ := b
  have h1 := h.caps; dsimp only at h1; subst h1
  unfold ref4_Ledger_Give giveC giveL
  rw [in_eq, bind_some_eq]
  by_cases hc : In a c
  · have hb := (h.inn c).2 hc
    have h1 := hc.1; have h2 := hc.2; have h3 := h.len; have h7 := h.taken c.toNat (by omega)
    have h4 := ha.cap c.toNat (by omega); have h5 := ha.free c.toNat (by omega)
    dsimp only at h3 h7
    have hf : freeI a c = a.2.getD c.toNat 0 := by unfold freeI; rw [if_pos hc]
    have hh : heldI a c = a.1.getD c.toNat 0 - a.2.getD c.toNat 0 := by unfold heldI; rw [if_pos hc]
    simp only [hb, hc, decide_true, Bool.not_true, cond_false, if_true, true_and, h1, h2, show c < (f.length : Int) by omega]
    by_cases h0 : heldI a c = 0
    · rw [if_pos (by omega), if_pos h0, if_neg (fun q => q h0)]
      exact ⟨_, rfl, h⟩
    · rw [if_neg (by omega), if_neg h0, if_pos h0, w64_in (by omega) (by omega)]
      exact ⟨_, rfl, h.set ha c.toNat _ _ (by omega) (by omega)⟩
  · have hb := mt (h.inn c).1 hc
    simp [hc, hb]
    exact h
theorem rReset {a b : Led} (ha : Ok a) (h : Twin a b) (c : Int) : ∃ b', ref4_Ledger_Reset b c = some (heldI a c, resetC a c, b') ∧ Twin (resetL a c) b' := by
  obtain ⟨u, f⟩ := b
  have h1 := h.caps; dsimp only at h1; subst h1
  unfold ref4_Ledger_Reset resetC resetL
  rw [in_eq, bind_some_eq]
  by_cases hc : In a c
  · have hb := (h.inn c).2 hc
    have h1 := hc.1; have h2 := hc.2; have h3 := h.len; have h7 := h.taken c.toNat (by omega)
    dsimp only at h3 h7
    have hh : heldI a c = a.1.getD c.toNat 0 - a.2.getD c.toNat 0 := by unfold heldI; rw [if_pos hc]
    simp only [hb, hc, decide_true, Bool.not_true, cond_false, if_true, true_and, h1, h2, show c < (f.length : Int) by omega]
    exact ⟨_, by rw [h7, hh], h.set ha c.toNat _ _ (by omega) (by omega)⟩
  · have hb := mt (h.inn c).1 hc
    simp [hc, hb, heldI]
    exact h
theorem freeI_nn {a : Led} (ha : Ok a) (c : Int) : 0 ≤ freeI a c := by
  unfold freeI
  split
  · rename_i hc
    have h1 := hc.1; have h2 := hc.2
    exact (ha.free c.toNat (by omega)).1
  · decide
theorem rHas_l {a b : Led} (ha : Ok a) (h : Twin a b) (needs : List Int) (hl : needs.length < 1000000000000) : ∀ m k n, n + m = needs.length → m < k →
    ref4_Ledger_Has_l0 k b.1 b.2 needs (n : Int) = some ((List.range' n m).all (hasB a needs), b) := by
  intro m
  induction m with
  | zero =>
    intro k n h hk
    obtain ⟨k, rfl⟩ : ∃ j, k = j + 1 := ⟨k - 1, by omega⟩
    simp only [ref4_Ledger_Has_l0]
    rw [if_neg (by omega)]; rfl
  | succ m ih =>
    intro k n hn hk
    obtain ⟨k, rfl⟩ : ∃ j, k = j + 1 := ⟨k - 1, by omega⟩
    simp only [ref4_Ledger_Has_l0]
    have ih := ih k (n + 1) (by omega) (by omega)
    rw [show ((n + 1 : Nat) : Int) = (n : Int) + 1 from by omega] at ih
    rw [if_pos (by omega), rFree (b := (b.1, b.2)) ha h, bind_some_eq]
    dsimp only
    rw [if_pos (by omega), if_pos (by omega), w64_in (by omega) (by omega), ih, List.range'_succ, List.all_cons, Int.toNat_natCast]
    have e : hasB a needs n = !(decide (freeI a n < needs.getD n 0) && decide (0 < needs.getD n 0)) := rfl
    rw [e]
    have := freeI_nn ha n
    by_cases h1 : freeI a n < needs.getD n 0
    · rw [if_pos h1, decide_eq_true h1, decide_eq_true (show 0 < needs.getD n 0 by omega)]; rfl
    · rw [if_neg h1, decide_eq_false h1]; rfl
theorem rHas {a b : Led} (ha : Ok a) (h : Twin a b) (needs : List Int) (hl : needs.length < 1000000000000) : ref4_Ledger_Has b needs = some (hasI a needs, b) :=
  lim_eq (needs.length + 1) fun k hk => rHas_l ha h needs hl needs.length k 0 (by omega) (by omega)
theorem rNew_l (caps : List Int) (hs : caps.length ≤ 24) : ∀ m k n, n + m = caps.length → m < k →
    ref4_New_l0 k caps (n : Int) = some (if (caps.drop n).any odd then (none, 1) else (some (caps, List.replicate caps.length 0), 0)) := by
  intro m
  induction m with
  | zero =>
    intro k n h hk
    obtain ⟨k, rfl⟩ : ∃ j, k = j + 1 := ⟨k - 1, by omega⟩
    simp only [ref4_New_l0]
    rw [if_neg (by omega), List.drop_eq_nil_of_le (by omega), if_pos (by simp; omega), if_pos (by omega), if_pos (by omega), if_pos (by omega)]
    rfl
  | succ m ih =>
    intro k n hn hk
    obtain ⟨k, rfl⟩ : ∃ j, k = j + 1 := ⟨k - 1, by omega⟩
    simp only [ref4_New_l0]
    have hlt : n < caps.length := by omega
    have ih := ih k (n + 1) (by omega) (by omega)
    rw [show ((n + 1 : Nat) : Int) = (n : Int) + 1 from by omega] at ih
    simp only [show (n : Int) < (caps.length : Int) by omega, show (0 : Int) ≤ n by omega, if_true]
    rw [w64_in (n := (n : Int) + 1) (by omega) (by omega), ih, List.drop_eq_getElem_cons hlt, List.any_cons, Int.toNat_natCast, getD_lt _ hlt]
    unfold odd
    by_cases h1 : caps[n] < 1
    · rw [if_pos h1, decide_eq_true h1]; rfl
    · rw [if_neg h1, decide_eq_false h1]
      by_cases h2 : 32 < caps[n]
      · rw [if_pos h2, decide_eq_true h2]; rfl
      · rw [if_neg h2, decide_eq_false h2]; rfl
theorem rNew (caps : List Int) : ref4_New caps = some (if valid caps then (some (caps, List.replicate caps.length 0), 0) else (none, 1)) := by
  refine lim_eq 30 fun k hk => ?_
  show ref4_New_f k caps = _
  unfold ref4_New_f valid
  by_cases h : caps.length ≤ 24
  · rw [if_neg (by omega), decide_eq_true h]
    have := rNew_l caps h caps.length k 0 (by omega) (by omega)
    rw [List.drop_zero] at this
    rw [show ((0 : Nat) : Int) = 0 from rfl] at this
    rw [this]
    cases caps.any odd <;> rfl
  · rw [if_pos (by omega), decide_eq_false h]; rfl
theorem Twin.new (caps : List Int) : Twin (caps, caps) (caps, List.replicate caps.length 0) := by
  refine ⟨rfl, by simp, fun i hi => ?_⟩
  dsimp only at hi ⊢
  rw [getD_lt (l := List.replicate caps.length 0) 0 (by simpa using hi)]
  simp
theorem Plays_l (l : List law4_Step) (needs : List Int) (hl : l.length ≤ 200) (hn : needs.length ≤ 100) : ∀ q k n, n + q = l.length → 2 * q < k → ∀ a b : Led, Ok a → Twin a b →
    law4_LedgerPlays_l0d k l needs a.1 a.2 b.1 b.2 (n : Int) = some true := by
  intro q
  induction q with
  | zero =>
    intro k n h hk a b ha hab
    obtain ⟨k, rfl⟩ : ∃ j, k = j + 1 := ⟨k - 1, by omega⟩
    simp only [law4_LedgerPlays_l0d]
    rw [if_neg (by omega), known_eq]; rfl
  | succ q ih =>
    intro k n h hk a b ha hab
    obtain ⟨k, rfl⟩ : ∃ j, k = j + 2 := ⟨k - 2, by omega⟩
    have cut : ∀ a b : Led, Ok a → Twin a b → ∀ c, law4_LedgerPlays_c1b (k + 1) l needs a.1 a.2 b.1 b.2 (n : Int) c true = some true := by
      intro a b ha hab c
      simp only [law4_LedgerPlays_c1b]
      rw [Bool.not_true, cond_false, Free_eq (l := (a.1, a.2)) ha, bind_some_eq, rFree (b := (b.1, b.2)) ha hab, bind_some_eq]
      dsimp only
      rw [if_neg (fun q => q rfl), Held_eq (l := (a.1, a.2)) ha, bind_some_eq, rHeld (b := (b.1, b.2)) ha hab, bind_some_eq]
      dsimp only
      rw [if_neg (fun q => q rfl), Has_eq (l := (a.1, a.2)) ha needs (by omega), bind_some_eq, rHas (b := (b.1, b.2)) ha hab needs (by omega), bind_some_eq]
      dsimp only
      rw [if_neg (fun q => q rfl), w64_in (by omega) (by omega)]
      exact ih k (n + 1) (by omega) (by omega) a b ha hab
    simp only [law4_LedgerPlays_l0d]
    generalize l.getD (n : Int).toNat law4_Step.z = st
    obtain ⟨W, c⟩ := st
    have take : (ledger_Ledger_Take (a.1, a.2) c).bind (fun r29 => (ref4_Ledger_Take (b.1, b.2) c).bind fun r30 => law4_LedgerPlays_c1b (k + 1) l needs r29.2.1 r29.2.2 r30.2.1 r30.2.2 (n : Int) c (decide (r29.1 = r30.1))) = some true := by
      obtain ⟨b', h1, h2⟩ := rTake ha hab c
      rw [Take_eq (l := (a.1, a.2)) ha, bind_some_eq, show ((b.1, b.2) : Led) = b from rfl, h1, bind_some_eq]
      dsimp only
      rw [decide_eq_true (rfl : takeC a c = takeC a c)]
      exact cut _ _ (ha.take c) h2 c
    have give : (ledger_Ledger_Give (a.1, a.2) c).bind (fun r29 => (ref4_Ledger_Give (b.1, b.2) c).bind fun r30 => law4_LedgerPlays_c1b (k + 1) l needs r29.2.1 r29.2.2 r30.2.1 r30.2.2 (n : Int) c (decide (r29.1 = r30.1))) = some true := by
      obtain ⟨b', h1, h2⟩ := rGive ha hab c
      rw [Give_eq (l := (a.1, a.2)) ha, bind_some_eq, show ((b.1, b.2) : Led) = b from rfl, h1, bind_some_eq]
      dsimp only
      rw [decide_eq_true (rfl : giveC a c = giveC a c)]
      exact cut _ _ (ha.give c) h2 c
    have reset : (ledger_Ledger_Reset_1 (a.1, a.2) c).bind (fun r33 => (ref4_Ledger_Reset (b.1, b.2) c).bind fun r34 => if r33.1 = r34.1 then law4_LedgerPlays_c1b (k + 1) l needs r33.2.2.1 r33.2.2.2 r34.2.2.1 r34.2.2.2 (n : Int) c (decide (r33.2.1 = r34.2.1)) else law4_LedgerPlays_c1b (k + 1) l needs r33.2.2.1 r33.2.2.2 r34.2.2.1 r34.2.2.2 (n : Int) c false) = some true := by
      obtain ⟨b', h1, h2⟩ := rReset ha hab c
      rw [Reset_eq (l := (a.1, a.2)) ha, bind_some_eq, show ((b.1, b.2) : Led) = b from rfl, h1, bind_some_eq]
      dsimp only
      rw [if_pos rfl, decide_eq_true (rfl : resetC a c = resetC a c)]
      exact cut _ _ (ha.reset c) h2 c
    simp only [show (n : Int) < (l.length : Int) by omega, show (0 : Int) ≤ n by omega, if_true, take, give, reset, cut a b ha hab c]
    repeat' split
    all_goals rfl
theorem Plays_true (caps : List Int) (l : List law4_Step) (needs : List Int) : law4_LedgerPlays caps l needs = some true := by
  refine lim_eq 500 fun k hk => ?_
  show law4_LedgerPlays_f k caps l needs = some true
  unfold law4_LedgerPlays_f
  rw [known_eq]
  split
  · rfl
  · split
    · rfl
    · split
      · rfl
      · rename_i h1 h2 h3
        obtain ⟨k, rfl⟩ : ∃ j, k = j + 1 := ⟨k - 1, by omega⟩
        simp only [law4_LedgerPlays_c0]
        rw [New_eq, bind_some_eq, rNew]
        cases hv : valid caps with
        | true =>
          simp only [if_true, bind_some_eq]
          rw [if_neg (fun q => q rfl), if_neg (fun q => q rfl)]
          exact Plays_l l needs (by omega) (by omega) l.length k 0 (by omega) (by omega) (caps, caps) _ (Ok.new hv) (Twin.new caps)
        | false =>
          obtain ⟨k, rfl⟩ : ∃ j, k = j + 1 := ⟨k - 1, by omega⟩
          simp only [Bool.false_eq_true, if_false, bind_some_eq]
          rw [if_neg (fun q => q rfl), if_neg (fun q => q rfl)]
          simp only [law4_LedgerPlays_l0]
          rw [known_eq]
          split <;> rfl
/-- Of two channels, the second has so many free. -/
theorem Ok2 {K f : Int} (hK : 1 ≤ K ∧ K ≤ 32) (hf : 0 ≤ f ∧ f ≤ K) : Ok ([3, K], [3, f]) := by
  refine ⟨rfl, by show 2 ≤ 24; decide, fun i hi => ?_, fun i hi => ?_⟩
  · have hi : i < 2 := hi
    match i, hi with
    | 0, _ => simp
    | 1, _ => simpa using hK
    | i + 2, h => omega
  · have hi : i < 2 := hi
    match i, hi with
    | 0, _ => simp
    | 1, _ => simpa using hf
    | i + 2, h => omega
theorem In2 (K f : Int) : In ([3, K], [3, f]) 1 := ⟨by decide, by show (1 : Int) < 2; decide⟩
theorem free2 (K f : Int) : freeI ([3, K], [3, f]) 1 = f := by unfold freeI; rw [if_pos (In2 K f)]; rfl
theorem free20 (K f : Int) : freeI ([3, K], [3, f]) 0 = 3 := by unfold freeI; rw [if_pos ⟨by decide, by show (0 : Int) < 2; decide⟩]; rfl
theorem held2 (K f : Int) : heldI ([3, K], [3, f]) 1 = K - f := by unfold heldI; rw [if_pos (In2 K f)]; rfl
theorem has2 (K f x y : Int) : hasI ([3, K], [3, f]) [x, y] = (!(decide (3 < x) && decide (0 < x)) && !(decide (f < y) && decide (0 < y))) := by
  have h0 : hasB ([3, K], [3, f]) [x, y] 0 = !(decide (3 < x) && decide (0 < x)) := by
    show (!(decide (freeI ([3, K], [3, f]) 0 < x) && decide (0 < x))) = _
    rw [free20]
  have h1 : hasB ([3, K], [3, f]) [x, y] 1 = !(decide (f < y) && decide (0 < y)) := by
    show (!(decide (freeI ([3, K], [3, f]) 1 < y) && decide (0 < y))) = _
    rw [free2]
  show (hasB _ _ 0 && (hasB _ _ 1 && true)) = _
  rw [h0, h1, Bool.and_true]
theorem take2 {K f : Int} (hf : f ≠ 0) : takeC ([3, K], [3, f]) 1 = 0 ∧ takeL ([3, K], [3, f]) 1 = ([3, K], [3, f - 1]) := by
  unfold takeC takeL
  rw [free2, if_pos (In2 K f), if_neg hf, if_pos ⟨In2 K f, hf⟩]
  exact ⟨rfl, rfl⟩
theorem give2 {K f : Int} (hf : K - f ≠ 0) : giveC ([3, K], [3, f]) 1 = 0 ∧ giveL ([3, K], [3, f]) 1 = ([3, K], [3, f + 1]) := by
  unfold giveC giveL
  rw [held2, free2, if_pos (In2 K f), if_neg hf, if_pos ⟨In2 K f, hf⟩]
  exact ⟨rfl, rfl⟩
theorem Drains_l1 (K b : Int) (hK : 1 ≤ K ∧ K ≤ 32) (hb : 0 ≤ b ∧ b ≤ K) : ∀ (q k i : Nat), (i : Int) + q = b → q < k → law4_LedgerDrains_l1 k K [3, K] [3, (i : Int)] b (i : Int) = some true := by
  intro q
  induction q with
  | zero =>
    intro k i h hk
    obtain ⟨k, rfl⟩ : ∃ j, k = j + 1 := ⟨k - 1, by omega⟩
    simp only [law4_LedgerDrains_l1]
    have hok : Ok ([3, K], [3, (i : Int)]) := Ok2 hK (by omega)
    rw [if_neg (by omega), Free_eq hok, bind_some_eq, free2]
    dsimp only
    rw [if_neg (by omega), Free_eq hok, bind_some_eq, free20]
    dsimp only
    rw [if_neg (by decide), Reset_eq hok, bind_some_eq, held2]
    dsimp only
    rw [w64_in (n := K - b) (by omega) (by omega), if_pos (by omega)]
    have e : resetL ([3, K], [3, (i : Int)]) 1 = ([3, K], [3, K]) := by unfold resetL; rw [if_pos (In2 K i)]; rfl
    have e2 : resetC ([3, K], [3, (i : Int)]) 1 = 0 := by unfold resetC; rw [if_pos (In2 K i)]
    have hok2 : Ok ([3, K], [3, K]) := Ok2 hK (by omega)
    rw [e, e2, if_pos rfl, Give_eq hok2, bind_some_eq]
    have e3 : giveC ([3, K], [3, K]) 1 = 9 := by unfold giveC; rw [if_pos (In2 K K), held2, if_pos (by omega)]
    have e4 : giveL ([3, K], [3, K]) 1 = ([3, K], [3, K]) := by unfold giveL; rw [held2, if_neg (by intro q; have := q.2; omega)]
    dsimp only
    rw [e3, e4, if_pos rfl, Free_eq hok2, bind_some_eq, free2]
    dsimp only
    rw [if_pos rfl, known_eq]; rfl
  | succ q ih =>
    intro k i h hk
    obtain ⟨k, rfl⟩ : ∃ j, k = j + 1 := ⟨k - 1, by omega⟩
    simp only [law4_LedgerDrains_l1]
    have hok : Ok ([3, K], [3, (i : Int)]) := Ok2 hK (by omega)
    obtain ⟨g1, g2⟩ := give2 (K := K) (f := (i : Int)) (by omega)
    rw [if_pos (by omega), Give_eq hok, bind_some_eq, g1, g2]
    dsimp only
    rw [if_neg (by decide), w64_in (by omega) (by omega)]
    exact ih k (i + 1) (by omega) (by omega)
theorem Drains_l0 (K back : Int) (hK : 1 ≤ K ∧ K ≤ 32) (hb : 0 ≤ back ∧ back < 256) : ∀ (q k i : Nat), (i : Int) + q = K → q + 40 < k → law4_LedgerDrains_l0 k back K [3, K] [3, K - (i : Int)] (i : Int) = some true := by
  intro q
  induction q with
  | zero =>
    intro k i h hk
    obtain ⟨k, rfl⟩ : ∃ j, k = j + 1 := ⟨k - 1, by omega⟩
    simp only [law4_LedgerDrains_l0]
    rw [if_neg (by omega), w64_in (n := K + 1) (by omega) (by omega), w64_in (n := back) (by omega) (by omega), if_pos (by omega), Int.tmod_eq_emod_of_nonneg hb.1]
    have e : K - (i : Int) = 0 := by omega
    rw [e]
    have h1 := Int.emod_nonneg back (show K + 1 ≠ 0 by omega)
    have h2 := Int.emod_lt_of_pos back (show 0 < K + 1 by omega)
    exact Drains_l1 K (back % (K + 1)) hK (by omega) (back % (K + 1)).toNat k 0 (by omega) (by omega)
  | succ q ih =>
    intro k i h hk
    obtain ⟨k, rfl⟩ : ∃ j, k = j + 1 := ⟨k - 1, by omega⟩
    simp only [law4_LedgerDrains_l0]
    have hok : Ok ([3, K], [3, K - (i : Int)]) := Ok2 hK (by omega)
    obtain ⟨g1, g2⟩ := take2 (K := K) (f := K - (i : Int)) (by omega)
    rw [if_pos (by omega), w64_in (n := K - (i : Int)) (by omega) (by omega), w64_in (n := K - (i : Int) + 1) (by omega) (by omega), Has_eq hok _ (by simp), bind_some_eq, has2]
    dsimp only
    rw [decide_eq_false (show ¬ (K - (i : Int) < K - (i : Int)) by omega)]
    simp only [decide_false, Bool.false_and, Bool.not_false, Bool.and_true, show decide ((3 : Int) < 3) = false by decide, Bool.not_true, cond_false]
    rw [Has_eq hok _ (by simp), bind_some_eq, has2]
    dsimp only
    rw [decide_eq_true (show K - (i : Int) < K - (i : Int) + 1 by omega), decide_eq_true (show 0 < K - (i : Int) + 1 by omega)]
    simp only [Bool.and_true, Bool.not_true, Bool.and_false, cond_false]
    rw [Take_eq hok, bind_some_eq, g1, g2]
    dsimp only
    rw [if_neg (by decide), w64_in (by omega) (by omega)]
    have := ih k (i + 1) (by omega) (by omega)
    rw [show K - ((i + 1 : Nat) : Int) = K - (i : Int) - 1 from by omega] at this
    exact this
theorem Drains_true (n back : Int) (hn : 0 ≤ n ∧ n < 256) (hb : 0 ≤ back ∧ back < 256) : law4_LedgerDrains n back = some true := by
  refine lim_eq 100 fun k hk => ?_
  show law4_LedgerDrains_f k n back = some true
  unfold law4_LedgerDrains_f
  rw [w64_in (n := n) (by omega) (by omega), Int.tmod_eq_emod_of_nonneg hn.1, w64_in (n := 1 + n % 32) (by omega) (by omega)]
  generalize hK : 1 + n % 32 = K
  have hv : valid [3, K] = true := by
    unfold valid
    show (true && !(odd 3 || (odd K || false))) = true
    have : odd K = false := by unfold odd; rw [decide_eq_false (by omega), decide_eq_false (by omega)]; rfl
    rw [this]; decide
  rw [if_pos (by decide), New_eq, hv, if_pos rfl, bind_some_eq]
  dsimp only
  rw [if_neg (fun q => q rfl)]
  have := Drains_l0 K back (by omega) hb K.toNat k 0 (by omega) (by omega)
  rw [show K - ((0 : Nat) : Int) = K from by omega] at this
  exact this
end Go.Sy.Le
