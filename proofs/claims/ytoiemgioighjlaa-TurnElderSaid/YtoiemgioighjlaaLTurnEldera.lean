import Derived.Test.YtoiemgioighjlaaProg
import Derived.Test.YtoiemgioighjlaaSb
set_option linter.unusedVariables false
set_option linter.unusedSimpArgs false
set_option maxRecDepth 100000
namespace Go.Sy.Tu
open Go.Sy Go.Proofs
structure law25_Raw where
  Since : Int
  Prio : Int
  There : Bool
  May : Bool
  deriving DecidableEq
def law25_Raw.z : law25_Raw := ⟨0, 0, false, false⟩
structure turn_Head where
  Queue : Int
  Since : Int
  Prio : Int
  May : Bool
  deriving DecidableEq
def turn_Head.z : turn_Head := ⟨0, 0, 0, false⟩
structure ref25_Head where
  Queue : Int
  Since : Int
  Prio : Int
  May : Bool
  deriving DecidableEq
def ref25_Head.z : ref25_Head := ⟨0, 0, 0, false⟩
def C : Nat → Type
  | 0 => law25_Raw
  | 1 => turn_Head
  | 2 => ref25_Head
  | _ + 3 => Unit
def F : Nat → List Ty
  | 0 => [.int .u16, .int .u8, .bool, .bool]
  | 1 => [.int .i64, .int .i64, .int .i64, .bool]
  | 2 => [.int .i64, .int .i64, .int .i64, .bool]
  | _ + 3 => []
def ex : (t : Nat) → C t → Tup C (F t)
  | 0, (x : law25_Raw) => (x.Since, x.Prio, x.There, x.May)
  | 1, (x : turn_Head) => (x.Queue, x.Since, x.Prio, x.May)
  | 2, (x : ref25_Head) => (x.Queue, x.Since, x.Prio, x.May)
  | _ + 3, _ => ()
def im : (t : Nat) → Tup C (F t) → C t
  | 0, (a0, a1, a2, a3) => law25_Raw.mk a0 a1 a2 a3
  | 1, (a0, a1, a2, a3) => turn_Head.mk a0 a1 a2 a3
  | 2, (a0, a1, a2, a3) => ref25_Head.mk a0 a1 a2 a3
  | _ + 3, _ => ()
def fldT : Nat → List (Nat × Ty)
  | 0 => [(0, .int .u16), (1, .int .u8), (2, .bool), (3, .bool)]
  | 1 => [(0, .int .i64), (1, .int .i64), (2, .int .i64), (3, .bool)]
  | 2 => [(0, .int .i64), (1, .int .i64), (2, .int .i64), (3, .bool)]
  | _ + 3 => []
def z : (t : Nat) → C t
  | 0 => law25_Raw.z
  | 1 => turn_Head.z
  | 2 => ref25_Head.z
  | _ + 3 => ()
def tyT : List (Nat × Ty) := [(3, .int .i64), (4, .bool), (5, .int .u8), (22, .sl (.int .u8)), (23, .sl (.int .u16)), (24, .sl (.int .i64)), (32, .int .u16), (54, .sl (.st 0)), (55, .sl (.st 1)), (56, .sl (.st 2)), (57, .sl (.sl (.int .i64))), (64, .st 1), (66, .st 2), (81, .st 0)]
def ptT : List (Nat × Unit) := []
abbrev S : Sen := ⟨C, F, ex, im, fun u f => (fldT u)[f]?, z, look tyT, fun t => (look ptT t).isSome⟩
def bytT : List (Nat × Nat) := [(22, 1), (23, 2), (24, 8), (54, 6), (55, 32), (56, 32), (57, 24)]
def byt (t : Nat) : Nat := (look bytT t).getD 1
theorem senOk : SenOk S := ⟨fun | 0 => rfl | 1 => rfl | 2 => rfl | _ + 3 => rfl, fun | 0, _ => rfl | 1, _ => rfl | 2, _ => rfl | _ + 3, _ => rfl⟩
theorem ty3 : TyAt Try.prog S byt 3 (.int .i64) := tyAt_int rfl (by kernel_rfl) (by kernel_rfl) (by kernel_rfl)
theorem ty4 : TyAt Try.prog S byt 4 (.bool) := tyAt_bool rfl (by kernel_rfl) (by kernel_rfl) (by kernel_rfl)
theorem ty5 : TyAt Try.prog S byt 5 (.int .u8) := tyAt_int rfl (by kernel_rfl) (by kernel_rfl) (by kernel_rfl)
theorem ty22 : TyAt Try.prog S byt 22 (.sl (.int .u8)) := tyAt_sl rfl (by kernel_rfl) (by kernel_rfl) Try.underlying22 rfl rfl (by kernel_rfl) (by kernel_rfl)
theorem ty23 : TyAt Try.prog S byt 23 (.sl (.int .u16)) := tyAt_sl rfl (by kernel_rfl) (by kernel_rfl) Try.underlying23 rfl rfl (by kernel_rfl) (by kernel_rfl)
theorem ty24 : TyAt Try.prog S byt 24 (.sl (.int .i64)) := tyAt_sl rfl (by kernel_rfl) (by kernel_rfl) Try.underlying24 rfl rfl (by kernel_rfl) (by kernel_rfl)
theorem ty32 : TyAt Try.prog S byt 32 (.int .u16) := tyAt_int rfl (by kernel_rfl) (by kernel_rfl) (by kernel_rfl)
theorem ty54 : TyAt Try.prog S byt 54 (.sl (.st 0)) := tyAt_sl rfl (by kernel_rfl) (by kernel_rfl) Try.underlying54 rfl rfl (by kernel_rfl) (by kernel_rfl)
theorem ty55 : TyAt Try.prog S byt 55 (.sl (.st 1)) := tyAt_sl rfl (by kernel_rfl) (by kernel_rfl) Try.underlying55 rfl rfl (by kernel_rfl) (by kernel_rfl)
theorem ty56 : TyAt Try.prog S byt 56 (.sl (.st 2)) := tyAt_sl rfl (by kernel_rfl) (by kernel_rfl) Try.underlying56 rfl rfl (by kernel_rfl) (by kernel_rfl)
theorem ty57 : TyAt Try.prog S byt 57 (.sl (.sl (.int .i64))) := tyAt_sl rfl (by kernel_rfl) (by kernel_rfl) Try.underlying57 rfl rfl (by kernel_rfl) (by kernel_rfl)
theorem ty64 : TyAt Try.prog S byt 64 (.st 1) := tyAt_st (l := fldT 1) rfl (by kernel_rfl) rfl (by kernel_rfl) (by kernel_rfl) rfl (by kernel_rfl) Try.underlying64 (by kernel_rfl) fun _ => rfl
theorem ty66 : TyAt Try.prog S byt 66 (.st 2) := tyAt_st (l := fldT 2) rfl (by kernel_rfl) rfl (by kernel_rfl) (by kernel_rfl) rfl (by kernel_rfl) Try.underlying66 (by kernel_rfl) fun _ => rfl
theorem ty81 : TyAt Try.prog S byt 81 (.st 0) := tyAt_st (l := fldT 0) rfl (by kernel_rfl) rfl (by kernel_rfl) (by kernel_rfl) rfl (by kernel_rfl) Try.underlying81 (by kernel_rfl) fun _ => rfl
theorem progOk : ProgOk Try.prog S byt := ⟨senOk, fun t T h => by
  have h := look_mem (show look tyT t = some T from h)
  simp only [tyT, List.mem_cons, Prod.mk.injEq, List.not_mem_nil, or_false] at h
  rcases h with ⟨rfl, rfl⟩ | ⟨rfl, rfl⟩ | ⟨rfl, rfl⟩ | ⟨rfl, rfl⟩ | ⟨rfl, rfl⟩ | ⟨rfl, rfl⟩ | ⟨rfl, rfl⟩ | ⟨rfl, rfl⟩ | ⟨rfl, rfl⟩ | ⟨rfl, rfl⟩ | ⟨rfl, rfl⟩ | ⟨rfl, rfl⟩ | ⟨rfl, rfl⟩ | ⟨rfl, rfl⟩
  · exact ty3
  · exact ty4
  · exact ty5
  · exact ty22
  · exact ty23
  · exact ty24
  · exact ty32
  · exact ty54
  · exact ty55
  · exact ty56
  · exact ty57
  · exact ty64
  · exact ty66
  · exact ty81, fun t h => by
  have h2 : ∃ u, look ptT t = some u := Option.isSome_iff_exists.1 h
  obtain ⟨u, h2⟩ := h2
  have h := look_mem h2
  simp [ptT] at h⟩
theorem mixed : Try.prog.follows .mixedOrders = true := by kernel_rfl
def bz (e : Ty) : Nat := if e = .int .u8 then 1 else if e = .int .u16 then 2 else if e = .int .i64 then 8 else if e = .st 0 then 6 else if e = .st 1 then 32 else if e = .st 2 then 32 else if e = .sl (.int .i64) then 24 else 1
theorem hbz : ∀ t e, S.ty t = some (.sl e) → byt t = bz e := fun t e h => by
  have h := look_mem (show look tyT t = some (.sl e) from h)
  simp only [tyT, List.mem_cons, Prod.mk.injEq, List.not_mem_nil, or_false] at h
  rcases h with ⟨rfl, h⟩ | ⟨rfl, h⟩ | ⟨rfl, h⟩ | ⟨rfl, h⟩ | ⟨rfl, h⟩ | ⟨rfl, h⟩ | ⟨rfl, h⟩ | ⟨rfl, h⟩ | ⟨rfl, h⟩ | ⟨rfl, h⟩ | ⟨rfl, h⟩ | ⟨rfl, h⟩ | ⟨rfl, h⟩ | ⟨rfl, h⟩
  · cases h
  · cases h
  · cases h
  · cases h; decide
  · cases h; decide
  · cases h; decide
  · cases h
  · cases h; decide
  · cases h; decide
  · cases h; decide
  · cases h; decide
  · cases h
  · cases h
  · cases h
theorem slOk : SlOk S := fun t e h => by
  have h := look_mem (show look tyT t = some (.sl e) from h)
  simp only [tyT, List.mem_cons, Prod.mk.injEq, List.not_mem_nil, or_false] at h
  rcases h with ⟨rfl, h⟩ | ⟨rfl, h⟩ | ⟨rfl, h⟩ | ⟨rfl, h⟩ | ⟨rfl, h⟩ | ⟨rfl, h⟩ | ⟨rfl, h⟩ | ⟨rfl, h⟩ | ⟨rfl, h⟩ | ⟨rfl, h⟩ | ⟨rfl, h⟩ | ⟨rfl, h⟩ | ⟨rfl, h⟩ | ⟨rfl, h⟩
  · cases h
  · cases h
  · cases h
  · cases h; decide
  · cases h; decide
  · cases h; decide
  · cases h
  · cases h; decide
  · cases h; decide
  · cases h; decide
  · cases h; decide
  · cases h
  · cases h
  · cases h
theorem stOk : StOk Try.prog S := fun t e h => by
  have h := look_mem (show look tyT t = some (.st e) from h)
  simp only [tyT, List.mem_cons, Prod.mk.injEq, List.not_mem_nil, or_false] at h
  rcases h with ⟨rfl, h⟩ | ⟨rfl, h⟩ | ⟨rfl, h⟩ | ⟨rfl, h⟩ | ⟨rfl, h⟩ | ⟨rfl, h⟩ | ⟨rfl, h⟩ | ⟨rfl, h⟩ | ⟨rfl, h⟩ | ⟨rfl, h⟩ | ⟨rfl, h⟩ | ⟨rfl, h⟩ | ⟨rfl, h⟩ | ⟨rfl, h⟩
  · cases h
  · cases h
  · cases h
  · cases h
  · cases h
  · cases h
  · cases h
  · cases h
  · cases h
  · cases h
  · cases h
  · cases h; exact stOk_of Try.underlying64 (by kernel_rfl)
  · cases h; exact stOk_of Try.underlying66 (by kernel_rfl)
  · cases h; exact stOk_of Try.underlying81 (by kernel_rfl)
/-! ### 26 cotillion/cotillionlaw25.heads -/
noncomputable def law25_heads_l0 : Nat → (List law25_Raw) → (List Int) → Int → (List turn_Head) → (List ref25_Head) → (List (List Int)) → Int → Option (List turn_Head × List ref25_Head × List (List Int))
  | 0, _, _, _, _, _, _, _ => none
  | k + 1, l, g, now, a, b, groups, i => if i < (l.length : Int) then
    if i < 20 then
    if i < (g.length : Int) then
    if 0 ≤ i then
    if i < (g.length : Int) then
    if ¬ (4 : Int) = 0 then
    if 0 ≤ ((w64 (g.getD i.toNat 0)).tmod 4) then
    if ((w64 (g.getD i.toNat 0)).tmod 4) < (groups.length : Int) then none else none else none else none else none else none else
    if (0 : Int) ≤ 0 then
    if 0 < (groups.length : Int) then none else none else none else
    some (a, b, groups) else
    some (a, b, groups)
noncomputable def law25_heads_f (k : Nat) (l : List law25_Raw) (g : List Int) (now : Int) : Option (List turn_Head × List ref25_Head × List (List Int)) := if (0 : Int) ≤ 4 then
    if (4 : Int) ≤ 4 then
    if (4 : Int) * 24 ≤ 140737488355328 then
    law25_heads_l0 k l g now [] [] (List.replicate (4 : Int).toNat []) 0 else none else none else none
noncomputable def law25_heads (l : List law25_Raw) (g : List Int) (now : Int) : Option (List turn_Head × List ref25_Head × List (List Int)) := lim (fun k (x : List law25_Raw × List Int × Int) => law25_heads_f k x.1 x.2.1 x.2.2) (l, g, now)
noncomputable abbrev law25_heads_T : Tab S := ⟨[], []⟩
noncomputable def law25_heads_L (k : Nat) : Nat → Option (Lab S (List turn_Head × List ref25_Head × List (List Int)))
  | 0 => some ⟨[0, 1, 2, 9, 10, 11, 12], [.val (.data (.sl (.st 0))), .val (.data (.sl (.int .u8))), .val (.data (.int .i64)), .val (.town (.st 1)), .val (.town (.st 2)), .val (.marr (.sl (.int .i64))), .val (.data (.int .i64))], fun x => law25_heads_l0 k x.1 x.2.1 x.2.2.1 x.2.2.2.1 x.2.2.2.2.1 x.2.2.2.2.2.1 x.2.2.2.2.2.2⟩
  | _ + 1 => none
theorem law25_heads_eq (k : Nat) (l : List law25_Raw) (g : List Int) (now : Int) : law25_heads_f k l g now = exec S (law25_heads_T) byt (labs S (law25_heads_T) (law25_heads_L k)) (ac [] Try.f26) (frame0 S [.val (.data (.sl (.st 0))), .val (.data (.sl (.int .u8))), .val (.data (.int .i64))] (l, g, now)) (retK S (law25_heads_T) Try.f26 [.val (.data (.sl (.st 0))), .val (.data (.sl (.int .u8))), .val (.data (.int .i64))] [.val (.town (.st 1)), .val (.town (.st 2)), .val (.marr (.sl (.int .i64)))]) := by kernel_rfl
theorem law25_heads_vc (k : Nat) : VC S (law25_heads_T) byt (law25_heads_L k) (law25_heads_L (k + 1)) (ac [] Try.f26) (retK S (law25_heads_T) Try.f26 [.val (.data (.sl (.st 0))), .val (.data (.sl (.int .u8))), .val (.data (.int .i64))] [.val (.town (.st 1)), .val (.town (.st 2)), .val (.marr (.sl (.int .i64)))]) = [∀ x : List law25_Raw × List Int × Int × List turn_Head × List ref25_Head × List (List Int) × Int, law25_heads_l0 (k + 1) x.1 x.2.1 x.2.2.1 x.2.2.2.1 x.2.2.2.2.1 x.2.2.2.2.2.1 x.2.2.2.2.2.2 = law25_heads_l0 (k + 1) x.1 x.2.1 x.2.2.1 x.2.2.2.1 x.2.2.2.2.1 x.2.2.2.2.2.1 x.2.2.2.2.2.2] := by kernel_rfl
theorem law25_heads_sndk (k : Nat) : Snd Try.prog S ⟨26, [.val (.data (.sl (.st 0))), .val (.data (.sl (.int .u8))), .val (.data (.int .i64))], [.val (.town (.st 1)), .val (.town (.st 2)), .val (.marr (.sl (.int .i64)))], fun x => law25_heads_f k x.1 x.2.1 x.2.2⟩ :=
  fn_ok progOk (T := (law25_heads_T)) (all_nil) (all_nil) mixed Try.func26 rfl (by kernel_rfl) (ac_code [] Try.f26 rfl) (L := law25_heads_L)
    (fun n l h x => by match n, h with
        | 0, h => cases h; rfl
        | _ + 1, h => cases h) (fun k n l h => by match n, h with
        | 0, h => cases h; rfl
        | _ + 1, h => cases h)
    (fun k => All.mem (law25_heads_vc k) ⟨fun _ => rfl, trivial⟩) (fun x r h => ⟨k, (law25_heads_eq k x.1 x.2.1 x.2.2).symm.trans h⟩) (by kernel_rfl) (by kernel_rfl) (Nat.le_of_ble_eq_true (by kernel_rfl))
theorem law25_heads_snd : Snd Try.prog S ⟨26, [.val (.data (.sl (.st 0))), .val (.data (.sl (.int .u8))), .val (.data (.int .i64))], [.val (.town (.st 1)), .val (.town (.st 2)), .val (.marr (.sl (.int .i64)))], fun x => law25_heads x.1 x.2.1 x.2.2⟩ := Snd.lim law25_heads_sndk
/-! ### 49 slices.Index[[]int,int] -/
noncomputable def slices_Index_int_int_l0 : Nat → (List Int) → Int → Int → Int → Option Int
  | 0, _, _, _, _ => none
  | k + 1, s, v, x7, x8 => if x8 < x7 then
    if 0 ≤ x8 then
    if x8 < (s.length : Int) then
    if v = (s.getD x8.toNat 0) then
    some x8 else
    slices_Index_int_int_l0 k s v x7 (w64 (x8 + 1)) else none else none else
    some (-1)
noncomputable def slices_Index_int_int_f (k : Nat) (s : List Int) (v : Int) : Option Int := slices_Index_int_int_l0 k s v (s.length : Int) 0
noncomputable def slices_Index_int_int (s : List Int) (v : Int) : Option Int := lim (fun k (x : List Int × Int) => slices_Index_int_int_f k x.1 x.2) (s, v)
noncomputable abbrev slices_Index_int_int_T : Tab S := ⟨[], []⟩
noncomputable def slices_Index_int_int_L (k : Nat) : Nat → Option (Lab S Int)
  | 0 => some ⟨[0, 1, 7, 8], [.val (.data (.sl (.int .i64))), .val (.data (.int .i64)), .val (.data (.int .i64)), .val (.data (.int .i64))], fun x => slices_Index_int_int_l0 k x.1 x.2.1 x.2.2.1 x.2.2.2⟩
  | _ + 1 => none
theorem slices_Index_int_int_eq (k : Nat) (s : List Int) (v : Int) : slices_Index_int_int_f k s v = exec S (slices_Index_int_int_T) byt (labs S (slices_Index_int_int_T) (slices_Index_int_int_L k)) (ac [] Try.f49) (frame0 S [.val (.data (.sl (.int .i64))), .val (.data (.int .i64))] (s, v)) (retK S (slices_Index_int_int_T) Try.f49 [.val (.data (.sl (.int .i64))), .val (.data (.int .i64))] [.val (.data (.int .i64))]) := by kernel_rfl
theorem slices_Index_int_int_vc (k : Nat) : VC S (slices_Index_int_int_T) byt (slices_Index_int_int_L k) (slices_Index_int_int_L (k + 1)) (ac [] Try.f49) (retK S (slices_Index_int_int_T) Try.f49 [.val (.data (.sl (.int .i64))), .val (.data (.int .i64))] [.val (.data (.int .i64))]) = [∀ x : List Int × Int × Int × Int, slices_Index_int_int_l0 (k + 1) x.1 x.2.1 x.2.2.1 x.2.2.2 = slices_Index_int_int_l0 (k + 1) x.1 x.2.1 x.2.2.1 x.2.2.2] := by kernel_rfl
theorem slices_Index_int_int_sndk (k : Nat) : Snd Try.prog S ⟨49, [.val (.data (.sl (.int .i64))), .val (.data (.int .i64))], [.val (.data (.int .i64))], fun x => slices_Index_int_int_f k x.1 x.2⟩ :=
  fn_ok progOk (T := (slices_Index_int_int_T)) (all_nil) (all_nil) mixed Try.func49 rfl (by kernel_rfl) (ac_code [] Try.f49 rfl) (L := slices_Index_int_int_L)
    (fun n l h x => by match n, h with
        | 0, h => cases h; rfl
        | _ + 1, h => cases h) (fun k n l h => by match n, h with
        | 0, h => cases h; rfl
        | _ + 1, h => cases h)
    (fun k => All.mem (slices_Index_int_int_vc k) ⟨fun _ => rfl, trivial⟩) (fun x r h => ⟨k, (slices_Index_int_int_eq k x.1 x.2).symm.trans h⟩) (by kernel_rfl) (by kernel_rfl) (Nat.le_of_ble_eq_true (by kernel_rfl))
theorem slices_Index_int_int_snd : Snd Try.prog S ⟨49, [.val (.data (.sl (.int .i64))), .val (.data (.int .i64))], [.val (.data (.int .i64))], fun x => slices_Index_int_int x.1 x.2⟩ := Snd.lim slices_Index_int_int_sndk
/-! ### 42 slices.Contains[[]int,int] -/
noncomputable def slices_Contains_int_int  (s : List Int) (v : Int) : Option Bool := (slices_Index_int_int s v).bind fun r1 => some (decide (0 ≤ r1))
noncomputable abbrev slices_Contains_int_int_T : Tab S := ⟨[⟨49, [.val (.data (.sl (.int .i64))), .val (.data (.int .i64))], [.val (.data (.int .i64))], fun x => slices_Index_int_int x.1 x.2⟩], []⟩
noncomputable def slices_Contains_int_int_L (k : Nat) : Nat → Option (Lab S Bool)
  | _ => none
theorem slices_Contains_int_int_eq (k : Nat) (s : List Int) (v : Int) : slices_Contains_int_int s v = exec S (slices_Contains_int_int_T) byt (labs S (slices_Contains_int_int_T) (slices_Contains_int_int_L k)) (ac [] Try.f42) (frame0 S [.val (.data (.sl (.int .i64))), .val (.data (.int .i64))] (s, v)) (retK S (slices_Contains_int_int_T) Try.f42 [.val (.data (.sl (.int .i64))), .val (.data (.int .i64))] [.val (.data .bool)]) := by kernel_rfl
theorem slices_Contains_int_int_vc (k : Nat) : VC S (slices_Contains_int_int_T) byt (slices_Contains_int_int_L k) (slices_Contains_int_int_L (k + 1)) (ac [] Try.f42) (retK S (slices_Contains_int_int_T) Try.f42 [.val (.data (.sl (.int .i64))), .val (.data (.int .i64))] [.val (.data .bool)]) = [] := by kernel_rfl
theorem slices_Contains_int_int_snd : Snd Try.prog S ⟨42, [.val (.data (.sl (.int .i64))), .val (.data (.int .i64))], [.val (.data .bool)], fun x => slices_Contains_int_int x.1 x.2⟩ :=
  fn_ok progOk (T := (slices_Contains_int_int_T)) (all_cons slices_Index_int_int_snd (all_nil)) (all_nil) mixed Try.func42 rfl (by kernel_rfl) (ac_code [] Try.f42 rfl) (L := slices_Contains_int_int_L)
    (fun n l h x => by cases h) (fun k n l h => by cases h)
    (fun k => All.mem (slices_Contains_int_int_vc k) trivial) (fun x r h => ⟨0, (slices_Contains_int_int_eq 0 x.1 x.2).symm.trans h⟩) (by kernel_rfl) (by kernel_rfl) (Nat.le_of_ble_eq_true (by kernel_rfl))
/-! ### 50 cmp.isNaN[int] -/
noncomputable def cmp_isNaN_int  (x : Int) : Option Bool := some (decide (x ≠ x))
noncomputable abbrev cmp_isNaN_int_T : Tab S := ⟨[], []⟩
noncomputable def cmp_isNaN_int_L (k : Nat) : Nat → Option (Lab S Bool)
  | _ => none
theorem cmp_isNaN_int_eq (k : Nat) (x : Int) : cmp_isNaN_int x = exec S (cmp_isNaN_int_T) byt (labs S (cmp_isNaN_int_T) (cmp_isNaN_int_L k)) (ac [] Try.f50) (frame0 S [.val (.data (.int .i64))] x) (retK S (cmp_isNaN_int_T) Try.f50 [.val (.data (.int .i64))] [.val (.data .bool)]) := by kernel_rfl
theorem cmp_isNaN_int_vc (k : Nat) : VC S (cmp_isNaN_int_T) byt (cmp_isNaN_int_L k) (cmp_isNaN_int_L (k + 1)) (ac [] Try.f50) (retK S (cmp_isNaN_int_T) Try.f50 [.val (.data (.int .i64))] [.val (.data .bool)]) = [] := by kernel_rfl
theorem cmp_isNaN_int_snd : Snd Try.prog S ⟨50, [.val (.data (.int .i64))], [.val (.data .bool)], fun x => cmp_isNaN_int x⟩ :=
  fn_ok progOk (T := (cmp_isNaN_int_T)) (all_nil) (all_nil) mixed Try.func50 rfl (by kernel_rfl) (ac_code [] Try.f50 rfl) (L := cmp_isNaN_int_L)
    (fun n l h x => by cases h) (fun k n l h => by cases h)
    (fun k => All.mem (cmp_isNaN_int_vc k) trivial) (fun x r h => ⟨0, (cmp_isNaN_int_eq 0 x).symm.trans h⟩) (by kernel_rfl) (by kernel_rfl) (Nat.le_of_ble_eq_true (by kernel_rfl))
/-! ### 46 cmp.Compare[int] -/
noncomputable def cmp_Compare_int  (x : Int) (y : Int) : Option Int := (cmp_isNaN_int x).bind fun r1 =>
    (cmp_isNaN_int y).bind fun r2 =>
    bif r1 then
    bif r2 then
    some 0 else
    some (-1) else
    bif r2 then
    some 1 else
    if x < y then
    some (-1) else
    if y < x then
    some 1 else
    some 0
noncomputable abbrev cmp_Compare_int_T : Tab S := ⟨[⟨50, [.val (.data (.int .i64))], [.val (.data .bool)], fun x => cmp_isNaN_int x⟩], []⟩
noncomputable def cmp_Compare_int_L (k : Nat) : Nat → Option (Lab S Int)
  | _ => none
theorem cmp_Compare_int_eq (k : Nat) (x : Int) (y : Int) : cmp_Compare_int x y = exec S (cmp_Compare_int_T) byt (labs S (cmp_Compare_int_T) (cmp_Compare_int_L k)) (ac [] Try.f46) (frame0 S [.val (.data (.int .i64)), .val (.data (.int .i64))] (x, y)) (retK S (cmp_Compare_int_T) Try.f46 [.val (.data (.int .i64)), .val (.data (.int .i64))] [.val (.data (.int .i64))]) := by kernel_rfl
theorem cmp_Compare_int_vc (k : Nat) : VC S (cmp_Compare_int_T) byt (cmp_Compare_int_L k) (cmp_Compare_int_L (k + 1)) (ac [] Try.f46) (retK S (cmp_Compare_int_T) Try.f46 [.val (.data (.int .i64)), .val (.data (.int .i64))] [.val (.data (.int .i64))]) = [] := by kernel_rfl
theorem cmp_Compare_int_snd : Snd Try.prog S ⟨46, [.val (.data (.int .i64)), .val (.data (.int .i64))], [.val (.data (.int .i64))], fun x => cmp_Compare_int x.1 x.2⟩ :=
  fn_ok progOk (T := (cmp_Compare_int_T)) (all_cons cmp_isNaN_int_snd (all_nil)) (all_nil) mixed Try.func46 rfl (by kernel_rfl) (ac_code [] Try.f46 rfl) (L := cmp_Compare_int_L)
    (fun n l h x => by cases h) (fun k n l h => by cases h)
    (fun k => All.mem (cmp_Compare_int_vc k) trivial) (fun x r h => ⟨0, (cmp_Compare_int_eq 0 x.1 x.2).symm.trans h⟩) (by kernel_rfl) (by kernel_rfl) (Nat.le_of_ble_eq_true (by kernel_rfl))
/-! ### 45 cmp.Or[int] -/
noncomputable def cmp_Or_int_l0 : Nat → Int → (List Int) → Int → Int → Option Int
  | 0, _, _, _, _ => none
  | k + 1, zero, x6, x7, x8 => if x8 < x7 then
    if 0 ≤ x8 then
    if x8 < (x6.length : Int) then
    if (x6.getD x8.toNat 0) ≠ zero then
    some (x6.getD x8.toNat 0) else
    cmp_Or_int_l0 k zero x6 x7 (w64 (x8 + 1)) else none else none else
    some zero
noncomputable def cmp_Or_int_f (k : Nat) (vals : List Int) : Option Int := cmp_Or_int_l0 k 0 vals (vals.length : Int) 0
noncomputable def cmp_Or_int (vals : List Int) : Option Int := lim (fun k (x : List Int) => cmp_Or_int_f k x) vals
noncomputable abbrev cmp_Or_int_T : Tab S := ⟨[], []⟩
noncomputable def cmp_Or_int_L (k : Nat) : Nat → Option (Lab S Int)
  | 0 => some ⟨[3, 6, 7, 8], [.val (.data (.int .i64)), .val (.data (.sl (.int .i64))), .val (.data (.int .i64)), .val (.data (.int .i64))], fun x => cmp_Or_int_l0 k x.1 x.2.1 x.2.2.1 x.2.2.2⟩
  | _ + 1 => none
theorem cmp_Or_int_eq (k : Nat) (vals : List Int) : cmp_Or_int_f k vals = exec S (cmp_Or_int_T) byt (labs S (cmp_Or_int_T) (cmp_Or_int_L k)) (ac [] Try.f45) (frame0 S [.val (.data (.sl (.int .i64)))] vals) (retK S (cmp_Or_int_T) Try.f45 [.val (.data (.sl (.int .i64)))] [.val (.data (.int .i64))]) := by kernel_rfl
theorem cmp_Or_int_vc (k : Nat) : VC S (cmp_Or_int_T) byt (cmp_Or_int_L k) (cmp_Or_int_L (k + 1)) (ac [] Try.f45) (retK S (cmp_Or_int_T) Try.f45 [.val (.data (.sl (.int .i64)))] [.val (.data (.int .i64))]) = [∀ x : Int × List Int × Int × Int, cmp_Or_int_l0 (k + 1) x.1 x.2.1 x.2.2.1 x.2.2.2 = cmp_Or_int_l0 (k + 1) x.1 x.2.1 x.2.2.1 x.2.2.2] := by kernel_rfl
theorem cmp_Or_int_sndk (k : Nat) : Snd Try.prog S ⟨45, [.val (.data (.sl (.int .i64)))], [.val (.data (.int .i64))], fun x => cmp_Or_int_f k x⟩ :=
  fn_ok progOk (T := (cmp_Or_int_T)) (all_nil) (all_nil) mixed Try.func45 rfl (by kernel_rfl) (ac_code [] Try.f45 rfl) (L := cmp_Or_int_L)
    (fun n l h x => by match n, h with
        | 0, h => cases h; rfl
        | _ + 1, h => cases h) (fun k n l h => by match n, h with
        | 0, h => cases h; rfl
        | _ + 1, h => cases h)
    (fun k => All.mem (cmp_Or_int_vc k) ⟨fun _ => rfl, trivial⟩) (fun x r h => ⟨k, (cmp_Or_int_eq k x).symm.trans h⟩) (by kernel_rfl) (by kernel_rfl) (Nat.le_of_ble_eq_true (by kernel_rfl))
theorem cmp_Or_int_snd : Snd Try.prog S ⟨45, [.val (.data (.sl (.int .i64)))], [.val (.data (.int .i64))], fun x => cmp_Or_int x⟩ := Snd.lim cmp_Or_int_sndk
/-! ### 43 cotillion/turn.elder -/
noncomputable def turn_elder  (a : turn_Head) (b : turn_Head) : Option Int := (cmp_Compare_int a.Since b.Since).bind fun r1 =>
    (cmp_Compare_int a.Queue b.Queue).bind fun r2 =>
    (cmp_Or_int [r1, r2]).bind fun r3 =>
    some r3
noncomputable abbrev turn_elder_T : Tab S := ⟨[⟨46, [.val (.data (.int .i64)), .val (.data (.int .i64))], [.val (.data (.int .i64))], fun x => cmp_Compare_int x.1 x.2⟩, ⟨45, [.val (.data (.sl (.int .i64)))], [.val (.data (.int .i64))], fun x => cmp_Or_int x⟩], []⟩
noncomputable def turn_elder_L (k : Nat) : Nat → Option (Lab S Int)
  | _ => none
theorem turn_elder_eq (k : Nat) (a : turn_Head) (b : turn_Head) : turn_elder a b = exec S (turn_elder_T) byt (labs S (turn_elder_T) (turn_elder_L k)) (ac [] Try.f43) (frame0 S [.val (.data (.st 1)), .val (.data (.st 1))] (a, b)) (retK S (turn_elder_T) Try.f43 [.val (.data (.st 1)), .val (.data (.st 1))] [.val (.data (.int .i64))]) := by kernel_rfl
theorem turn_elder_vc (k : Nat) : VC S (turn_elder_T) byt (turn_elder_L k) (turn_elder_L (k + 1)) (ac [] Try.f43) (retK S (turn_elder_T) Try.f43 [.val (.data (.st 1)), .val (.data (.st 1))] [.val (.data (.int .i64))]) = [] := by kernel_rfl
theorem turn_elder_snd : Snd Try.prog S ⟨43, [.val (.data (.st 1)), .val (.data (.st 1))], [.val (.data (.int .i64))], fun x => turn_elder x.1 x.2⟩ :=
  fn_ok progOk (T := (turn_elder_T)) (all_cons cmp_Compare_int_snd (all_cons cmp_Or_int_snd (all_nil))) (all_nil) mixed Try.func43 rfl (by kernel_rfl) (ac_code [] Try.f43 rfl) (L := turn_elder_L)
    (fun n l h x => by cases h) (fun k n l h => by cases h)
    (fun k => All.mem (turn_elder_vc k) trivial) (fun x r h => ⟨0, (turn_elder_eq 0 x.1 x.2).symm.trans h⟩) (by kernel_rfl) (by kernel_rfl) (Nat.le_of_ble_eq_true (by kernel_rfl))
/-! ### 27 cotillion/turn.Front -/
noncomputable def turn_Front_l0 : Nat → (List Int) → (List turn_Head) → Int → (List turn_Head) → Int → Int → Option Int
  | 0, _, _, _, _, _, _ => none
  | k + 1, group, heads, front, x8, x9, x10 => if x10 < x9 then
    if 0 ≤ x10 then
    if x10 < (x8.length : Int) then
    (slices_Contains_int_int group ((x8.getD x10.toNat turn_Head.z).Queue)).bind fun r1 =>
    bif r1 then
    if front < 0 then
    turn_Front_l0 k group heads x10 x8 x9 (w64 (x10 + 1)) else
    if 0 ≤ front then
    if front < (heads.length : Int) then
    (turn_elder (x8.getD x10.toNat turn_Head.z) (heads.getD front.toNat turn_Head.z)).bind fun r2 =>
    if r2 < 0 then
    turn_Front_l0 k group heads x10 x8 x9 (w64 (x10 + 1)) else
    turn_Front_l0 k group heads front x8 x9 (w64 (x10 + 1)) else none else none else
    turn_Front_l0 k group heads front x8 x9 (w64 (x10 + 1)) else none else none else
    some front
noncomputable def turn_Front_f (k : Nat) (group : List Int) (heads : List turn_Head) : Option Int := turn_Front_l0 k group heads (-1) heads (heads.length : Int) 0
noncomputable def turn_Front (group : List Int) (heads : List turn_Head) : Option Int := lim (fun k (x : List Int × List turn_Head) => turn_Front_f k x.1 x.2) (group, heads)
noncomputable abbrev turn_Front_T : Tab S := ⟨[⟨42, [.val (.data (.sl (.int .i64))), .val (.data (.int .i64))], [.val (.data .bool)], fun x => slices_Contains_int_int x.1 x.2⟩, ⟨43, [.val (.data (.st 1)), .val (.data (.st 1))], [.val (.data (.int .i64))], fun x => turn_elder x.1 x.2⟩], []⟩
noncomputable def turn_Front_L (k : Nat) : Nat → Option (Lab S Int)
  | 0 => some ⟨[0, 1, 5, 8, 9, 10], [.val (.data (.sl (.int .i64))), .val (.data (.sl (.st 1))), .val (.data (.int .i64)), .val (.data (.sl (.st 1))), .val (.data (.int .i64)), .val (.data (.int .i64))], fun x => turn_Front_l0 k x.1 x.2.1 x.2.2.1 x.2.2.2.1 x.2.2.2.2.1 x.2.2.2.2.2⟩
  | _ + 1 => none
theorem turn_Front_eq (k : Nat) (group : List Int) (heads : List turn_Head) : turn_Front_f k group heads = exec S (turn_Front_T) byt (labs S (turn_Front_T) (turn_Front_L k)) (ac [] Try.f27) (frame0 S [.val (.data (.sl (.int .i64))), .val (.data (.sl (.st 1)))] (group, heads)) (retK S (turn_Front_T) Try.f27 [.val (.data (.sl (.int .i64))), .val (.data (.sl (.st 1)))] [.val (.data (.int .i64))]) := by kernel_rfl
theorem turn_Front_vc (k : Nat) : VC S (turn_Front_T) byt (turn_Front_L k) (turn_Front_L (k + 1)) (ac [] Try.f27) (retK S (turn_Front_T) Try.f27 [.val (.data (.sl (.int .i64))), .val (.data (.sl (.st 1)))] [.val (.data (.int .i64))]) = [∀ x : List Int × List turn_Head × Int × List turn_Head × Int × Int, turn_Front_l0 (k + 1) x.1 x.2.1 x.2.2.1 x.2.2.2.1 x.2.2.2.2.1 x.2.2.2.2.2 = turn_Front_l0 (k + 1) x.1 x.2.1 x.2.2.1 x.2.2.2.1 x.2.2.2.2.1 x.2.2.2.2.2] := by kernel_rfl
theorem turn_Front_sndk (k : Nat) : Snd Try.prog S ⟨27, [.val (.data (.sl (.int .i64))), .val (.data (.sl (.st 1)))], [.val (.data (.int .i64))], fun x => turn_Front_f k x.1 x.2⟩ :=
  fn_ok progOk (T := (turn_Front_T)) (all_cons slices_Contains_int_int_snd (all_cons turn_elder_snd (all_nil))) (all_nil) mixed Try.func27 rfl (by kernel_rfl) (ac_code [] Try.f27 rfl) (L := turn_Front_L)
    (fun n l h x => by match n, h with
        | 0, h => cases h; rfl
        | _ + 1, h => cases h) (fun k n l h => by match n, h with
        | 0, h => cases h; rfl
        | _ + 1, h => cases h)
    (fun k => All.mem (turn_Front_vc k) ⟨fun _ => rfl, trivial⟩) (fun x r h => ⟨k, (turn_Front_eq k x.1 x.2).symm.trans h⟩) (by kernel_rfl) (by kernel_rfl) (Nat.le_of_ble_eq_true (by kernel_rfl))
theorem turn_Front_snd : Snd Try.prog S ⟨27, [.val (.data (.sl (.int .i64))), .val (.data (.sl (.st 1)))], [.val (.data (.int .i64))], fun x => turn_Front x.1 x.2⟩ := Snd.lim turn_Front_sndk
/-! ### 44 cotillion/cotillionref3.Has -/
noncomputable def ref3_Has_l0 : Nat → (List Int) → Int → Int → Option Bool
  | 0, _, _, _ => none
  | k + 1, l, i, k_ => if k_ < (l.length : Int) then
    if 0 ≤ k_ then
    if k_ < (l.length : Int) then
    if (l.getD k_.toNat 0) = i then
    some true else
    ref3_Has_l0 k l i (w64 (k_ + 1)) else none else none else
    some false
noncomputable def ref3_Has_f (k : Nat) (l : List Int) (i : Int) : Option Bool := ref3_Has_l0 k l i 0
noncomputable def ref3_Has (l : List Int) (i : Int) : Option Bool := lim (fun k (x : List Int × Int) => ref3_Has_f k x.1 x.2) (l, i)
noncomputable abbrev ref3_Has_T : Tab S := ⟨[], []⟩
noncomputable def ref3_Has_L (k : Nat) : Nat → Option (Lab S Bool)
  | 0 => some ⟨[0, 1, 5], [.val (.data (.sl (.int .i64))), .val (.data (.int .i64)), .val (.data (.int .i64))], fun x => ref3_Has_l0 k x.1 x.2.1 x.2.2⟩
  | _ + 1 => none
theorem ref3_Has_eq (k : Nat) (l : List Int) (i : Int) : ref3_Has_f k l i = exec S (ref3_Has_T) byt (labs S (ref3_Has_T) (ref3_Has_L k)) (ac [] Try.f44) (frame0 S [.val (.data (.sl (.int .i64))), .val (.data (.int .i64))] (l, i)) (retK S (ref3_Has_T) Try.f44 [.val (.data (.sl (.int .i64))), .val (.data (.int .i64))] [.val (.data .bool)]) := by kernel_rfl
theorem ref3_Has_vc (k : Nat) : VC S (ref3_Has_T) byt (ref3_Has_L k) (ref3_Has_L (k + 1)) (ac [] Try.f44) (retK S (ref3_Has_T) Try.f44 [.val (.data (.sl (.int .i64))), .val (.data (.int .i64))] [.val (.data .bool)]) = [∀ x : List Int × Int × Int, ref3_Has_l0 (k + 1) x.1 x.2.1 x.2.2 = ref3_Has_l0 (k + 1) x.1 x.2.1 x.2.2] := by kernel_rfl
theorem ref3_Has_sndk (k : Nat) : Snd Try.prog S ⟨44, [.val (.data (.sl (.int .i64))), .val (.data (.int .i64))], [.val (.data .bool)], fun x => ref3_Has_f k x.1 x.2⟩ :=
  fn_ok progOk (T := (ref3_Has_T)) (all_nil) (all_nil) mixed Try.func44 rfl (by kernel_rfl) (ac_code [] Try.f44 rfl) (L := ref3_Has_L)
    (fun n l h x => by match n, h with
        | 0, h => cases h; rfl
        | _ + 1, h => cases h) (fun k n l h => by match n, h with
        | 0, h => cases h; rfl
        | _ + 1, h => cases h)
    (fun k => All.mem (ref3_Has_vc k) ⟨fun _ => rfl, trivial⟩) (fun x r h => ⟨k, (ref3_Has_eq k x.1 x.2).symm.trans h⟩) (by kernel_rfl) (by kernel_rfl) (Nat.le_of_ble_eq_true (by kernel_rfl))
theorem ref3_Has_snd : Snd Try.prog S ⟨44, [.val (.data (.sl (.int .i64))), .val (.data (.int .i64))], [.val (.data .bool)], fun x => ref3_Has x.1 x.2⟩ := Snd.lim ref3_Has_sndk
/-! ### 28 cotillion/cotillionref25.Front -/
noncomputable def ref25_Front_l0 : Nat → (List Int) → (List ref25_Head) → Int → Int → Option Int
  | 0, _, _, _, _ => none
  | k + 1, group, heads, out, i => if i < (heads.length : Int) then
    if 0 ≤ i then
    if i < (heads.length : Int) then
    (ref3_Has group ((heads.getD i.toNat ref25_Head.z).Queue)).bind fun r1 =>
    bif r1 then
    if out < 0 then
    ref25_Front_l0 k group heads i (w64 (i + 1)) else
    if 0 ≤ out then
    if out < (heads.length : Int) then
    if ((heads.getD i.toNat ref25_Head.z).Since) < ((heads.getD out.toNat ref25_Head.z).Since) then
    ref25_Front_l0 k group heads i (w64 (i + 1)) else
    if 0 ≤ out then
    if out < (heads.length : Int) then
    if ((heads.getD i.toNat ref25_Head.z).Since) = ((heads.getD out.toNat ref25_Head.z).Since) then
    if 0 ≤ out then
    if out < (heads.length : Int) then
    if ((heads.getD i.toNat ref25_Head.z).Queue) < ((heads.getD out.toNat ref25_Head.z).Queue) then
    ref25_Front_l0 k group heads i (w64 (i + 1)) else
    ref25_Front_l0 k group heads out (w64 (i + 1)) else none else none else
    ref25_Front_l0 k group heads out (w64 (i + 1)) else none else none else none else none else
    ref25_Front_l0 k group heads out (w64 (i + 1)) else none else none else
    some out
noncomputable def ref25_Front_f (k : Nat) (group : List Int) (heads : List ref25_Head) : Option Int := ref25_Front_l0 k group heads (-1) 0
noncomputable def ref25_Front (group : List Int) (heads : List ref25_Head) : Option Int := lim (fun k (x : List Int × List ref25_Head) => ref25_Front_f k x.1 x.2) (group, heads)
noncomputable abbrev ref25_Front_T : Tab S := ⟨[⟨44, [.val (.data (.sl (.int .i64))), .val (.data (.int .i64))], [.val (.data .bool)], fun x => ref3_Has x.1 x.2⟩], []⟩
noncomputable def ref25_Front_L (k : Nat) : Nat → Option (Lab S Int)
  | 0 => some ⟨[0, 1, 5, 6], [.val (.data (.sl (.int .i64))), .val (.data (.sl (.st 2))), .val (.data (.int .i64)), .val (.data (.int .i64))], fun x => ref25_Front_l0 k x.1 x.2.1 x.2.2.1 x.2.2.2⟩
  | _ + 1 => none
theorem ref25_Front_eq (k : Nat) (group : List Int) (heads : List ref25_Head) : ref25_Front_f k group heads = exec S (ref25_Front_T) byt (labs S (ref25_Front_T) (ref25_Front_L k)) (ac [] Try.f28) (frame0 S [.val (.data (.sl (.int .i64))), .val (.data (.sl (.st 2)))] (group, heads)) (retK S (ref25_Front_T) Try.f28 [.val (.data (.sl (.int .i64))), .val (.data (.sl (.st 2)))] [.val (.data (.int .i64))]) := by kernel_rfl
theorem ref25_Front_vc (k : Nat) : VC S (ref25_Front_T) byt (ref25_Front_L k) (ref25_Front_L (k + 1)) (ac [] Try.f28) (retK S (ref25_Front_T) Try.f28 [.val (.data (.sl (.int .i64))), .val (.data (.sl (.st 2)))] [.val (.data (.int .i64))]) = [∀ x : List Int × List ref25_Head × Int × Int, ref25_Front_l0 (k + 1) x.1 x.2.1 x.2.2.1 x.2.2.2 = ref25_Front_l0 (k + 1) x.1 x.2.1 x.2.2.1 x.2.2.2] := by kernel_rfl
theorem ref25_Front_sndk (k : Nat) : Snd Try.prog S ⟨28, [.val (.data (.sl (.int .i64))), .val (.data (.sl (.st 2)))], [.val (.data (.int .i64))], fun x => ref25_Front_f k x.1 x.2⟩ :=
  fn_ok progOk (T := (ref25_Front_T)) (all_cons ref3_Has_snd (all_nil)) (all_nil) mixed Try.func28 rfl (by kernel_rfl) (ac_code [] Try.f28 rfl) (L := ref25_Front_L)
    (fun n l h x => by match n, h with
        | 0, h => cases h; rfl
        | _ + 1, h => cases h) (fun k n l h => by match n, h with
        | 0, h => cases h; rfl
        | _ + 1, h => cases h)
    (fun k => All.mem (ref25_Front_vc k) ⟨fun _ => rfl, trivial⟩) (fun x r h => ⟨k, (ref25_Front_eq k x.1 x.2).symm.trans h⟩) (by kernel_rfl) (by kernel_rfl) (Nat.le_of_ble_eq_true (by kernel_rfl))
theorem ref25_Front_snd : Snd Try.prog S ⟨28, [.val (.data (.sl (.int .i64))), .val (.data (.sl (.st 2)))], [.val (.data (.int .i64))], fun x => ref25_Front x.1 x.2⟩ := Snd.lim ref25_Front_sndk
/-! ### 29 cotillion/turn.Rank -/
noncomputable def turn_Rank  (h : turn_Head) (now : Int) (age : Int) : Option Int := if age < 1 then
    some h.Prio else
    if ¬ age = 0 then
    some (w64 (h.Prio + (w64 ((w64 (now - h.Since)).tdiv age)))) else none
noncomputable abbrev turn_Rank_T : Tab S := ⟨[], []⟩
noncomputable def turn_Rank_L (k : Nat) : Nat → Option (Lab S Int)
  | _ => none
theorem turn_Rank_eq (k : Nat) (h : turn_Head) (now : Int) (age : Int) : turn_Rank h now age = exec S (turn_Rank_T) byt (labs S (turn_Rank_T) (turn_Rank_L k)) (ac [] Try.f29) (frame0 S [.val (.data (.st 1)), .val (.data (.int .i64)), .val (.data (.int .i64))] (h, now, age)) (retK S (turn_Rank_T) Try.f29 [.val (.data (.st 1)), .val (.data (.int .i64)), .val (.data (.int .i64))] [.val (.data (.int .i64))]) := by kernel_rfl
theorem turn_Rank_vc (k : Nat) : VC S (turn_Rank_T) byt (turn_Rank_L k) (turn_Rank_L (k + 1)) (ac [] Try.f29) (retK S (turn_Rank_T) Try.f29 [.val (.data (.st 1)), .val (.data (.int .i64)), .val (.data (.int .i64))] [.val (.data (.int .i64))]) = [] := by kernel_rfl
theorem turn_Rank_snd : Snd Try.prog S ⟨29, [.val (.data (.st 1)), .val (.data (.int .i64)), .val (.data (.int .i64))], [.val (.data (.int .i64))], fun x => turn_Rank x.1 x.2.1 x.2.2⟩ :=
  fn_ok progOk (T := (turn_Rank_T)) (all_nil) (all_nil) mixed Try.func29 rfl (by kernel_rfl) (ac_code [] Try.f29 rfl) (L := turn_Rank_L)
    (fun n l h x => by cases h) (fun k n l h => by cases h)
    (fun k => All.mem (turn_Rank_vc k) trivial) (fun x r h => ⟨0, (turn_Rank_eq 0 x.1 x.2.1 x.2.2).symm.trans h⟩) (by kernel_rfl) (by kernel_rfl) (Nat.le_of_ble_eq_true (by kernel_rfl))
/-! ### 30 cotillion/cotillionref25.Rank -/
noncomputable def ref25_Rank  (h : ref25_Head) (now : Int) (age : Int) : Option Int := if ¬ age = 0 then some (w64 (h.Prio + (w64 ((w64 (now - h.Since)).tdiv age)))) else none
noncomputable abbrev ref25_Rank_T : Tab S := ⟨[], []⟩
noncomputable def ref25_Rank_L (k : Nat) : Nat → Option (Lab S Int)
  | _ => none
theorem ref25_Rank_eq (k : Nat) (h : ref25_Head) (now : Int) (age : Int) : ref25_Rank h now age = exec S (ref25_Rank_T) byt (labs S (ref25_Rank_T) (ref25_Rank_L k)) (ac [] Try.f30) (frame0 S [.val (.data (.st 2)), .val (.data (.int .i64)), .val (.data (.int .i64))] (h, now, age)) (retK S (ref25_Rank_T) Try.f30 [.val (.data (.st 2)), .val (.data (.int .i64)), .val (.data (.int .i64))] [.val (.data (.int .i64))]) := by kernel_rfl
theorem ref25_Rank_vc (k : Nat) : VC S (ref25_Rank_T) byt (ref25_Rank_L k) (ref25_Rank_L (k + 1)) (ac [] Try.f30) (retK S (ref25_Rank_T) Try.f30 [.val (.data (.st 2)), .val (.data (.int .i64)), .val (.data (.int .i64))] [.val (.data (.int .i64))]) = [] := by kernel_rfl
theorem ref25_Rank_snd : Snd Try.prog S ⟨30, [.val (.data (.st 2)), .val (.data (.int .i64)), .val (.data (.int .i64))], [.val (.data (.int .i64))], fun x => ref25_Rank x.1 x.2.1 x.2.2⟩ :=
  fn_ok progOk (T := (ref25_Rank_T)) (all_nil) (all_nil) mixed Try.func30 rfl (by kernel_rfl) (ac_code [] Try.f30 rfl) (L := ref25_Rank_L)
    (fun n l h x => by cases h) (fun k n l h => by cases h)
    (fun k => All.mem (ref25_Rank_vc k) trivial) (fun x r h => ⟨0, (ref25_Rank_eq 0 x.1 x.2.1 x.2.2).symm.trans h⟩) (by kernel_rfl) (by kernel_rfl) (Nat.le_of_ble_eq_true (by kernel_rfl))
/-! ### 31 cotillion/turn.Choose -/
noncomputable def turn_Choose_l0 : Nat → (List turn_Head) → Int → Int → Int → (List (List Int)) → Int → Int → Option Int
  | 0, _, _, _, _, _, _, _ => none
  | k + 1, heads, now, age, best, x13, x14, x15 => if x15 < x14 then
    if 0 ≤ x15 then
    if x15 < (x13.length : Int) then
    (turn_Front (x13.getD x15.toNat []) heads).bind fun r1 =>
    if r1 < 0 then
    turn_Choose_l0 k heads now age best x13 x14 (w64 (x15 + 1)) else
    if 0 ≤ r1 then
    if r1 < (heads.length : Int) then
    bif !((heads.getD r1.toNat turn_Head.z).May) then
    turn_Choose_l0 k heads now age best x13 x14 (w64 (x15 + 1)) else
    if best < 0 then
    turn_Choose_l0 k heads now age r1 x13 x14 (w64 (x15 + 1)) else
    if 0 ≤ best then
    if best < (heads.length : Int) then
    (turn_Rank (heads.getD best.toNat turn_Head.z) now age).bind fun r2 =>
    if 0 ≤ r1 then
    if r1 < (heads.length : Int) then
    (turn_Rank (heads.getD r1.toNat turn_Head.z) now age).bind fun r3 =>
    (cmp_Compare_int r2 r3).bind fun r4 =>
    if 0 ≤ r1 then
    if r1 < (heads.length : Int) then
    if 0 ≤ best then
    if best < (heads.length : Int) then
    (turn_elder (heads.getD r1.toNat turn_Head.z) (heads.getD best.toNat turn_Head.z)).bind fun r5 =>
    (cmp_Or_int [r4, r5]).bind fun r6 =>
    if r6 < 0 then
    turn_Choose_l0 k heads now age r1 x13 x14 (w64 (x15 + 1)) else
    turn_Choose_l0 k heads now age best x13 x14 (w64 (x15 + 1)) else none else none else none else none else none else none else none else none else none else none else none else none else
    if best < 0 then
    some (-1) else
    if 0 ≤ best then
    if best < (heads.length : Int) then
    some ((heads.getD best.toNat turn_Head.z).Queue) else none else none
noncomputable def turn_Choose_f (k : Nat) (groups : List (List Int)) (heads : List turn_Head) (now : Int) (age : Int) : Option Int := turn_Choose_l0 k heads now age (-1) groups (groups.length : Int) 0
noncomputable def turn_Choose (groups : List (List Int)) (heads : List turn_Head) (now : Int) (age : Int) : Option Int := lim (fun k (x : List (List Int) × List turn_Head × Int × Int) => turn_Choose_f k x.1 x.2.1 x.2.2.1 x.2.2.2) (groups, heads, now, age)
noncomputable abbrev turn_Choose_T : Tab S := ⟨[⟨27, [.val (.data (.sl (.int .i64))), .val (.data (.sl (.st 1)))], [.val (.data (.int .i64))], fun x => turn_Front x.1 x.2⟩, ⟨29, [.val (.data (.st 1)), .val (.data (.int .i64)), .val (.data (.int .i64))], [.val (.data (.int .i64))], fun x => turn_Rank x.1 x.2.1 x.2.2⟩, ⟨46, [.val (.data (.int .i64)), .val (.data (.int .i64))], [.val (.data (.int .i64))], fun x => cmp_Compare_int x.1 x.2⟩, ⟨43, [.val (.data (.st 1)), .val (.data (.st 1))], [.val (.data (.int .i64))], fun x => turn_elder x.1 x.2⟩, ⟨45, [.val (.data (.sl (.int .i64)))], [.val (.data (.int .i64))], fun x => cmp_Or_int x⟩], []⟩
noncomputable def turn_Choose_L (k : Nat) : Nat → Option (Lab S Int)
  | 0 => some ⟨[1, 2, 3, 9, 13, 14, 15], [.val (.data (.sl (.st 1))), .val (.data (.int .i64)), .val (.data (.int .i64)), .val (.data (.int .i64)), .val (.data (.sl (.sl (.int .i64)))), .val (.data (.int .i64)), .val (.data (.int .i64))], fun x => turn_Choose_l0 k x.1 x.2.1 x.2.2.1 x.2.2.2.1 x.2.2.2.2.1 x.2.2.2.2.2.1 x.2.2.2.2.2.2⟩
  | _ + 1 => none
theorem turn_Choose_eq (k : Nat) (groups : List (List Int)) (heads : List turn_Head) (now : Int) (age : Int) : turn_Choose_f k groups heads now age = exec S (turn_Choose_T) byt (labs S (turn_Choose_T) (turn_Choose_L k)) (ac [] Try.f31) (frame0 S [.val (.data (.sl (.sl (.int .i64)))), .val (.data (.sl (.st 1))), .val (.data (.int .i64)), .val (.data (.int .i64))] (groups, heads, now, age)) (retK S (turn_Choose_T) Try.f31 [.val (.data (.sl (.sl (.int .i64)))), .val (.data (.sl (.st 1))), .val (.data (.int .i64)), .val (.data (.int .i64))] [.val (.data (.int .i64))]) := by kernel_rfl
theorem turn_Choose_vc (k : Nat) : VC S (turn_Choose_T) byt (turn_Choose_L k) (turn_Choose_L (k + 1)) (ac [] Try.f31) (retK S (turn_Choose_T) Try.f31 [.val (.data (.sl (.sl (.int .i64)))), .val (.data (.sl (.st 1))), .val (.data (.int .i64)), .val (.data (.int .i64))] [.val (.data (.int .i64))]) = [∀ x : List turn_Head × Int × Int × Int × List (List Int) × Int × Int, turn_Choose_l0 (k + 1) x.1 x.2.1 x.2.2.1 x.2.2.2.1 x.2.2.2.2.1 x.2.2.2.2.2.1 x.2.2.2.2.2.2 = turn_Choose_l0 (k + 1) x.1 x.2.1 x.2.2.1 x.2.2.2.1 x.2.2.2.2.1 x.2.2.2.2.2.1 x.2.2.2.2.2.2] := by kernel_rfl
theorem turn_Choose_sndk (k : Nat) : Snd Try.prog S ⟨31, [.val (.data (.sl (.sl (.int .i64)))), .val (.data (.sl (.st 1))), .val (.data (.int .i64)), .val (.data (.int .i64))], [.val (.data (.int .i64))], fun x => turn_Choose_f k x.1 x.2.1 x.2.2.1 x.2.2.2⟩ :=
  fn_ok progOk (T := (turn_Choose_T)) (all_cons turn_Front_snd (all_cons turn_Rank_snd (all_cons cmp_Compare_int_snd (all_cons turn_elder_snd (all_cons cmp_Or_int_snd (all_nil)))))) (all_nil) mixed Try.func31 rfl (by kernel_rfl) (ac_code [] Try.f31 rfl) (L := turn_Choose_L)
    (fun n l h x => by match n, h with
        | 0, h => cases h; rfl
        | _ + 1, h => cases h) (fun k n l h => by match n, h with
        | 0, h => cases h; rfl
        | _ + 1, h => cases h)
    (fun k => All.mem (turn_Choose_vc k) ⟨fun _ => rfl, trivial⟩) (fun x r h => ⟨k, (turn_Choose_eq k x.1 x.2.1 x.2.2.1 x.2.2.2).symm.trans h⟩) (by kernel_rfl) (by kernel_rfl) (Nat.le_of_ble_eq_true (by kernel_rfl))
theorem turn_Choose_snd : Snd Try.prog S ⟨31, [.val (.data (.sl (.sl (.int .i64)))), .val (.data (.sl (.st 1))), .val (.data (.int .i64)), .val (.data (.int .i64))], [.val (.data (.int .i64))], fun x => turn_Choose x.1 x.2.1 x.2.2.1 x.2.2.2⟩ := Snd.lim turn_Choose_sndk
/-! ### 47 cotillion/cotillionref25.ahead -/
noncomputable def ref25_ahead  (a : ref25_Head) (b : ref25_Head) (now : Int) (age : Int) : Option Bool := (ref25_Rank a now age).bind fun r1 =>
    (ref25_Rank b now age).bind fun r2 =>
    if r2 < r1 then
    some true else
    if r1 = r2 then
    if a.Since < b.Since then
    some true else
    if a.Since = b.Since then
    some (decide (a.Queue < b.Queue)) else
    some false else
    some false
noncomputable abbrev ref25_ahead_T : Tab S := ⟨[⟨30, [.val (.data (.st 2)), .val (.data (.int .i64)), .val (.data (.int .i64))], [.val (.data (.int .i64))], fun x => ref25_Rank x.1 x.2.1 x.2.2⟩], []⟩
noncomputable def ref25_ahead_L (k : Nat) : Nat → Option (Lab S Bool)
  | _ => none
theorem ref25_ahead_eq (k : Nat) (a : ref25_Head) (b : ref25_Head) (now : Int) (age : Int) : ref25_ahead a b now age = exec S (ref25_ahead_T) byt (labs S (ref25_ahead_T) (ref25_ahead_L k)) (ac [] Try.f47) (frame0 S [.val (.data (.st 2)), .val (.data (.st 2)), .val (.data (.int .i64)), .val (.data (.int .i64))] (a, b, now, age)) (retK S (ref25_ahead_T) Try.f47 [.val (.data (.st 2)), .val (.data (.st 2)), .val (.data (.int .i64)), .val (.data (.int .i64))] [.val (.data .bool)]) := by kernel_rfl
theorem ref25_ahead_vc (k : Nat) : VC S (ref25_ahead_T) byt (ref25_ahead_L k) (ref25_ahead_L (k + 1)) (ac [] Try.f47) (retK S (ref25_ahead_T) Try.f47 [.val (.data (.st 2)), .val (.data (.st 2)), .val (.data (.int .i64)), .val (.data (.int .i64))] [.val (.data .bool)]) = [] := by kernel_rfl
theorem ref25_ahead_snd : Snd Try.prog S ⟨47, [.val (.data (.st 2)), .val (.data (.st 2)), .val (.data (.int .i64)), .val (.data (.int .i64))], [.val (.data .bool)], fun x => ref25_ahead x.1 x.2.1 x.2.2.1 x.2.2.2⟩ :=
  fn_ok progOk (T := (ref25_ahead_T)) (all_cons ref25_Rank_snd (all_nil)) (all_nil) mixed Try.func47 rfl (by kernel_rfl) (ac_code [] Try.f47 rfl) (L := ref25_ahead_L)
    (fun n l h x => by cases h) (fun k n l h => by cases h)
    (fun k => All.mem (ref25_ahead_vc k) trivial) (fun x r h => ⟨0, (ref25_ahead_eq 0 x.1 x.2.1 x.2.2.1 x.2.2.2).symm.trans h⟩) (by kernel_rfl) (by kernel_rfl) (Nat.le_of_ble_eq_true (by kernel_rfl))
/-! ### 32 cotillion/cotillionref25.Choose -/
noncomputable def ref25_Choose_l0 : Nat → (List (List Int)) → (List ref25_Head) → Int → Int → Int → Int → Option Int
  | 0, _, _, _, _, _, _ => none
  | k + 1, groups, heads, now, age, out, g => if g < (groups.length : Int) then
    if 0 ≤ g then
    if g < (groups.length : Int) then
    (ref25_Front (groups.getD g.toNat []) heads).bind fun r1 =>
    if 0 ≤ r1 then
    if 0 ≤ r1 then
    if r1 < (heads.length : Int) then
    bif (heads.getD r1.toNat ref25_Head.z).May then
    if out < 0 then
    ref25_Choose_l0 k groups heads now age r1 (w64 (g + 1)) else
    if 0 ≤ r1 then
    if r1 < (heads.length : Int) then
    if 0 ≤ out then
    if out < (heads.length : Int) then
    (ref25_ahead (heads.getD r1.toNat ref25_Head.z) (heads.getD out.toNat ref25_Head.z) now age).bind fun r2 =>
    bif r2 then
    ref25_Choose_l0 k groups heads now age r1 (w64 (g + 1)) else
    ref25_Choose_l0 k groups heads now age out (w64 (g + 1)) else none else none else none else none else
    ref25_Choose_l0 k groups heads now age out (w64 (g + 1)) else none else none else
    ref25_Choose_l0 k groups heads now age out (w64 (g + 1)) else none else none else
    if out < 0 then
    some (-1) else
    if 0 ≤ out then
    if out < (heads.length : Int) then
    some ((heads.getD out.toNat ref25_Head.z).Queue) else none else none
noncomputable def ref25_Choose_f (k : Nat) (groups : List (List Int)) (heads : List ref25_Head) (now : Int) (age : Int) : Option Int := ref25_Choose_l0 k groups heads now age (-1) 0
noncomputable def ref25_Choose (groups : List (List Int)) (heads : List ref25_Head) (now : Int) (age : Int) : Option Int := lim (fun k (x : List (List Int) × List ref25_Head × Int × Int) => ref25_Choose_f k x.1 x.2.1 x.2.2.1 x.2.2.2) (groups, heads, now, age)
noncomputable abbrev ref25_Choose_T : Tab S := ⟨[⟨28, [.val (.data (.sl (.int .i64))), .val (.data (.sl (.st 2)))], [.val (.data (.int .i64))], fun x => ref25_Front x.1 x.2⟩, ⟨47, [.val (.data (.st 2)), .val (.data (.st 2)), .val (.data (.int .i64)), .val (.data (.int .i64))], [.val (.data .bool)], fun x => ref25_ahead x.1 x.2.1 x.2.2.1 x.2.2.2⟩], []⟩
noncomputable def ref25_Choose_L (k : Nat) : Nat → Option (Lab S Int)
  | 0 => some ⟨[0, 1, 2, 3, 9, 10], [.val (.data (.sl (.sl (.int .i64)))), .val (.data (.sl (.st 2))), .val (.data (.int .i64)), .val (.data (.int .i64)), .val (.data (.int .i64)), .val (.data (.int .i64))], fun x => ref25_Choose_l0 k x.1 x.2.1 x.2.2.1 x.2.2.2.1 x.2.2.2.2.1 x.2.2.2.2.2⟩
  | _ + 1 => none
theorem ref25_Choose_eq (k : Nat) (groups : List (List Int)) (heads : List ref25_Head) (now : Int) (age : Int) : ref25_Choose_f k groups heads now age = exec S (ref25_Choose_T) byt (labs S (ref25_Choose_T) (ref25_Choose_L k)) (ac [] Try.f32) (frame0 S [.val (.data (.sl (.sl (.int .i64)))), .val (.data (.sl (.st 2))), .val (.data (.int .i64)), .val (.data (.int .i64))] (groups, heads, now, age)) (retK S (ref25_Choose_T) Try.f32 [.val (.data (.sl (.sl (.int .i64)))), .val (.data (.sl (.st 2))), .val (.data (.int .i64)), .val (.data (.int .i64))] [.val (.data (.int .i64))]) := by kernel_rfl
theorem ref25_Choose_vc (k : Nat) : VC S (ref25_Choose_T) byt (ref25_Choose_L k) (ref25_Choose_L (k + 1)) (ac [] Try.f32) (retK S (ref25_Choose_T) Try.f32 [.val (.data (.sl (.sl (.int .i64)))), .val (.data (.sl (.st 2))), .val (.data (.int .i64)), .val (.data (.int .i64))] [.val (.data (.int .i64))]) = [∀ x : List (List Int) × List ref25_Head × Int × Int × Int × Int, ref25_Choose_l0 (k + 1) x.1 x.2.1 x.2.2.1 x.2.2.2.1 x.2.2.2.2.1 x.2.2.2.2.2 = ref25_Choose_l0 (k + 1) x.1 x.2.1 x.2.2.1 x.2.2.2.1 x.2.2.2.2.1 x.2.2.2.2.2] := by kernel_rfl
theorem ref25_Choose_sndk (k : Nat) : Snd Try.prog S ⟨32, [.val (.data (.sl (.sl (.int .i64)))), .val (.data (.sl (.st 2))), .val (.data (.int .i64)), .val (.data (.int .i64))], [.val (.data (.int .i64))], fun x => ref25_Choose_f k x.1 x.2.1 x.2.2.1 x.2.2.2⟩ :=
  fn_ok progOk (T := (ref25_Choose_T)) (all_cons ref25_Front_snd (all_cons ref25_ahead_snd (all_nil))) (all_nil) mixed Try.func32 rfl (by kernel_rfl) (ac_code [] Try.f32 rfl) (L := ref25_Choose_L)
    (fun n l h x => by match n, h with
        | 0, h => cases h; rfl
        | _ + 1, h => cases h) (fun k n l h => by match n, h with
        | 0, h => cases h; rfl
        | _ + 1, h => cases h)
    (fun k => All.mem (ref25_Choose_vc k) ⟨fun _ => rfl, trivial⟩) (fun x r h => ⟨k, (ref25_Choose_eq k x.1 x.2.1 x.2.2.1 x.2.2.2).symm.trans h⟩) (by kernel_rfl) (by kernel_rfl) (Nat.le_of_ble_eq_true (by kernel_rfl))
theorem ref25_Choose_snd : Snd Try.prog S ⟨32, [.val (.data (.sl (.sl (.int .i64)))), .val (.data (.sl (.st 2))), .val (.data (.int .i64)), .val (.data (.int .i64))], [.val (.data (.int .i64))], fun x => ref25_Choose x.1 x.2.1 x.2.2.1 x.2.2.2⟩ := Snd.lim ref25_Choose_sndk
/-! ### 33 cotillion/cotillionlaw25.known -/
noncomputable def law25_known  : Option Bool := (turn_Choose [[3], [1]] [turn_Head.mk 3 10 7 true, turn_Head.mk 1 2 0 true] 10 1).bind fun r1 =>
    if r1 = 1 then
    (turn_Choose [[3], [1]] [turn_Head.mk 3 10 7 true, turn_Head.mk 1 2 0 true] 10 2).bind fun r2 =>
    if r2 = 3 then
    (turn_Front [1, 3] [turn_Head.mk 3 10 7 true, turn_Head.mk 1 2 0 true]).bind fun r3 =>
    if r3 = 1 then
    if (0 : Int) ≤ 1 then
    if 1 < ([turn_Head.mk 3 10 7 true, turn_Head.mk 1 2 0 true].length : Int) then
    (turn_Rank ([turn_Head.mk 3 10 7 true, turn_Head.mk 1 2 0 true].getD (1 : Int).toNat turn_Head.z) 10 3).bind fun r4 =>
    if r4 = 2 then
    (turn_Choose [] [turn_Head.mk 3 10 7 true, turn_Head.mk 1 2 0 true] 10 1).bind fun r5 =>
    some (decide (r5 = (-1))) else
    some false else none else none else
    some false else
    some false else
    some false
noncomputable abbrev law25_known_T : Tab S := ⟨[⟨31, [.val (.data (.sl (.sl (.int .i64)))), .val (.data (.sl (.st 1))), .val (.data (.int .i64)), .val (.data (.int .i64))], [.val (.data (.int .i64))], fun x => turn_Choose x.1 x.2.1 x.2.2.1 x.2.2.2⟩, ⟨27, [.val (.data (.sl (.int .i64))), .val (.data (.sl (.st 1)))], [.val (.data (.int .i64))], fun x => turn_Front x.1 x.2⟩, ⟨29, [.val (.data (.st 1)), .val (.data (.int .i64)), .val (.data (.int .i64))], [.val (.data (.int .i64))], fun x => turn_Rank x.1 x.2.1 x.2.2⟩], []⟩
noncomputable def law25_known_L (k : Nat) : Nat → Option (Lab S Bool)
  | _ => none
theorem law25_known_eq (k : Nat) : law25_known = exec S (law25_known_T) byt (labs S (law25_known_T) (law25_known_L k)) (ac [] Try.f33) (frame0 S [] ()) (retK S (law25_known_T) Try.f33 [] [.val (.data .bool)]) := by kernel_rfl
theorem law25_known_vc (k : Nat) : VC S (law25_known_T) byt (law25_known_L k) (law25_known_L (k + 1)) (ac [] Try.f33) (retK S (law25_known_T) Try.f33 [] [.val (.data .bool)]) = [] := by kernel_rfl
theorem law25_known_snd : Snd Try.prog S ⟨33, [], [.val (.data .bool)], fun x => law25_known⟩ :=
  fn_ok progOk (T := (law25_known_T)) (all_cons turn_Choose_snd (all_cons turn_Front_snd (all_cons turn_Rank_snd (all_nil)))) (all_nil) mixed Try.func33 rfl (by kernel_rfl) (ac_code [] Try.f33 rfl) (L := law25_known_L)
    (fun n l h x => by cases h) (fun k n l h => by cases h)
    (fun k => All.mem (law25_known_vc k) trivial) (fun x r h => ⟨0, (law25_known_eq 0).symm.trans h⟩) (by kernel_rfl) (by kernel_rfl) (Nat.le_of_ble_eq_true (by kernel_rfl))
/-! ### 8 cotillion/cotillionlaw25.TurnTells -/
noncomputable def law25_TurnTells_l1 : Nat → Int → Int → (List turn_Head) → (List ref25_Head) → (List (List Int)) → Int → Option Bool
  | 0, _, _, _, _, _, _ => none
  | k + 1, n, k_, a, b, groups, i => if i < (a.length : Int) then
    if 0 ≤ i then
    if i < (a.length : Int) then
    (turn_Rank (a.getD i.toNat turn_Head.z) n k_).bind fun r4 =>
    if 0 ≤ i then
    if i < (b.length : Int) then
    (ref25_Rank (b.getD i.toNat ref25_Head.z) n k_).bind fun r5 =>
    if r4 ≠ r5 then
    some false else
    law25_TurnTells_l1 k n k_ a b groups (w64 (i + 1)) else none else none else none else none else
    (turn_Choose groups a n k_).bind fun r6 =>
    (ref25_Choose groups b n k_).bind fun r7 =>
    if r6 = r7 then
    (law25_known).bind fun r8 =>
    some r8 else
    some false
noncomputable def law25_TurnTells_l0 : Nat → Int → Int → (List turn_Head) → (List ref25_Head) → (List (List Int)) → Int → Option Bool
  | 0, _, _, _, _, _, _ => none
  | k + 1, n, k_, a, b, groups, i => if i < (groups.length : Int) then
    if 0 ≤ i then
    if i < (groups.length : Int) then
    (turn_Front (groups.getD i.toNat []) a).bind fun r2 =>
    if 0 ≤ i then
    if i < (groups.length : Int) then
    (ref25_Front (groups.getD i.toNat []) b).bind fun r3 =>
    if r2 ≠ r3 then
    some false else
    law25_TurnTells_l0 k n k_ a b groups (w64 (i + 1)) else none else none else none else none else
    law25_TurnTells_l1 k n k_ a b groups 0
noncomputable def law25_TurnTells_f (k : Nat) (l : List law25_Raw) (g : List Int) (now : Int) (age : Int) : Option Bool := if ¬ (3000 : Int) = 0 then
    if ¬ (300 : Int) = 0 then
    (law25_heads l g ((w64 now).tmod 3000)).bind fun r1 =>
    law25_TurnTells_l0 k ((w64 now).tmod 3000) (w64 (1 + ((w64 age).tmod 300))) r1.1 r1.2.1 r1.2.2 0 else none else none
noncomputable def law25_TurnTells (l : List law25_Raw) (g : List Int) (now : Int) (age : Int) : Option Bool := lim (fun k (x : List law25_Raw × List Int × Int × Int) => law25_TurnTells_f k x.1 x.2.1 x.2.2.1 x.2.2.2) (l, g, now, age)
noncomputable abbrev law25_TurnTells_T : Tab S := ⟨[⟨26, [.val (.data (.sl (.st 0))), .val (.data (.sl (.int .u8))), .val (.data (.int .i64))], [.val (.town (.st 1)), .val (.town (.st 2)), .val (.marr (.sl (.int .i64)))], fun x => law25_heads x.1 x.2.1 x.2.2⟩, ⟨27, [.val (.data (.sl (.int .i64))), .val (.data (.sl (.st 1)))], [.val (.data (.int .i64))], fun x => turn_Front x.1 x.2⟩, ⟨28, [.val (.data (.sl (.int .i64))), .val (.data (.sl (.st 2)))], [.val (.data (.int .i64))], fun x => ref25_Front x.1 x.2⟩, ⟨29, [.val (.data (.st 1)), .val (.data (.int .i64)), .val (.data (.int .i64))], [.val (.data (.int .i64))], fun x => turn_Rank x.1 x.2.1 x.2.2⟩, ⟨30, [.val (.data (.st 2)), .val (.data (.int .i64)), .val (.data (.int .i64))], [.val (.data (.int .i64))], fun x => ref25_Rank x.1 x.2.1 x.2.2⟩, ⟨31, [.val (.data (.sl (.sl (.int .i64)))), .val (.data (.sl (.st 1))), .val (.data (.int .i64)), .val (.data (.int .i64))], [.val (.data (.int .i64))], fun x => turn_Choose x.1 x.2.1 x.2.2.1 x.2.2.2⟩, ⟨32, [.val (.data (.sl (.sl (.int .i64)))), .val (.data (.sl (.st 2))), .val (.data (.int .i64)), .val (.data (.int .i64))], [.val (.data (.int .i64))], fun x => ref25_Choose x.1 x.2.1 x.2.2.1 x.2.2.2⟩, ⟨33, [], [.val (.data .bool)], fun x => law25_known⟩], []⟩
noncomputable def law25_TurnTells_L (k : Nat) : Nat → Option (Lab S Bool)
  | 0 => some ⟨[9, 10, 11, 12, 13, 14], [.val (.data (.int .i64)), .val (.data (.int .i64)), .val (.town (.st 1)), .val (.town (.st 2)), .val (.marr (.sl (.int .i64))), .val (.data (.int .i64))], fun x => law25_TurnTells_l0 k x.1 x.2.1 x.2.2.1 x.2.2.2.1 x.2.2.2.2.1 x.2.2.2.2.2⟩
  | 1 => none
  | 2 => some ⟨[9, 10, 11, 12, 13, 15], [.val (.data (.int .i64)), .val (.data (.int .i64)), .val (.town (.st 1)), .val (.town (.st 2)), .val (.marr (.sl (.int .i64))), .val (.data (.int .i64))], fun x => law25_TurnTells_l1 k x.1 x.2.1 x.2.2.1 x.2.2.2.1 x.2.2.2.2.1 x.2.2.2.2.2⟩
  | _ + 3 => none
theorem law25_TurnTells_eq (k : Nat) (l : List law25_Raw) (g : List Int) (now : Int) (age : Int) : law25_TurnTells_f k l g now age = exec S (law25_TurnTells_T) byt (labs S (law25_TurnTells_T) (law25_TurnTells_L k)) (ac [] Try.f8) (frame0 S [.val (.data (.sl (.st 0))), .val (.data (.sl (.int .u8))), .val (.data (.int .u16)), .val (.data (.int .u16))] (l, g, now, age)) (retK S (law25_TurnTells_T) Try.f8 [.val (.data (.sl (.st 0))), .val (.data (.sl (.int .u8))), .val (.data (.int .u16)), .val (.data (.int .u16))] [.val (.data .bool)]) := by kernel_rfl
theorem law25_TurnTells_vc (k : Nat) : VC S (law25_TurnTells_T) byt (law25_TurnTells_L k) (law25_TurnTells_L (k + 1)) (ac [] Try.f8) (retK S (law25_TurnTells_T) Try.f8 [.val (.data (.sl (.st 0))), .val (.data (.sl (.int .u8))), .val (.data (.int .u16)), .val (.data (.int .u16))] [.val (.data .bool)]) = [∀ x : Int × Int × List turn_Head × List ref25_Head × List (List Int) × Int, law25_TurnTells_l0 (k + 1) x.1 x.2.1 x.2.2.1 x.2.2.2.1 x.2.2.2.2.1 x.2.2.2.2.2 = law25_TurnTells_l0 (k + 1) x.1 x.2.1 x.2.2.1 x.2.2.2.1 x.2.2.2.2.1 x.2.2.2.2.2, ∀ x : Int × Int × List turn_Head × List ref25_Head × List (List Int) × Int, law25_TurnTells_l1 (k + 1) x.1 x.2.1 x.2.2.1 x.2.2.2.1 x.2.2.2.2.1 x.2.2.2.2.2 = law25_TurnTells_l1 (k + 1) x.1 x.2.1 x.2.2.1 x.2.2.2.1 x.2.2.2.2.1 x.2.2.2.2.2] := by kernel_rfl
theorem law25_TurnTells_sndk (k : Nat) : Snd Try.prog S ⟨8, [.val (.data (.sl (.st 0))), .val (.data (.sl (.int .u8))), .val (.data (.int .u16)), .val (.data (.int .u16))], [.val (.data .bool)], fun x => law25_TurnTells_f k x.1 x.2.1 x.2.2.1 x.2.2.2⟩ :=
  fn_ok progOk (T := (law25_TurnTells_T)) (all_cons law25_heads_snd (all_cons turn_Front_snd (all_cons ref25_Front_snd (all_cons turn_Rank_snd (all_cons ref25_Rank_snd (all_cons turn_Choose_snd (all_cons ref25_Choose_snd (all_cons law25_known_snd (all_nil))))))))) (all_nil) mixed Try.func8 rfl (by kernel_rfl) (ac_code [] Try.f8 rfl) (L := law25_TurnTells_L)
    (fun n l h x => by match n, h with
        | 0, h => cases h; rfl
        | 1, h => cases h
        | 2, h => cases h; rfl
        | _ + 3, h => cases h) (fun k n l h => by match n, h with
        | 0, h => cases h; rfl
        | 1, h => cases h
        | 2, h => cases h; rfl
        | _ + 3, h => cases h)
    (fun k => All.mem (law25_TurnTells_vc k) ⟨fun _ => rfl, ⟨fun _ => rfl, trivial⟩⟩) (fun x r h => ⟨k, (law25_TurnTells_eq k x.1 x.2.1 x.2.2.1 x.2.2.2).symm.trans h⟩) (by kernel_rfl) (by kernel_rfl) (Nat.le_of_ble_eq_true (by kernel_rfl))
theorem law25_TurnTells_snd : Snd Try.prog S ⟨8, [.val (.data (.sl (.st 0))), .val (.data (.sl (.int .u8))), .val (.data (.int .u16)), .val (.data (.int .u16))], [.val (.data .bool)], fun x => law25_TurnTells x.1 x.2.1 x.2.2.1 x.2.2.2⟩ := Snd.lim law25_TurnTells_sndk
/-! ### 9 cotillion/cotillionlaw25.TurnAged -/
noncomputable def law25_TurnAged_l0 : Nat → (List turn_Head) → (List (List Int)) → Int → Option Bool
  | 0, _, _, _ => none
  | k + 1, a, groups, i => if i < (groups.length : Int) then
    if 0 ≤ i then
    if i < (groups.length : Int) then
    (turn_Front (groups.getD i.toNat []) a).bind fun r3 =>
    if (a.length : Int) ≤ r3 then
    some false else
    if 0 ≤ r3 then
    if 0 ≤ r3 then
    if r3 < (a.length : Int) then
    bif (a.getD r3.toNat turn_Head.z).May then
    some false else
    law25_TurnAged_l0 k a groups (w64 (i + 1)) else none else none else
    law25_TurnAged_l0 k a groups (w64 (i + 1)) else none else none else
    (law25_known).bind fun r4 =>
    some r4
noncomputable def law25_TurnAged_l2 : Nat → Int → (List turn_Head) → (List (List Int)) → Int → Int → Option Bool
  | 0, _, _, _, _, _ => none
  | k + 1, k_, a, groups, v_at, i => if i < (groups.length : Int) then
    if 0 ≤ i then
    if i < (groups.length : Int) then
    (turn_Front (groups.getD i.toNat []) a).bind fun r5 =>
    if (a.length : Int) ≤ r5 then
    some false else
    if 0 ≤ r5 then
    if 0 ≤ r5 then
    if r5 < (a.length : Int) then
    bif (a.getD r5.toNat turn_Head.z).May then
    if 0 ≤ v_at then
    if v_at < (a.length : Int) then
    if 0 ≤ r5 then
    if r5 < (a.length : Int) then
    if (w64 (((a.getD r5.toNat turn_Head.z).Since) + (w64 (8 * k_)))) ≤ ((a.getD v_at.toNat turn_Head.z).Since) then
    some false else
    law25_TurnAged_l2 k k_ a groups v_at (w64 (i + 1)) else none else none else none else none else
    law25_TurnAged_l2 k k_ a groups v_at (w64 (i + 1)) else none else none else
    law25_TurnAged_l2 k k_ a groups v_at (w64 (i + 1)) else none else none else
    (law25_known).bind fun r6 =>
    some r6
noncomputable def law25_TurnAged_l1 : Nat → Int → (List turn_Head) → (List (List Int)) → Int → Int → Int → Option Bool
  | 0, _, _, _, _, _, _ => none
  | k + 1, k_, a, groups, q, v_at, i => if i < (a.length : Int) then
    if 0 ≤ i then
    if i < (a.length : Int) then
    if ((a.getD i.toNat turn_Head.z).Queue) = q then
    law25_TurnAged_l1 k k_ a groups q i (w64 (i + 1)) else
    law25_TurnAged_l1 k k_ a groups q v_at (w64 (i + 1)) else none else none else
    if v_at < 0 then
    some false else
    law25_TurnAged_l2 k k_ a groups v_at 0
noncomputable def law25_TurnAged_f (k : Nat) (l : List law25_Raw) (g : List Int) (now : Int) (age : Int) : Option Bool := if ¬ (3000 : Int) = 0 then
    if ¬ (40 : Int) = 0 then
    (law25_heads l g ((w64 now).tmod 3000)).bind fun r1 =>
    (turn_Choose r1.2.2 r1.1 ((w64 now).tmod 3000) (w64 (1 + ((w64 age).tmod 40)))).bind fun r2 =>
    if r2 < 0 then
    law25_TurnAged_l0 k r1.1 r1.2.2 0 else
    law25_TurnAged_l1 k (w64 (1 + ((w64 age).tmod 40))) r1.1 r1.2.2 r2 (-1) 0 else none else none
noncomputable def law25_TurnAged (l : List law25_Raw) (g : List Int) (now : Int) (age : Int) : Option Bool := lim (fun k (x : List law25_Raw × List Int × Int × Int) => law25_TurnAged_f k x.1 x.2.1 x.2.2.1 x.2.2.2) (l, g, now, age)
noncomputable abbrev law25_TurnAged_T : Tab S := ⟨[⟨26, [.val (.data (.sl (.st 0))), .val (.data (.sl (.int .u8))), .val (.data (.int .i64))], [.val (.town (.st 1)), .val (.town (.st 2)), .val (.marr (.sl (.int .i64)))], fun x => law25_heads x.1 x.2.1 x.2.2⟩, ⟨31, [.val (.data (.sl (.sl (.int .i64)))), .val (.data (.sl (.st 1))), .val (.data (.int .i64)), .val (.data (.int .i64))], [.val (.data (.int .i64))], fun x => turn_Choose x.1 x.2.1 x.2.2.1 x.2.2.2⟩, ⟨27, [.val (.data (.sl (.int .i64))), .val (.data (.sl (.st 1)))], [.val (.data (.int .i64))], fun x => turn_Front x.1 x.2⟩, ⟨33, [], [.val (.data .bool)], fun x => law25_known⟩], []⟩
noncomputable def law25_TurnAged_L (k : Nat) : Nat → Option (Lab S Bool)
  | 0 => some ⟨[11, 13, 15], [.val (.town (.st 1)), .val (.marr (.sl (.int .i64))), .val (.data (.int .i64))], fun x => law25_TurnAged_l0 k x.1 x.2.1 x.2.2⟩
  | 1 => none
  | 2 => some ⟨[10, 11, 13, 14, 17, 18], [.val (.data (.int .i64)), .val (.town (.st 1)), .val (.marr (.sl (.int .i64))), .val (.data (.int .i64)), .val (.data (.int .i64)), .val (.data (.int .i64))], fun x => law25_TurnAged_l1 k x.1 x.2.1 x.2.2.1 x.2.2.2.1 x.2.2.2.2.1 x.2.2.2.2.2⟩
  | 3 => none
  | 4 => some ⟨[10, 11, 13, 17, 19], [.val (.data (.int .i64)), .val (.town (.st 1)), .val (.marr (.sl (.int .i64))), .val (.data (.int .i64)), .val (.data (.int .i64))], fun x => law25_TurnAged_l2 k x.1 x.2.1 x.2.2.1 x.2.2.2.1 x.2.2.2.2⟩
  | _ + 5 => none
theorem law25_TurnAged_eq (k : Nat) (l : List law25_Raw) (g : List Int) (now : Int) (age : Int) : law25_TurnAged_f k l g now age = exec S (law25_TurnAged_T) byt (labs S (law25_TurnAged_T) (law25_TurnAged_L k)) (ac [] Try.f9) (frame0 S [.val (.data (.sl (.st 0))), .val (.data (.sl (.int .u8))), .val (.data (.int .u16)), .val (.data (.int .u8))] (l, g, now, age)) (retK S (law25_TurnAged_T) Try.f9 [.val (.data (.sl (.st 0))), .val (.data (.sl (.int .u8))), .val (.data (.int .u16)), .val (.data (.int .u8))] [.val (.data .bool)]) := by kernel_rfl
theorem law25_TurnAged_vc (k : Nat) : VC S (law25_TurnAged_T) byt (law25_TurnAged_L k) (law25_TurnAged_L (k + 1)) (ac [] Try.f9) (retK S (law25_TurnAged_T) Try.f9 [.val (.data (.sl (.st 0))), .val (.data (.sl (.int .u8))), .val (.data (.int .u16)), .val (.data (.int .u8))] [.val (.data .bool)]) = [∀ x : List turn_Head × List (List Int) × Int, law25_TurnAged_l0 (k + 1) x.1 x.2.1 x.2.2 = law25_TurnAged_l0 (k + 1) x.1 x.2.1 x.2.2, ∀ x : Int × List turn_Head × List (List Int) × Int × Int × Int, law25_TurnAged_l1 (k + 1) x.1 x.2.1 x.2.2.1 x.2.2.2.1 x.2.2.2.2.1 x.2.2.2.2.2 = law25_TurnAged_l1 (k + 1) x.1 x.2.1 x.2.2.1 x.2.2.2.1 x.2.2.2.2.1 x.2.2.2.2.2, ∀ x : Int × List turn_Head × List (List Int) × Int × Int, law25_TurnAged_l2 (k + 1) x.1 x.2.1 x.2.2.1 x.2.2.2.1 x.2.2.2.2 = law25_TurnAged_l2 (k + 1) x.1 x.2.1 x.2.2.1 x.2.2.2.1 x.2.2.2.2] := by kernel_rfl
theorem law25_TurnAged_sndk (k : Nat) : Snd Try.prog S ⟨9, [.val (.data (.sl (.st 0))), .val (.data (.sl (.int .u8))), .val (.data (.int .u16)), .val (.data (.int .u8))], [.val (.data .bool)], fun x => law25_TurnAged_f k x.1 x.2.1 x.2.2.1 x.2.2.2⟩ :=
  fn_ok progOk (T := (law25_TurnAged_T)) (all_cons law25_heads_snd (all_cons turn_Choose_snd (all_cons turn_Front_snd (all_cons law25_known_snd (all_nil))))) (all_nil) mixed Try.func9 rfl (by kernel_rfl) (ac_code [] Try.f9 rfl) (L := law25_TurnAged_L)
    (fun n l h x => by match n, h with
        | 0, h => cases h; rfl
        | 1, h => cases h
        | 2, h => cases h; rfl
        | 3, h => cases h
        | 4, h => cases h; rfl
        | _ + 5, h => cases h) (fun k n l h => by match n, h with
        | 0, h => cases h; rfl
        | 1, h => cases h
        | 2, h => cases h; rfl
        | 3, h => cases h
        | 4, h => cases h; rfl
        | _ + 5, h => cases h)
    (fun k => All.mem (law25_TurnAged_vc k) ⟨fun _ => rfl, ⟨fun _ => rfl, ⟨fun _ => rfl, trivial⟩⟩⟩) (fun x r h => ⟨k, (law25_TurnAged_eq k x.1 x.2.1 x.2.2.1 x.2.2.2).symm.trans h⟩) (by kernel_rfl) (by kernel_rfl) (Nat.le_of_ble_eq_true (by kernel_rfl))
theorem law25_TurnAged_snd : Snd Try.prog S ⟨9, [.val (.data (.sl (.st 0))), .val (.data (.sl (.int .u8))), .val (.data (.int .u16)), .val (.data (.int .u8))], [.val (.data .bool)], fun x => law25_TurnAged x.1 x.2.1 x.2.2.1 x.2.2.2⟩ := Snd.lim law25_TurnAged_sndk
/-! ### 10 cotillion/cotillionlaw25.TurnElder -/
noncomputable def law25_TurnElder_l0 : Nat → (List Int) → Int → Int → (List turn_Head) → (List (List Int)) → Int → Int → Option Bool
  | 0, _, _, _, _, _, _, _ => none
  | k + 1, since, prio, age, a, groups, best, i => if i < (since.length : Int) then
    if 0 ≤ i then
    if i < (since.length : Int) then
    if ¬ (8 : Int) = 0 then
    if (a.length + [turn_Head.mk i (w64 (since.getD i.toNat 0)) ((w64 prio).tmod 8) true].length) * 32 ≤ 140737488355328 then
    if (groups.length + [[i]].length) * 24 ≤ 140737488355328 then
    if 0 ≤ i then
    if i < (since.length : Int) then
    if 0 ≤ best then
    if best < (since.length : Int) then
    if (since.getD i.toNat 0) < (since.getD best.toNat 0) then
    law25_TurnElder_l0 k since prio age (a ++ [turn_Head.mk i (w64 (since.getD i.toNat 0)) ((w64 prio).tmod 8) true]) (groups ++ [[i]]) i (w64 (i + 1)) else
    law25_TurnElder_l0 k since prio age (a ++ [turn_Head.mk i (w64 (since.getD i.toNat 0)) ((w64 prio).tmod 8) true]) (groups ++ [[i]]) best (w64 (i + 1)) else none else none else none else none else none else none else none else none else none else
    (turn_Choose groups a 131072 (w64 (1 + (w64 age)))).bind fun r3 =>
    if r3 = best then
    (law25_known).bind fun r4 =>
    some r4 else
    some false
noncomputable def law25_TurnElder_f (k : Nat) (since : List Int) (prio : Int) (age : Int) : Option Bool := if (since.length : Int) = 0 then
    (law25_known).bind fun r1 =>
    some r1 else
    if 20 < (since.length : Int) then
    (law25_known).bind fun r2 =>
    some r2 else
    law25_TurnElder_l0 k since prio age [] [] 0 0
noncomputable def law25_TurnElder (since : List Int) (prio : Int) (age : Int) : Option Bool := lim (fun k (x : List Int × Int × Int) => law25_TurnElder_f k x.1 x.2.1 x.2.2) (since, prio, age)
noncomputable abbrev law25_TurnElder_T : Tab S := ⟨[⟨33, [], [.val (.data .bool)], fun x => law25_known⟩, ⟨31, [.val (.data (.sl (.sl (.int .i64)))), .val (.data (.sl (.st 1))), .val (.data (.int .i64)), .val (.data (.int .i64))], [.val (.data (.int .i64))], fun x => turn_Choose x.1 x.2.1 x.2.2.1 x.2.2.2⟩], []⟩
noncomputable def law25_TurnElder_L (k : Nat) : Nat → Option (Lab S Bool)
  | 0 => some ⟨[0, 1, 2, 7, 8, 9, 10], [.val (.data (.sl (.int .u16))), .val (.data (.int .u8)), .val (.data (.int .u8)), .val (.town (.st 1)), .val (.town (.sl (.int .i64))), .val (.data (.int .i64)), .val (.data (.int .i64))], fun x => law25_TurnElder_l0 k x.1 x.2.1 x.2.2.1 x.2.2.2.1 x.2.2.2.2.1 x.2.2.2.2.2.1 x.2.2.2.2.2.2⟩
  | _ + 1 => none
theorem law25_TurnElder_eq (k : Nat) (since : List Int) (prio : Int) (age : Int) : law25_TurnElder_f k since prio age = exec S (law25_TurnElder_T) byt (labs S (law25_TurnElder_T) (law25_TurnElder_L k)) (ac [] Try.f10) (frame0 S [.val (.data (.sl (.int .u16))), .val (.data (.int .u8)), .val (.data (.int .u8))] (since, prio, age)) (retK S (law25_TurnElder_T) Try.f10 [.val (.data (.sl (.int .u16))), .val (.data (.int .u8)), .val (.data (.int .u8))] [.val (.data .bool)]) := by kernel_rfl
theorem law25_TurnElder_vc (k : Nat) : VC S (law25_TurnElder_T) byt (law25_TurnElder_L k) (law25_TurnElder_L (k + 1)) (ac [] Try.f10) (retK S (law25_TurnElder_T) Try.f10 [.val (.data (.sl (.int .u16))), .val (.data (.int .u8)), .val (.data (.int .u8))] [.val (.data .bool)]) = [∀ x : List Int × Int × Int × List turn_Head × List (List Int) × Int × Int, law25_TurnElder_l0 (k + 1) x.1 x.2.1 x.2.2.1 x.2.2.2.1 x.2.2.2.2.1 x.2.2.2.2.2.1 x.2.2.2.2.2.2 = law25_TurnElder_l0 (k + 1) x.1 x.2.1 x.2.2.1 x.2.2.2.1 x.2.2.2.2.1 x.2.2.2.2.2.1 x.2.2.2.2.2.2] := by kernel_rfl
theorem law25_TurnElder_sndk (k : Nat) : Snd Try.prog S ⟨10, [.val (.data (.sl (.int .u16))), .val (.data (.int .u8)), .val (.data (.int .u8))], [.val (.data .bool)], fun x => law25_TurnElder_f k x.1 x.2.1 x.2.2⟩ :=
  fn_ok progOk (T := (law25_TurnElder_T)) (all_cons law25_known_snd (all_cons turn_Choose_snd (all_nil))) (all_nil) mixed Try.func10 rfl (by kernel_rfl) (ac_code [] Try.f10 rfl) (L := law25_TurnElder_L)
    (fun n l h x => by match n, h with
        | 0, h => cases h; rfl
        | _ + 1, h => cases h) (fun k n l h => by match n, h with
        | 0, h => cases h; rfl
        | _ + 1, h => cases h)
    (fun k => All.mem (law25_TurnElder_vc k) ⟨fun _ => rfl, trivial⟩) (fun x r h => ⟨k, (law25_TurnElder_eq k x.1 x.2.1 x.2.2).symm.trans h⟩) (by kernel_rfl) (by kernel_rfl) (Nat.le_of_ble_eq_true (by kernel_rfl))
theorem law25_TurnElder_snd : Snd Try.prog S ⟨10, [.val (.data (.sl (.int .u16))), .val (.data (.int .u8)), .val (.data (.int .u8))], [.val (.data .bool)], fun x => law25_TurnElder x.1 x.2.1 x.2.2⟩ := Snd.lim law25_TurnElder_sndk
/-! ### 34 cotillion/cotillionlaw25.has -/
noncomputable def law25_has_l0 : Nat → (List Int) → Int → Int → Option Bool
  | 0, _, _, _ => none
  | k + 1, l, n, i => if i < (l.length : Int) then
    if 0 ≤ i then
    if i < (l.length : Int) then
    if (l.getD i.toNat 0) = n then
    some true else
    law25_has_l0 k l n (w64 (i + 1)) else none else none else
    some false
noncomputable def law25_has_f (k : Nat) (l : List Int) (n : Int) : Option Bool := law25_has_l0 k l n 0
noncomputable def law25_has (l : List Int) (n : Int) : Option Bool := lim (fun k (x : List Int × Int) => law25_has_f k x.1 x.2) (l, n)
noncomputable abbrev law25_has_T : Tab S := ⟨[], []⟩
noncomputable def law25_has_L (k : Nat) : Nat → Option (Lab S Bool)
  | 0 => some ⟨[0, 1, 5], [.val (.data (.sl (.int .i64))), .val (.data (.int .i64)), .val (.data (.int .i64))], fun x => law25_has_l0 k x.1 x.2.1 x.2.2⟩
  | _ + 1 => none
theorem law25_has_eq (k : Nat) (l : List Int) (n : Int) : law25_has_f k l n = exec S (law25_has_T) byt (labs S (law25_has_T) (law25_has_L k)) (ac [] Try.f34) (frame0 S [.val (.data (.sl (.int .i64))), .val (.data (.int .i64))] (l, n)) (retK S (law25_has_T) Try.f34 [.val (.data (.sl (.int .i64))), .val (.data (.int .i64))] [.val (.data .bool)]) := by kernel_rfl
theorem law25_has_vc (k : Nat) : VC S (law25_has_T) byt (law25_has_L k) (law25_has_L (k + 1)) (ac [] Try.f34) (retK S (law25_has_T) Try.f34 [.val (.data (.sl (.int .i64))), .val (.data (.int .i64))] [.val (.data .bool)]) = [∀ x : List Int × Int × Int, law25_has_l0 (k + 1) x.1 x.2.1 x.2.2 = law25_has_l0 (k + 1) x.1 x.2.1 x.2.2] := by kernel_rfl
theorem law25_has_sndk (k : Nat) : Snd Try.prog S ⟨34, [.val (.data (.sl (.int .i64))), .val (.data (.int .i64))], [.val (.data .bool)], fun x => law25_has_f k x.1 x.2⟩ :=
  fn_ok progOk (T := (law25_has_T)) (all_nil) (all_nil) mixed Try.func34 rfl (by kernel_rfl) (ac_code [] Try.f34 rfl) (L := law25_has_L)
    (fun n l h x => by match n, h with
        | 0, h => cases h; rfl
        | _ + 1, h => cases h) (fun k n l h => by match n, h with
        | 0, h => cases h; rfl
        | _ + 1, h => cases h)
    (fun k => All.mem (law25_has_vc k) ⟨fun _ => rfl, trivial⟩) (fun x r h => ⟨k, (law25_has_eq k x.1 x.2).symm.trans h⟩) (by kernel_rfl) (by kernel_rfl) (Nat.le_of_ble_eq_true (by kernel_rfl))
theorem law25_has_snd : Snd Try.prog S ⟨34, [.val (.data (.sl (.int .i64))), .val (.data (.int .i64))], [.val (.data .bool)], fun x => law25_has x.1 x.2⟩ := Snd.lim law25_has_sndk
/-! ### 11 cotillion/cotillionlaw25.TurnStands -/
mutual
noncomputable def law25_TurnStands_l0 : Nat → (List turn_Head) → (List (List Int)) → Int → Int → Option Bool
  | 0, _, _, _, _ => none
  | k + 1, a, groups, q, i => if i < (a.length : Int) then
    if 0 ≤ q then
    if 0 ≤ i then
    if i < (a.length : Int) then
    if ((a.getD i.toNat turn_Head.z).Queue) ≠ q then
    law25_TurnStands_l0 k a groups q (w64 (i + 1)) else
    if 0 ≤ i then
    if i < (a.length : Int) then
    bif !((a.getD i.toNat turn_Head.z).May) then
    some false else
    law25_TurnStands_l1 k a groups q i 0 else none else none else none else none else
    if q < 20 then
    if (-1) ≤ q then
    (law25_known).bind fun r3 =>
    some r3 else
    some false else
    some false else
    if q < 20 then
    if (-1) ≤ q then
    (law25_known).bind fun r4 =>
    some r4 else
    some false else
    some false
noncomputable def law25_TurnStands_l1 : Nat → (List turn_Head) → (List (List Int)) → Int → Int → Int → Option Bool
  | 0, _, _, _, _, _ => none
  | k + 1, a, groups, q, i, x => if x < (groups.length : Int) then
    if 0 ≤ x then
    if x < (groups.length : Int) then
    (law25_has (groups.getD x.toNat []) q).bind fun r5 =>
    bif r5 then
    if 0 ≤ x then
    if x < (groups.length : Int) then
    (turn_Front (groups.getD x.toNat []) a).bind fun r6 =>
    if r6 ≠ i then
    some false else
    law25_TurnStands_l1 k a groups q i (w64 (x + 1)) else none else none else
    law25_TurnStands_l1 k a groups q i (w64 (x + 1)) else none else none else
    law25_TurnStands_l0 k a groups q (w64 (i + 1))
end
noncomputable def law25_TurnStands_f (k : Nat) (l : List law25_Raw) (g : List Int) (now : Int) (age : Int) : Option Bool := if ¬ (3000 : Int) = 0 then
    (law25_heads l g ((w64 now).tmod 3000)).bind fun r1 =>
    (turn_Choose r1.2.2 r1.1 ((w64 now).tmod 3000) (w64 (1 + (w64 age)))).bind fun r2 =>
    law25_TurnStands_l0 k r1.1 r1.2.2 r2 0 else none
noncomputable def law25_TurnStands (l : List law25_Raw) (g : List Int) (now : Int) (age : Int) : Option Bool := lim (fun k (x : List law25_Raw × List Int × Int × Int) => law25_TurnStands_f k x.1 x.2.1 x.2.2.1 x.2.2.2) (l, g, now, age)
noncomputable abbrev law25_TurnStands_T : Tab S := ⟨[⟨26, [.val (.data (.sl (.st 0))), .val (.data (.sl (.int .u8))), .val (.data (.int .i64))], [.val (.town (.st 1)), .val (.town (.st 2)), .val (.marr (.sl (.int .i64)))], fun x => law25_heads x.1 x.2.1 x.2.2⟩, ⟨31, [.val (.data (.sl (.sl (.int .i64)))), .val (.data (.sl (.st 1))), .val (.data (.int .i64)), .val (.data (.int .i64))], [.val (.data (.int .i64))], fun x => turn_Choose x.1 x.2.1 x.2.2.1 x.2.2.2⟩, ⟨33, [], [.val (.data .bool)], fun x => law25_known⟩, ⟨34, [.val (.data (.sl (.int .i64))), .val (.data (.int .i64))], [.val (.data .bool)], fun x => law25_has x.1 x.2⟩, ⟨27, [.val (.data (.sl (.int .i64))), .val (.data (.sl (.st 1)))], [.val (.data (.int .i64))], fun x => turn_Front x.1 x.2⟩], []⟩
noncomputable def law25_TurnStands_L (k : Nat) : Nat → Option (Lab S Bool)
  | 0 => some ⟨[11, 13, 14, 15], [.val (.town (.st 1)), .val (.marr (.sl (.int .i64))), .val (.data (.int .i64)), .val (.data (.int .i64))], fun x => law25_TurnStands_l0 k x.1 x.2.1 x.2.2.1 x.2.2.2⟩
  | 1 => none
  | 2 => some ⟨[11, 13, 14, 15, 16], [.val (.town (.st 1)), .val (.marr (.sl (.int .i64))), .val (.data (.int .i64)), .val (.data (.int .i64)), .val (.data (.int .i64))], fun x => law25_TurnStands_l1 k x.1 x.2.1 x.2.2.1 x.2.2.2.1 x.2.2.2.2⟩
  | _ + 3 => none
theorem law25_TurnStands_eq (k : Nat) (l : List law25_Raw) (g : List Int) (now : Int) (age : Int) : law25_TurnStands_f k l g now age = exec S (law25_TurnStands_T) byt (labs S (law25_TurnStands_T) (law25_TurnStands_L k)) (ac [] Try.f11) (frame0 S [.val (.data (.sl (.st 0))), .val (.data (.sl (.int .u8))), .val (.data (.int .u16)), .val (.data (.int .u8))] (l, g, now, age)) (retK S (law25_TurnStands_T) Try.f11 [.val (.data (.sl (.st 0))), .val (.data (.sl (.int .u8))), .val (.data (.int .u16)), .val (.data (.int .u8))] [.val (.data .bool)]) := by kernel_rfl
theorem law25_TurnStands_vc (k : Nat) : VC S (law25_TurnStands_T) byt (law25_TurnStands_L k) (law25_TurnStands_L (k + 1)) (ac [] Try.f11) (retK S (law25_TurnStands_T) Try.f11 [.val (.data (.sl (.st 0))), .val (.data (.sl (.int .u8))), .val (.data (.int .u16)), .val (.data (.int .u8))] [.val (.data .bool)]) = [∀ x : List turn_Head × List (List Int) × Int × Int × Int, law25_TurnStands_l1 (k + 1) x.1 x.2.1 x.2.2.1 x.2.2.2.1 x.2.2.2.2 = law25_TurnStands_l1 (k + 1) x.1 x.2.1 x.2.2.1 x.2.2.2.1 x.2.2.2.2, ∀ x : List turn_Head × List (List Int) × Int × Int, law25_TurnStands_l0 (k + 1) x.1 x.2.1 x.2.2.1 x.2.2.2 = law25_TurnStands_l0 (k + 1) x.1 x.2.1 x.2.2.1 x.2.2.2] := by kernel_rfl
theorem law25_TurnStands_sndk (k : Nat) : Snd Try.prog S ⟨11, [.val (.data (.sl (.st 0))), .val (.data (.sl (.int .u8))), .val (.data (.int .u16)), .val (.data (.int .u8))], [.val (.data .bool)], fun x => law25_TurnStands_f k x.1 x.2.1 x.2.2.1 x.2.2.2⟩ :=
  fn_ok progOk (T := (law25_TurnStands_T)) (all_cons law25_heads_snd (all_cons turn_Choose_snd (all_cons law25_known_snd (all_cons law25_has_snd (all_cons turn_Front_snd (all_nil)))))) (all_nil) mixed Try.func11 rfl (by kernel_rfl) (ac_code [] Try.f11 rfl) (L := law25_TurnStands_L)
    (fun n l h x => by match n, h with
        | 0, h => cases h; rfl
        | 1, h => cases h
        | 2, h => cases h; rfl
        | _ + 3, h => cases h) (fun k n l h => by match n, h with
        | 0, h => cases h; rfl
        | 1, h => cases h
        | 2, h => cases h; rfl
        | _ + 3, h => cases h)
    (fun k => All.mem (law25_TurnStands_vc k) ⟨fun _ => rfl, ⟨fun _ => rfl, trivial⟩⟩) (fun x r h => ⟨k, (law25_TurnStands_eq k x.1 x.2.1 x.2.2.1 x.2.2.2).symm.trans h⟩) (by kernel_rfl) (by kernel_rfl) (Nat.le_of_ble_eq_true (by kernel_rfl))
theorem law25_TurnStands_snd : Snd Try.prog S ⟨11, [.val (.data (.sl (.st 0))), .val (.data (.sl (.int .u8))), .val (.data (.int .u16)), .val (.data (.int .u8))], [.val (.data .bool)], fun x => law25_TurnStands x.1 x.2.1 x.2.2.1 x.2.2.2⟩ := Snd.lim law25_TurnStands_sndk
end Go.Sy.Tu
/-! Plain laws over turn. -/
namespace Go.Sy.Tu
open Go.Sy
theorem isNaN_eq (a : Int) : cmp_isNaN_int a = some false := by simp [cmp_isNaN_int]
/-- -1, 0, 1. -/
def cmpI (a b : Int) : Int := if a < b then -1 else if b < a then 1 else 0
theorem Compare_eq (a b : Int) : cmp_Compare_int a b = some (cmpI a b) := by
  unfold cmp_Compare_int cmpI
  simp only [isNaN_eq, bind_some_eq, cond_false]
  split
  · rfl
  · split <;> rfl
def orI : List Int → Int
  | [] => 0
  | a :: l => if a ≠ 0 then a else orI l
theorem drop_cons {α : Type} {l : List α} {n : Nat} (h : n < l.length) : l.drop n = l[n] :: l.drop (n + 1) := List.drop_eq_getElem_cons h
theorem Or_l (l : List Int) (hl : l.length < 1000000000000) : ∀ m k n, n + m = l.length → m < k → cmp_Or_int_l0 k 0 l (l.length : Int) (n : Int) = some (orI (l.drop n)) := by
  intro m
  induction m with
  | zero =>
    intro k n h hk
    obtain ⟨k, rfl⟩ : ∃ j, k = j + 1 := ⟨k - 1, by omega⟩
    simp only [cmp_Or_int_l0]
    rw [if_neg (by omega), List.drop_eq_nil_of_le (by omega)]; rfl
  | succ m ih =>
    intro k n h hk
    obtain ⟨k, rfl⟩ : ∃ j, k = j + 1 := ⟨k - 1, by omega⟩
    simp only [cmp_Or_int_l0]
    rw [if_pos (by omega), if_pos (by omega), if_pos (by omega), w64_in (by omega) (by omega), drop_cons (show n < l.length by omega), Int.toNat_natCast, getD_lt _ (show n < l.length by omega)]
    simp only [orI]
    split
    · rfl
    · exact ih k (n + 1) (by omega) (by omega)
theorem Or_eq (l : List Int) (hl : l.length < 1000000000000) : cmp_Or_int l = some (orI l) :=
  lim_eq (l.length + 1) fun k hk => Or_l l hl l.length k 0 (by omega) (by omega)
def elderI (a b : turn_Head) : Int := orI [cmpI a.Since b.Since, cmpI a.Queue b.Queue]
theorem elder_eq (a b : turn_Head) : turn_elder a b = some (elderI a b) := by
  unfold turn_elder
  simp only [Compare_eq, bind_some_eq]
  rw [Or_eq _ (by simp)]
  rfl
theorem elderI_neg (a b : turn_Head) : elderI a b < 0 ↔ a.Since < b.Since ∨ (a.Since = b.Since ∧ a.Queue < b.Queue) := by
  unfold elderI orI orI orI cmpI
  repeat' split
  all_goals omega
theorem Index_l (s : List Int) (v : Int) (hl : s.length < 1000000000000) : ∀ m k n, n + m = s.length → m < k → slices_Index_int_int_l0 k s v (s.length : Int) (n : Int) = some (if v ∈ s.drop n then ((n + (s.drop n).idxOf v : Nat) : Int) else -1) := by
  intro m
  induction m with
  | zero =>
    intro k n h hk
    obtain ⟨k, rfl⟩ : ∃ j, k = j + 1 := ⟨k - 1, by omega⟩
    simp only [slices_Index_int_int_l0]
    rw [if_neg (by omega), List.drop_eq_nil_of_le (by omega)]; rfl
  | succ m ih =>
    intro k n h hk
    obtain ⟨k, rfl⟩ : ∃ j, k = j + 1 := ⟨k - 1, by omega⟩
    simp only [slices_Index_int_int_l0]
    rw [if_pos (by omega), if_pos (by omega), if_pos (by omega), w64_in (by omega) (by omega), drop_cons (show n < s.length by omega), Int.toNat_natCast, getD_lt _ (show n < s.length by omega)]
    by_cases e : v = s[n]
    · rw [if_pos e, if_pos (by rw [e]; exact List.mem_cons_self), List.idxOf_cons, show (s[n] == v) = true from by rw [e]; exact beq_self_eq_true _]
      rfl
    · rw [if_neg e, show (n : Int) + 1 = ((n + 1 : Nat) : Int) from by omega, ih k (n + 1) (by omega) (by omega)]
      by_cases hm : v ∈ s.drop (n + 1)
      · rw [if_pos hm, if_pos (List.mem_cons_of_mem _ hm), List.idxOf_cons, show (s[n] == v) = false from by simp [Ne.symm e]]
        simp only [cond_false]; congr 1; omega
      · rw [if_neg hm, if_neg (fun hc => by rcases List.mem_cons.1 hc with h1 | h1; exact e h1; exact hm h1)]
theorem Index_eq (s : List Int) (v : Int) (hl : s.length < 1000000000000) : slices_Index_int_int s v = some (if v ∈ s then ((s.idxOf v : Nat) : Int) else -1) :=
  lim_eq (s.length + 1) fun k hk => by
    have := Index_l s v hl s.length k 0 (by omega) (by omega)
    rw [List.drop_zero, Nat.zero_add] at this
    exact this
theorem Contains_eq (s : List Int) (v : Int) (hl : s.length < 1000000000000) : slices_Contains_int_int s v = some (decide (v ∈ s)) := by
  unfold slices_Contains_int_int
  rw [Index_eq s v hl, bind_some_eq]
  split
  · rename_i h; simp [h]
  · rename_i h; simp [h]
/-- One round of Front. -/
def frontS (g : List Int) (hs : List turn_Head) (f : Int) (n : Nat) : Int :=
  if (hs.getD n turn_Head.z).Queue ∈ g ∧ (f < 0 ∨ elderI (hs.getD n turn_Head.z) (hs.getD f.toNat turn_Head.z) < 0) then (n : Int) else f
theorem Front_l (g : List Int) (hs : List turn_Head) (hg : g.length < 1000000000000) (hl : hs.length < 1000000000000) : ∀ m k n f, n + m = hs.length → m < k → (-1 : Int) ≤ f → f < (hs.length : Int) →
    turn_Front_l0 k g hs f hs (hs.length : Int) (n : Int) = some ((List.range' n m).foldl (frontS g hs) f) := by
  intro m
  induction m with
  | zero =>
    intro k n f h hk h1 h2
    obtain ⟨k, rfl⟩ : ∃ j, k = j + 1 := ⟨k - 1, by omega⟩
    simp only [turn_Front_l0]
    rw [if_neg (by omega)]; rfl
  | succ m ih =>
    intro k n f h hk h1 h2
    obtain ⟨k, rfl⟩ : ∃ j, k = j + 1 := ⟨k - 1, by omega⟩
    simp only [turn_Front_l0]
    rw [if_pos (by omega), if_pos (by omega), if_pos (by omega), Contains_eq _ _ hg, bind_some_eq, w64_in (by omega) (by omega), List.range'_succ, List.foldl_cons, Int.toNat_natCast]
    have ih := fun f h1 h2 => ih k (n + 1) f (by omega) (by omega) h1 h2
    rw [show ((n + 1 : Nat) : Int) = (n : Int) + 1 from by omega] at ih
    unfold frontS
    by_cases hm : (hs.getD n turn_Head.z).Queue ∈ g
    · simp only [hm, decide_true, cond_true, true_and]
      by_cases hf : f < 0
      · simp only [hf, if_true, true_or]
        exact ih _ (by omega) (by omega)
      · simp only [hf, if_false, false_or]
        rw [if_pos (by omega), if_pos (by omega), elder_eq, bind_some_eq]
        by_cases he : elderI (hs.getD n turn_Head.z) (hs.getD f.toNat turn_Head.z) < 0
        · rw [if_pos he, if_pos he]; exact ih _ (by omega) (by omega)
        · rw [if_neg he, if_neg he]; exact ih _ (by omega) (by omega)
    · simp only [hm, decide_false, cond_false, false_and, if_false]
      exact ih _ h1 h2
def front (g : List Int) (hs : List turn_Head) : Int := (List.range' 0 hs.length).foldl (frontS g hs) (-1)
theorem Front_eq (g : List Int) (hs : List turn_Head) (hg : g.length < 1000000000000) (hl : hs.length < 1000000000000) : turn_Front g hs = some (front g hs) :=
  lim_eq (hs.length + 1) fun k hk => Front_l g hs hg hl hs.length k 0 (-1) (by omega) (by omega) (by omega) (by omega)
end Go.Sy.Tu
/-! Plain laws over turn: the choice. -/
namespace Go.Sy.Tu
open Go.Sy
def rankI (h : turn_Head) (now age : Int) : Int := if age < 1 then h.Prio else w64 (h.Prio + (w64 ((w64 (now - h.Since)).tdiv age)))
theorem Rank_eq (h : turn_Head) (now age : Int) : turn_Rank h now age = some (rankI h now age) := by
  unfold turn_Rank rankI
  split
  · rfl
  · rw [if_pos (by omega)]
theorem frontS_lt (g : List Int) (hs : List turn_Head) {f : Int} {n : Nat} (hn : n < hs.length) (h1 : -1 ≤ f) (h2 : f < (hs.length : Int)) : -1 ≤ frontS g hs f n ∧ frontS g hs f n < (hs.length : Int) := by
  unfold frontS; split <;> omega
theorem front_fold (g : List Int) (hs : List turn_Head) : ∀ m n f, n + m = hs.length → (-1 : Int) ≤ f → f < (hs.length : Int) → -1 ≤ (List.range' n m).foldl (frontS g hs) f ∧ (List.range' n m).foldl (frontS g hs) f < (hs.length : Int) := by
  intro m
  induction m with
  | zero => intro n f _ h1 h2; exact ⟨h1, h2⟩
  | succ m ih =>
    intro n f h h1 h2
    rw [List.range'_succ, List.foldl_cons]
    have := frontS_lt g hs (show n < hs.length by omega) h1 h2
    exact ih (n + 1) _ (by omega) this.1 this.2
theorem front_lt (g : List Int) (hs : List turn_Head) : -1 ≤ front g hs ∧ front g hs < (hs.length : Int) := front_fold g hs _ 0 _ (by omega) (by omega) (by omega)
def hd (hs : List turn_Head) (i : Int) : turn_Head := hs.getD i.toNat turn_Head.z
/-- One round of Choose. -/
def chooseS (gs : List (List Int)) (hs : List turn_Head) (now age : Int) (b : Int) (n : Nat) : Int :=
  let i := front (gs.getD n []) hs
  if i < 0 ∨ (hd hs i).May = false then b
  else if b < 0 ∨ orI [cmpI (rankI (hd hs b) now age) (rankI (hd hs i) now age), elderI (hd hs i) (hd hs b)] < 0 then i else b
def chooseEnd (hs : List turn_Head) (b : Int) : Int := if b < 0 then -1 else (hd hs b).Queue
theorem chooseS_lt (gs : List (List Int)) (hs : List turn_Head) (now age : Int) {b : Int} {n : Nat} (h1 : -1 ≤ b) (h2 : b < (hs.length : Int)) : -1 ≤ chooseS gs hs now age b n ∧ chooseS gs hs now age b n < (hs.length : Int) := by
  have := front_lt (gs.getD n []) hs
  unfold chooseS; dsimp only
  split
  · omega
  · split <;> omega
theorem Choose_l (gs : List (List Int)) (hs : List turn_Head) (now age : Int) (hg : ∀ g ∈ gs, g.length < 1000000000000) (hgl : gs.length < 1000000000000) (hl : hs.length < 1000000000000) : ∀ m k n b, n + m = gs.length → m < k → (-1 : Int) ≤ b → b < (hs.length : Int) →
    turn_Choose_l0 k hs now age b gs (gs.length : Int) (n : Int) = some (chooseEnd hs ((List.range' n m).foldl (chooseS gs hs now age) b)) := by
  intro m
  induction m with
  | zero =>
    intro k n b h hk h1 h2
    obtain ⟨k, rfl⟩ : ∃ j, k = j + 1 := ⟨k - 1, by omega⟩
    simp only [turn_Choose_l0]
    rw [if_neg (by omega)]
    simp only [List.range', List.foldl, chooseEnd, hd]
    split
    · rfl
    · rename_i hb
      simp only [show 0 ≤ b by omega, h2, if_true]
  | succ m ih =>
    intro k n b h hk h1 h2
    obtain ⟨k, rfl⟩ : ∃ j, k = j + 1 := ⟨k - 1, by omega⟩
    simp only [turn_Choose_l0]
    have hgn : (gs.getD n []).length < 1000000000000 := by
      rw [getD_lt _ (show n < gs.length by omega)]; exact hg _ (List.getElem_mem _)
    rw [if_pos (by omega), if_pos (by omega), if_pos (by omega), Int.toNat_natCast, Front_eq _ _ hgn hl, bind_some_eq, w64_in (by omega) (by omega), List.range'_succ, List.foldl_cons]
    have ih := fun b h1 h2 => ih k (n + 1) b (by omega) (by omega) h1 h2
    rw [show ((n + 1 : Nat) : Int) = (n : Int) + 1 from by omega] at ih
    have hf := front_lt (gs.getD n []) hs
    have hc := chooseS_lt gs hs now age (n := n) h1 h2
    rw [← ih _ hc.1 hc.2]
    generalize hfi : front (gs.getD n []) hs = i at hf
    unfold chooseS
    rw [hfi]
    dsimp only
    by_cases hi : i < 0
    · rw [if_pos hi, if_pos (.inl hi)]
    · rw [if_neg hi, if_pos (by omega), if_pos (by omega)]
      show (bif !(hd hs i).May then _ else _) = _
      cases hmay : (hd hs i).May with
      | false => simp only [Bool.not_false, cond_true]; rw [if_pos (show i < 0 ∨ True from .inr trivial)]
      | true =>
        simp only [Bool.not_true, cond_false]
        simp only [hi, false_or, Bool.true_eq_false, if_false]
        by_cases hb : b < 0
        · rw [if_pos hb, if_pos (.inl hb)]
        · rw [if_neg hb, if_pos (by omega), if_pos (by omega), Rank_eq, bind_some_eq, if_pos (by omega), if_pos (by omega), Rank_eq, bind_some_eq, Compare_eq, bind_some_eq, if_pos (by omega), if_pos (by omega), if_pos (by omega), if_pos (by omega), elder_eq, bind_some_eq, Or_eq _ (by simp), bind_some_eq]
          simp only [hb, false_or]
          unfold hd
          split <;> rfl
def choose (gs : List (List Int)) (hs : List turn_Head) (now age : Int) : Int := chooseEnd hs ((List.range' 0 gs.length).foldl (chooseS gs hs now age) (-1))
theorem Choose_eq (gs : List (List Int)) (hs : List turn_Head) (now age : Int) (hg : ∀ g ∈ gs, g.length < 1000000000000) (hgl : gs.length < 1000000000000) (hl : hs.length < 1000000000000) : turn_Choose gs hs now age = some (choose gs hs now age) :=
  lim_eq (gs.length + 1) fun k hk => Choose_l gs hs now age hg hgl hl gs.length k 0 (-1) (by omega) (by omega) (by omega) (by omega)
theorem known_eq : law25_known = some true := by
  unfold law25_known
  rw [Choose_eq _ _ _ _ (by simp) (by simp) (by simp), bind_some_eq, Choose_eq _ _ _ _ (by simp) (by simp) (by simp), bind_some_eq, Front_eq _ _ (by simp) (by simp), bind_some_eq, Rank_eq, bind_some_eq, Choose_eq _ _ _ _ (by simp) (by simp) (by simp), bind_some_eq]
  decide
end Go.Sy.Tu
/-! Plain laws over turn: the eldest. -/
namespace Go.Sy.Tu
open Go.Sy
def hdE (since : List Int) (p : Int) (i : Nat) : turn_Head := turn_Head.mk (i : Int) (since.getD i 0) p true
def hdsE (since : List Int) (p : Int) (n : Nat) : List turn_Head := (List.range n).map (hdE since p)
def grsE (n : Nat) : List (List Int) := (List.range n).map fun (i : Nat) => [(i : Int)]
theorem hdsE_len (since : List Int) (p : Int) (n : Nat) : (hdsE since p n).length = n := by simp [hdsE]
theorem grsE_len (n : Nat) : (grsE n).length = n := by simp [grsE]
theorem hdsE_get {since : List Int} {p : Int} {n i : Nat} (h : i < n) : (hdsE since p n).getD i turn_Head.z = hdE since p i := by
  rw [getD_lt _ (by rw [hdsE_len]; exact h)]; simp [hdsE]
theorem grsE_get {n i : Nat} (h : i < n) : (grsE n).getD i [] = [(i : Int)] := by
  rw [getD_lt _ (by rw [grsE_len]; exact h)]; simp [grsE]
theorem hdsE_succ (since : List Int) (p : Int) (n : Nat) : hdsE since p (n + 1) = hdsE since p n ++ [hdE since p n] := by simp [hdsE, List.range_succ]
theorem grsE_succ (n : Nat) : grsE (n + 1) = grsE n ++ [[(n : Int)]] := by simp [grsE, List.range_succ]
theorem front_one (since : List Int) (p : Int) (L j : Nat) (hj : j < L) : front [(j : Int)] (hdsE since p L) = j := by
  have key : ∀ m n f, n + m = L → (n ≤ j → f = -1) → (j < n → f = (j : Int)) → (List.range' n m).foldl (frontS [(j : Int)] (hdsE since p L)) f = j := by
    intro m
    induction m with
    | zero => intro n f h h1 h2; exact h2 (by omega)
    | succ m ih =>
      intro n f h h1 h2
      rw [List.range'_succ, List.foldl_cons]
      have hq : ((hdsE since p L).getD n turn_Head.z).Queue = (n : Int) := by rw [hdsE_get (by omega)]; rfl
      refine ih (n + 1) _ (by omega) (fun hn => ?_) (fun hn => ?_)
      · unfold frontS
        rw [hq, if_neg (by simp; omega)]
        exact h1 (by omega)
      · unfold frontS
        rw [hq]
        by_cases e : n = j
        · subst e
          rw [if_pos ⟨by simp, .inl (by rw [h1 (by omega)]; omega)⟩]
        · rw [if_neg (by simp; omega)]
          exact h2 (by omega)
  unfold front
  rw [hdsE_len]
  exact key L 0 (-1) (by omega) (fun _ => rfl) (fun h => by omega)
def bestS (since : List Int) (b : Int) (n : Nat) : Int := if since.getD n 0 < since.getD b.toNat 0 then (n : Int) else b
theorem rank_le (since : List Int) (p : Int) (now age : Int) (hp : 0 ≤ p ∧ p < 8) (ha : 1 ≤ age ∧ age ≤ 256) (i : Nat) (hi : 0 ≤ since.getD i 0 ∧ since.getD i 0 < 65536) :
    rankI (hdE since p i) 131072 age = p + (131072 - since.getD i 0) / age := by
  unfold rankI hdE
  dsimp only
  have h0 : (0 : Int) ≤ 131072 - since.getD i 0 := by omega
  have h1 : (131072 - since.getD i 0) / age ≤ 131072 - since.getD i 0 := Int.ediv_le_self _ h0
  have h2 : 0 ≤ (131072 - since.getD i 0) / age := Int.ediv_nonneg h0 (by omega)
  rw [if_neg (by omega), w64_in (n := 131072 - since.getD i 0) (by omega) (by omega), Int.tdiv_eq_ediv_of_nonneg h0, w64_in (n := (131072 - since.getD i 0) / age) (by omega) (by omega), w64_in (by omega) (by omega)]
theorem choose_step (since : List Int) (p age : Int) (hp : 0 ≤ p ∧ p < 8) (ha : 1 ≤ age ∧ age ≤ 256) (hs : ∀ i : Nat, 0 ≤ since.getD i 0 ∧ since.getD i 0 < 65536) (L n : Nat) (hn : n < L) (b : Nat) (hb : b < n) :
    chooseS (grsE L) (hdsE since p L) 131072 age (b : Int) n = bestS since (b : Int) n := by
  unfold chooseS bestS
  rw [grsE_get hn, front_one since p L n hn]
  dsimp only
  have hdn : hd (hdsE since p L) (n : Int) = hdE since p n := by unfold hd; rw [Int.toNat_natCast, hdsE_get hn]
  have hdb : hd (hdsE since p L) (b : Int) = hdE since p b := by unfold hd; rw [Int.toNat_natCast, hdsE_get (by omega)]
  rw [hdn, hdb, if_neg (by simp [hdE]), rank_le since p 131072 age hp ha n (hs n), rank_le since p 131072 age hp ha b (hs b), Int.toNat_natCast]
  have hbn : ¬ ((b : Int) < 0) := by omega
  simp only [hbn, false_or]
  have hsn := hs n
  have hsb := hs b
  have he := elderI_neg (hdE since p n) (hdE since p b)
  have hn1 : (hdE since p n).Since = since.getD n 0 := rfl
  have hn2 : (hdE since p b).Since = since.getD b 0 := rfl
  have hq1 : (hdE since p n).Queue = (n : Int) := rfl
  have hq2 : (hdE since p b).Queue = (b : Int) := rfl
  rw [hn1, hn2, hq1, hq2] at he
  generalize elderI (hdE since p n) (hdE since p b) = E at he
  generalize since.getD n 0 = x at *
  generalize since.getD b 0 = y at *
  have hmono : ∀ u v : Int, u ≤ v → (131072 - v) / age ≤ (131072 - u) / age := fun u v h => Int.ediv_le_ediv (by omega) (by omega)
  have m1 := hmono x y
  have m2 := hmono y x
  unfold orI orI orI cmpI
  generalize (131072 - x) / age = rx at *
  generalize (131072 - y) / age = ry at *
  by_cases h : x < y
  · rw [if_pos h]
    apply if_pos
    have := m1 (by omega)
    repeat' split
    all_goals omega
  · rw [if_neg h]
    apply if_neg
    have := m2 (by omega)
    repeat' split
    all_goals omega
theorem choose_first (since : List Int) (p age : Int) (L : Nat) (hL : 0 < L) : chooseS (grsE L) (hdsE since p L) 131072 age (-1) 0 = 0 := by
  unfold chooseS
  rw [grsE_get hL, front_one since p L 0 hL]
  dsimp only
  have hdn : hd (hdsE since p L) ((0 : Nat) : Int) = hdE since p 0 := by unfold hd; rw [Int.toNat_natCast, hdsE_get hL]
  rw [hdn, if_neg (by simp [hdE]), if_pos (.inl (by omega))]
  rfl
theorem fold_same (since : List Int) (p age : Int) (hp : 0 ≤ p ∧ p < 8) (ha : 1 ≤ age ∧ age ≤ 256) (hs : ∀ i : Nat, 0 ≤ since.getD i 0 ∧ since.getD i 0 < 65536) (L : Nat) : ∀ n, n < L →
    ∃ b : Nat, b ≤ n ∧ (List.range (n + 1)).foldl (chooseS (grsE L) (hdsE since p L) 131072 age) (-1) = (b : Int) ∧ (List.range (n + 1)).foldl (bestS since) 0 = (b : Int) := by
  intro n
  induction n with
  | zero =>
    intro h
    refine ⟨0, Nat.le_refl _, ?_, ?_⟩
    · show chooseS _ _ _ _ _ _ = _
      exact choose_first since p age L h
    · show bestS _ _ _ = _
      unfold bestS
      split <;> rfl
  | succ n ih =>
    intro h
    obtain ⟨b, hb, h1, h2⟩ := ih (by omega)
    have hst := choose_step since p age hp ha hs L (n + 1) h b (by omega)
    rw [List.range_succ, List.foldl_append, List.foldl_append, h1, h2]
    simp only [List.foldl_cons, List.foldl_nil]
    rw [hst]
    unfold bestS
    split
    · exact ⟨n + 1, Nat.le_refl _, rfl, rfl⟩
    · exact ⟨b, by omega, rfl, rfl⟩
theorem elder_l (since : List Int) (prio age : Int) (hs : ∀ i : Nat, 0 ≤ since.getD i 0 ∧ since.getD i 0 < 65536) (hp : 0 ≤ prio ∧ prio < 256) (ha : 0 ≤ age ∧ age < 256) (hl0 : since ≠ []) (hl : since.length ≤ 20) : ∀ m k n b, n + m = since.length → m < k → b < since.length → (List.range n).foldl (bestS since) 0 = (b : Int) →
    law25_TurnElder_l0 k since prio age (hdsE since (prio.tmod 8) n) (grsE n) (b : Int) (n : Int) = some true := by
  have hpos : 0 < since.length := List.length_pos_iff.2 hl0
  have hp8 : 0 ≤ prio.tmod 8 ∧ prio.tmod 8 < 8 := by rw [Int.tmod_eq_emod_of_nonneg hp.1]; omega
  intro m
  induction m with
  | zero =>
    intro k n b h hk hb hf
    obtain ⟨k, rfl⟩ : ∃ j, k = j + 1 := ⟨k - 1, by omega⟩
    have hn : n = since.length := by omega
    subst hn
    simp only [law25_TurnElder_l0]
    rw [if_neg (by omega), Choose_eq _ _ _ _ (by simp [grsE]) (by rw [grsE_len]; omega) (by rw [hdsE_len]; omega), bind_some_eq, w64_in (n := age) (by omega) (by omega), w64_in (by omega) (by omega)]
    obtain ⟨c, hc, h1, h2⟩ := fold_same since (prio.tmod 8) (1 + age) hp8 (by omega) hs since.length (since.length - 1) (by omega)
    rw [show since.length - 1 + 1 = since.length from by omega] at h1 h2
    rw [hf] at h2
    rw [if_pos]
    · rw [known_eq]; rfl
    · unfold choose chooseEnd
      rw [grsE_len, ← List.range_eq_range', h1, if_neg (by omega)]
      unfold hd
      rw [Int.toNat_natCast, hdsE_get (by omega)]
      show (c : Int) = b
      exact h2.symm
  | succ m ih =>
    intro k n b h hk hb hf
    obtain ⟨k, rfl⟩ : ∃ j, k = j + 1 := ⟨k - 1, by omega⟩
    simp only [law25_TurnElder_l0]
    have hsn := hs n
    have e1 : (hdsE since (prio.tmod 8) n).length = n := hdsE_len _ _ _
    have e2 : (grsE n).length = n := grsE_len _
    have e3 : hdsE since (prio.tmod 8) n ++ [turn_Head.mk (n : Int) (w64 (since.getD (n : Int).toNat 0)) ((w64 prio).tmod 8) true] = hdsE since (prio.tmod 8) (n + 1) := by
      rw [hdsE_succ]; unfold hdE
      rw [Int.toNat_natCast, w64_in (by omega) (by omega), w64_in (n := prio) (by omega) (by omega)]
    have e4 : grsE n ++ [[(n : Int)]] = grsE (n + 1) := (grsE_succ n).symm
    rw [e1, e2, e3, e4, Int.toNat_natCast, Int.toNat_natCast]
    simp only [List.length_cons, List.length_nil]
    simp only [show (n : Int) < (since.length : Int) by omega, show (0 : Int) ≤ n by omega, show ¬ (8 : Int) = 0 by omega, show (n + (0 + 1)) * 32 ≤ 140737488355328 by omega, show (n + (0 + 1)) * 24 ≤ 140737488355328 by omega, show (0 : Int) ≤ b by omega, show (b : Int) < (since.length : Int) by omega, if_true, not_false_eq_true]
    rw [w64_in (n := (n : Int) + 1) (by omega) (by omega)]
    have hf' : (List.range (n + 1)).foldl (bestS since) 0 = if since.getD n 0 < since.getD b 0 then (n : Int) else (b : Int) := by
      rw [List.range_succ, List.foldl_append, hf]; simp [bestS]
    by_cases hc : since.getD n 0 < since.getD b 0
    · rw [if_pos hc] at hf' ⊢
      exact ih k (n + 1) n (by omega) (by omega) (by omega) hf'
    · rw [if_neg hc] at hf' ⊢
      exact ih k (n + 1) b (by omega) (by omega) hb hf'
theorem TurnElder_true (since : List Int) (prio age : Int) (hs : ∀ i : Nat, 0 ≤ since.getD i 0 ∧ since.getD i 0 < 65536) (hp : 0 ≤ prio ∧ prio < 256) (ha : 0 ≤ age ∧ age < 256) : law25_TurnElder since prio age = some true := by
  refine lim_eq 30 fun k hk => ?_
  show law25_TurnElder_f k since prio age = some true
  unfold law25_TurnElder_f
  rw [known_eq]
  split
  · rfl
  · split
    · rfl
    · rename_i h1 h2
      have := elder_l since prio age hs hp ha (fun h => h1 (by simp [h])) (by omega) since.length k 0 0 (by omega) (by omega) (by omega) rfl
      simpa [hdsE, grsE] using this
end Go.Sy.Tu
