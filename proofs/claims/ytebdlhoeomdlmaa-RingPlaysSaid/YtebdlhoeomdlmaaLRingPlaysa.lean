import Derived.Test.YtebdlhoeomdlmaaProg
import Derived.Test.YtebdlhoeomdlmaaSc
set_option linter.unusedVariables false
set_option linter.unusedSimpArgs false
set_option maxRecDepth 100000
namespace Go.Sy.Ri
open Go.Sy Go.Proofs
structure api_Msg where
  Event : List UInt8
  N : Int
  deriving DecidableEq
def api_Msg.z : api_Msg := ⟨[], 0⟩
structure ring_Ring_api_Msg where
  l : List api_Msg
  room : Int
  deriving DecidableEq
def ring_Ring_api_Msg.z : ring_Ring_api_Msg := ⟨[], 0⟩
structure ring_Ring_int where
  l : List Int
  room : Int
  deriving DecidableEq
def ring_Ring_int.z : ring_Ring_int := ⟨[], 0⟩
structure law2_Step where
  What : Int
  X : Int
  deriving DecidableEq
def law2_Step.z : law2_Step := ⟨0, 0⟩
def C : Nat → Type
  | 0 => api_Msg
  | 1 => ring_Ring_api_Msg
  | 2 => ring_Ring_int
  | 3 => law2_Step
  | _ + 4 => Unit
def F : Nat → List Ty
  | 0 => [.str, .int .i64]
  | 1 => [.sl (.st 0), .int .i64]
  | 2 => [.sl (.int .i64), .int .i64]
  | 3 => [.int .i64, .int .i64]
  | _ + 4 => []
def ex : (t : Nat) → C t → Tup C (F t)
  | 0, (x : api_Msg) => (x.Event, x.N)
  | 1, (x : ring_Ring_api_Msg) => (x.l, x.room)
  | 2, (x : ring_Ring_int) => (x.l, x.room)
  | 3, (x : law2_Step) => (x.What, x.X)
  | _ + 4, _ => ()
def im : (t : Nat) → Tup C (F t) → C t
  | 0, (a0, a1) => api_Msg.mk a0 a1
  | 1, (a0, a1) => ring_Ring_api_Msg.mk a0 a1
  | 2, (a0, a1) => ring_Ring_int.mk a0 a1
  | 3, (a0, a1) => law2_Step.mk a0 a1
  | _ + 4, _ => ()
def fldT : Nat → List (Nat × Ty)
  | 0 => [(0, .str), (1, .int .i64)]
  | 1 => [(0, .sl (.st 0)), (1, .int .i64)]
  | 2 => [(0, .sl (.int .i64)), (1, .int .i64)]
  | 3 => [(0, .int .i64), (1, .int .i64)]
  | _ + 4 => []
def z : (t : Nat) → C t
  | 0 => api_Msg.z
  | 1 => ring_Ring_api_Msg.z
  | 2 => ring_Ring_int.z
  | 3 => law2_Step.z
  | _ + 4 => ()
def tyT : List (Nat × Ty) := [(2, .int .i64), (3, .int .i64), (4, .bool), (5, .int .u8), (9, .str), (22, .sl (.st 0)), (24, .int .i64), (28, .st 0), (37, .sl (.int .i64)), (47, .sl (.st 3)), (49, .st 3), (74, .st 1), (78, .st 2)]
def arT : List (Nat × (Nat × Ty)) := []
def eqT : List (Nat × Unit) := [(28, ())]
def ptT : List (Nat × Unit) := [(23, ()), (38, ())]
abbrev S : Sen := ⟨C, F, ex, im, fun u f => (fldT u)[f]?, z, look tyT, fun t => (look ptT t).isSome, look arT, fun t => (look eqT t).isSome⟩
def bytT : List (Nat × Nat) := [(22, 24), (37, 8), (47, 16)]
def byt (t : Nat) : Nat := (look bytT t).getD 1
theorem senOk : SenOk S := ⟨fun | 0 => rfl | 1 => rfl | 2 => rfl | 3 => rfl | _ + 4 => rfl, fun | 0, _ => rfl | 1, _ => rfl | 2, _ => rfl | 3, _ => rfl | _ + 4, _ => rfl⟩
theorem ty2 : TyAt Try.prog S byt 2 (.int .i64) := tyAt_int rfl (by kernel_rfl) (by kernel_rfl) (by kernel_rfl)
theorem ty3 : TyAt Try.prog S byt 3 (.int .i64) := tyAt_int rfl (by kernel_rfl) (by kernel_rfl) (by kernel_rfl)
theorem ty4 : TyAt Try.prog S byt 4 (.bool) := tyAt_bool rfl (by kernel_rfl) (by kernel_rfl) (by kernel_rfl)
theorem ty5 : TyAt Try.prog S byt 5 (.int .u8) := tyAt_int rfl (by kernel_rfl) (by kernel_rfl) (by kernel_rfl)
theorem ty9 : TyAt Try.prog S byt 9 (.str) := tyAt_str rfl (by kernel_rfl) (by kernel_rfl) (by kernel_rfl)
theorem ty22 : TyAt Try.prog S byt 22 (.sl (.st 0)) := tyAt_sl rfl (by kernel_rfl) (by kernel_rfl) Try.underlying22 rfl rfl (by kernel_rfl) (by kernel_rfl)
theorem ty24 : TyAt Try.prog S byt 24 (.int .i64) := tyAt_int rfl (by kernel_rfl) (by kernel_rfl) (by kernel_rfl)
theorem ty28 : TyAt Try.prog S byt 28 (.st 0) := tyAt_st (l := fldT 0) rfl (by kernel_rfl) rfl (by kernel_rfl) (by kernel_rfl) rfl (by kernel_rfl) Try.underlying28 (by kernel_rfl) (fun _ => rfl) rfl
theorem ty37 : TyAt Try.prog S byt 37 (.sl (.int .i64)) := tyAt_sl rfl (by kernel_rfl) (by kernel_rfl) Try.underlying37 rfl rfl (by kernel_rfl) (by kernel_rfl)
theorem ty47 : TyAt Try.prog S byt 47 (.sl (.st 3)) := tyAt_sl rfl (by kernel_rfl) (by kernel_rfl) Try.underlying47 rfl rfl (by kernel_rfl) (by kernel_rfl)
theorem ty49 : TyAt Try.prog S byt 49 (.st 3) := tyAt_st (l := fldT 3) rfl (by kernel_rfl) rfl (by kernel_rfl) (by kernel_rfl) rfl (by kernel_rfl) Try.underlying49 (by kernel_rfl) (fun _ => rfl) rfl
theorem ty74 : TyAt Try.prog S byt 74 (.st 1) := tyAt_st (l := fldT 1) rfl (by kernel_rfl) rfl (by kernel_rfl) (by kernel_rfl) rfl (by kernel_rfl) Try.underlying74 (by kernel_rfl) (fun _ => rfl) rfl
theorem ty78 : TyAt Try.prog S byt 78 (.st 2) := tyAt_st (l := fldT 2) rfl (by kernel_rfl) rfl (by kernel_rfl) (by kernel_rfl) rfl (by kernel_rfl) Try.underlying78 (by kernel_rfl) (fun _ => rfl) rfl
theorem progOk : ProgOk Try.prog S byt := ⟨senOk, fun t T h0 => by
  have h := look_mem (show look tyT t = some T from h0)
  simp only [tyT, List.mem_cons, Prod.mk.injEq, List.not_mem_nil, or_false] at h
  rcases h with ⟨rfl, rfl⟩ | ⟨rfl, rfl⟩ | ⟨rfl, rfl⟩ | ⟨rfl, rfl⟩ | ⟨rfl, rfl⟩ | ⟨rfl, rfl⟩ | ⟨rfl, rfl⟩ | ⟨rfl, rfl⟩ | ⟨rfl, rfl⟩ | ⟨rfl, rfl⟩ | ⟨rfl, rfl⟩ | ⟨rfl, rfl⟩ | ⟨rfl, rfl⟩
  · exact ty2
  · exact ty3
  · exact ty4
  · exact ty5
  · exact ty9
  · exact ty22
  · exact ty24
  · exact ty28
  · exact ty37
  · exact ty47
  · exact ty49
  · exact ty74
  · exact ty78, fun t h => by
  have h2 : ∃ u, look ptT t = some u := Option.isSome_iff_exists.1 h
  obtain ⟨u, h2⟩ := h2
  have h := look_mem h2
  simp only [ptT, List.mem_cons, Prod.mk.injEq, List.not_mem_nil, or_false] at h
  rcases h with ⟨rfl, _⟩ | ⟨rfl, _⟩
  · exact ⟨_, Try.underlying23⟩
  · exact ⟨_, Try.underlying38⟩, fun t h => by
  have h2 : ∃ u, look eqT t = some u := Option.isSome_iff_exists.1 h
  obtain ⟨u, h2⟩ := h2
  have h := look_mem h2
  simp only [eqT, List.mem_cons, Prod.mk.injEq, List.not_mem_nil, or_false] at h
  rcases h with ⟨rfl, _⟩
  · exact ⟨0, rfl, ⟨_, Try.underlying28, eqFlds_of (by kernel_rfl)⟩, by kernel_rfl, by kernel_rfl⟩⟩
theorem mixed : Try.prog.follows .mixedOrders = true := by kernel_rfl
def bz (e : Ty) : Nat := if e = .st 0 then 24 else if e = .int .i64 then 8 else if e = .st 3 then 16 else 1
def tyA : List (Nat × Ty) := [(2, .int .i64), (3, .int .i64), (5, .int .u8), (9, .str), (22, .sl (.st 0)), (28, .st 0), (37, .sl (.int .i64)), (47, .sl (.st 3)), (49, .st 3)]
/-- The arguments' types alone. -/
abbrev SA : Sen := S.withT (look tyA) (fun _ => false) (fun _ => none) (fun _ => false)
theorem tyA2 : TyAt Try.prog SA byt 2 (.int .i64) := tyAt_int rfl (by kernel_rfl) (by kernel_rfl) (by kernel_rfl)
theorem tyA3 : TyAt Try.prog SA byt 3 (.int .i64) := tyAt_int rfl (by kernel_rfl) (by kernel_rfl) (by kernel_rfl)
theorem tyA5 : TyAt Try.prog SA byt 5 (.int .u8) := tyAt_int rfl (by kernel_rfl) (by kernel_rfl) (by kernel_rfl)
theorem tyA9 : TyAt Try.prog SA byt 9 (.str) := tyAt_str rfl (by kernel_rfl) (by kernel_rfl) (by kernel_rfl)
theorem tyA22 : TyAt Try.prog SA byt 22 (.sl (.st 0)) := tyAt_sl rfl (by kernel_rfl) (by kernel_rfl) Try.underlying22 rfl rfl (by kernel_rfl) (by kernel_rfl)
theorem tyA28 : TyAt Try.prog SA byt 28 (.st 0) := tyAt_st (l := fldT 0) rfl (by kernel_rfl) rfl (by kernel_rfl) (by kernel_rfl) rfl (by kernel_rfl) Try.underlying28 (by kernel_rfl) (fun _ => rfl) rfl
theorem tyA37 : TyAt Try.prog SA byt 37 (.sl (.int .i64)) := tyAt_sl rfl (by kernel_rfl) (by kernel_rfl) Try.underlying37 rfl rfl (by kernel_rfl) (by kernel_rfl)
theorem tyA47 : TyAt Try.prog SA byt 47 (.sl (.st 3)) := tyAt_sl rfl (by kernel_rfl) (by kernel_rfl) Try.underlying47 rfl rfl (by kernel_rfl) (by kernel_rfl)
theorem tyA49 : TyAt Try.prog SA byt 49 (.st 3) := tyAt_st (l := fldT 3) rfl (by kernel_rfl) rfl (by kernel_rfl) (by kernel_rfl) rfl (by kernel_rfl) Try.underlying49 (by kernel_rfl) (fun _ => rfl) rfl
theorem senOkA : SenOk SA := ⟨senOk.flat, senOk.exim⟩
theorem progOkA : ProgOk Try.prog SA byt := ⟨senOkA, fun t e h0 => by
  have h := look_mem (show look tyA t = some (e) from h0)
  simp only [tyA, List.mem_cons, Prod.mk.injEq, List.not_mem_nil, or_false] at h
  rcases h with ⟨rfl, h⟩ | ⟨rfl, h⟩ | ⟨rfl, h⟩ | ⟨rfl, h⟩ | ⟨rfl, h⟩ | ⟨rfl, h⟩ | ⟨rfl, h⟩ | ⟨rfl, h⟩ | ⟨rfl, h⟩
  · subst h; exact tyA2
  · subst h; exact tyA3
  · subst h; exact tyA5
  · subst h; exact tyA9
  · subst h; exact tyA22
  · subst h; exact tyA28
  · subst h; exact tyA37
  · subst h; exact tyA47
  · subst h; exact tyA49, fun t h => (nomatch h), fun t h => (nomatch h)⟩
theorem hbz : ∀ t e, SA.ty t = some (.sl e) → byt t = bz e := fun t e h0 => by
  have h := look_mem (show look tyA t = some (.sl e) from h0)
  simp only [tyA, List.mem_cons, Prod.mk.injEq, List.not_mem_nil, or_false] at h
  rcases h with ⟨rfl, h⟩ | ⟨rfl, h⟩ | ⟨rfl, h⟩ | ⟨rfl, h⟩ | ⟨rfl, h⟩ | ⟨rfl, h⟩ | ⟨rfl, h⟩ | ⟨rfl, h⟩ | ⟨rfl, h⟩
  · cases h
  · cases h
  · cases h
  · cases h
  · cases h; decide
  · cases h
  · cases h; decide
  · cases h; decide
  · cases h
theorem slOk : SlOk SA := fun t e h0 => by
  have h := look_mem (show look tyA t = some (.sl e) from h0)
  simp only [tyA, List.mem_cons, Prod.mk.injEq, List.not_mem_nil, or_false] at h
  rcases h with ⟨rfl, h⟩ | ⟨rfl, h⟩ | ⟨rfl, h⟩ | ⟨rfl, h⟩ | ⟨rfl, h⟩ | ⟨rfl, h⟩ | ⟨rfl, h⟩ | ⟨rfl, h⟩ | ⟨rfl, h⟩
  · cases h
  · cases h
  · cases h
  · cases h
  · cases h; decide
  · cases h
  · cases h; decide
  · cases h; decide
  · cases h
theorem stOk : StOk Try.prog SA := fun t e h0 => by
  have h := look_mem (show look tyA t = some (.st e) from h0)
  simp only [tyA, List.mem_cons, Prod.mk.injEq, List.not_mem_nil, or_false] at h
  rcases h with ⟨rfl, h⟩ | ⟨rfl, h⟩ | ⟨rfl, h⟩ | ⟨rfl, h⟩ | ⟨rfl, h⟩ | ⟨rfl, h⟩ | ⟨rfl, h⟩ | ⟨rfl, h⟩ | ⟨rfl, h⟩
  · cases h
  · cases h
  · cases h
  · cases h
  · cases h
  · cases h; exact stOk_of Try.underlying28 (by kernel_rfl)
  · cases h
  · cases h
  · cases h; exact stOk_of Try.underlying49 (by kernel_rfl)
/-! ### 12 cotillion/ring.New[cotillion/api.Msg] -/
noncomputable def ring_New_api_Msg  (room : Int) : Option ((Option (List api_Msg × Int)) × Int) := if room < 0 then
    some (none, 1) else
    if 65536 < room then
    some (none, 1) else
    some (some ([], room), 0)
noncomputable abbrev ring_New_api_Msg_T : Tab S := ⟨[], [], false, false⟩
noncomputable def ring_New_api_Msg_L (k : Nat) : Nat → List (Lab S ((Option (List api_Msg × Int)) × Int))
  | _ => []
theorem ring_New_api_Msg_eq (k : Nat) (room : Int) : ring_New_api_Msg room = exec S (ring_New_api_Msg_T) byt (labs S (ring_New_api_Msg_T) (ring_New_api_Msg_L k)) (ac [] Try.f12) (frame0 S [.val (.data (.int .i64))] room) (retK S (ring_New_api_Msg_T) Try.f12 [.val (.data (.int .i64))] [.opt [.marr (.st 0), .data (.int .i64)], .val (.data (.int .i64))]) := by kernel_rfl
theorem ring_New_api_Msg_vc (k : Nat) : VC S (ring_New_api_Msg_T) byt (ring_New_api_Msg_L k) (ring_New_api_Msg_L (k + 1)) (ac [] Try.f12) (retK S (ring_New_api_Msg_T) Try.f12 [.val (.data (.int .i64))] [.opt [.marr (.st 0), .data (.int .i64)], .val (.data (.int .i64))]) = [] := by kernel_rfl
theorem ring_New_api_Msg_snd : Snd Try.prog S ⟨12, [.val (.data (.int .i64))], [.opt [.marr (.st 0), .data (.int .i64)], .val (.data (.int .i64))], fun x => ring_New_api_Msg x⟩ :=
  fn_ok progOk (T := (ring_New_api_Msg_T)) (all_nil) (all_nil) mixed Try.func12 rfl (by kernel_rfl) (ac_code [] Try.f12 rfl) (L := ring_New_api_Msg_L)
    (fun n l h x => by cases h) (fun k n l h => by cases h)
    (fun k => All.mem (ring_New_api_Msg_vc k) trivial) (fun x r h => ⟨0, (ring_New_api_Msg_eq 0 x).symm.trans h⟩) (by kernel_rfl) (by kernel_rfl) (Nat.le_of_ble_eq_true (by kernel_rfl))
/-! ### 21 cotillion/ring.New[int] -/
noncomputable def ring_New_int  (room : Int) : Option ((Option (List Int × Int)) × Int) := if room < 0 then
    some (none, 1) else
    if 65536 < room then
    some (none, 1) else
    some (some ([], room), 0)
noncomputable abbrev ring_New_int_T : Tab S := ⟨[], [], false, false⟩
noncomputable def ring_New_int_L (k : Nat) : Nat → List (Lab S ((Option (List Int × Int)) × Int))
  | _ => []
theorem ring_New_int_eq (k : Nat) (room : Int) : ring_New_int room = exec S (ring_New_int_T) byt (labs S (ring_New_int_T) (ring_New_int_L k)) (ac [] Try.f21) (frame0 S [.val (.data (.int .i64))] room) (retK S (ring_New_int_T) Try.f21 [.val (.data (.int .i64))] [.opt [.marr (.int .i64), .data (.int .i64)], .val (.data (.int .i64))]) := by kernel_rfl
theorem ring_New_int_vc (k : Nat) : VC S (ring_New_int_T) byt (ring_New_int_L k) (ring_New_int_L (k + 1)) (ac [] Try.f21) (retK S (ring_New_int_T) Try.f21 [.val (.data (.int .i64))] [.opt [.marr (.int .i64), .data (.int .i64)], .val (.data (.int .i64))]) = [] := by kernel_rfl
theorem ring_New_int_snd : Snd Try.prog S ⟨21, [.val (.data (.int .i64))], [.opt [.marr (.int .i64), .data (.int .i64)], .val (.data (.int .i64))], fun x => ring_New_int x⟩ :=
  fn_ok progOk (T := (ring_New_int_T)) (all_nil) (all_nil) mixed Try.func21 rfl (by kernel_rfl) (ac_code [] Try.f21 rfl) (L := ring_New_int_L)
    (fun n l h x => by cases h) (fun k n l h => by cases h)
    (fun k => All.mem (ring_New_int_vc k) trivial) (fun x r h => ⟨0, (ring_New_int_eq 0 x).symm.trans h⟩) (by kernel_rfl) (by kernel_rfl) (Nat.le_of_ble_eq_true (by kernel_rfl))
/-! ### 30 (*cotillion/ring.Ring[int]).Room -/
noncomputable def ring_Ring_int_Room  (r : List Int × Int) : Option (Int × (List Int × Int)) := some (w64 (r.2 - (r.1.length : Int)), (r.1, r.2))
noncomputable abbrev ring_Ring_int_Room_T : Tab S := ⟨[], [], false, false⟩
noncomputable def ring_Ring_int_Room_L (k : Nat) : Nat → List (Lab S (Int × (List Int × Int)))
  | _ => []
theorem ring_Ring_int_Room_eq (k : Nat) (r : List Int × Int) : ring_Ring_int_Room r = exec S (ring_Ring_int_Room_T) byt (labs S (ring_Ring_int_Room_T) (ring_Ring_int_Room_L k)) (ac [] Try.f30) (frame0 S [.obj [.marr (.int .i64), .data (.int .i64)]] r) (retK S (ring_Ring_int_Room_T) Try.f30 [.obj [.marr (.int .i64), .data (.int .i64)]] [.val (.data (.int .i64))]) := by kernel_rfl
theorem ring_Ring_int_Room_vc (k : Nat) : VC S (ring_Ring_int_Room_T) byt (ring_Ring_int_Room_L k) (ring_Ring_int_Room_L (k + 1)) (ac [] Try.f30) (retK S (ring_Ring_int_Room_T) Try.f30 [.obj [.marr (.int .i64), .data (.int .i64)]] [.val (.data (.int .i64))]) = [] := by kernel_rfl
theorem ring_Ring_int_Room_snd : Snd Try.prog S ⟨30, [.obj [.marr (.int .i64), .data (.int .i64)]], [.val (.data (.int .i64))], fun x => ring_Ring_int_Room x⟩ :=
  fn_ok progOk (T := (ring_Ring_int_Room_T)) (all_nil) (all_nil) mixed Try.func30 rfl (by kernel_rfl) (ac_code [] Try.f30 rfl) (L := ring_Ring_int_Room_L)
    (fun n l h x => by cases h) (fun k n l h => by cases h)
    (fun k => All.mem (ring_Ring_int_Room_vc k) trivial) (fun x r h => ⟨0, (ring_Ring_int_Room_eq 0 x).symm.trans h⟩) (by kernel_rfl) (by kernel_rfl) (Nat.le_of_ble_eq_true (by kernel_rfl))
/-! ### 22 (*cotillion/ring.Ring[int]).Push -/
noncomputable def ring_Ring_int_Push  (r : List Int × Int) (x : Int) : Option (Bool × (List Int × Int)) := (ring_Ring_int_Room (r.1, r.2)).bind fun r1 =>
    if r1.1 = 0 then
    some (false, (r1.2.1, r1.2.2)) else
    if (r1.2.1.length + [x].length) * 8 ≤ 140737488355328 then
    some (true, (r1.2.1 ++ [x], r1.2.2)) else none
noncomputable abbrev ring_Ring_int_Push_T : Tab S := ⟨[⟨30, [.obj [.marr (.int .i64), .data (.int .i64)]], [.val (.data (.int .i64))], fun x => ring_Ring_int_Room x⟩], [], false, false⟩
noncomputable def ring_Ring_int_Push_L (k : Nat) : Nat → List (Lab S (Bool × (List Int × Int)))
  | _ => []
theorem ring_Ring_int_Push_eq (k : Nat) (r : List Int × Int) (x : Int) : ring_Ring_int_Push r x = exec S (ring_Ring_int_Push_T) byt (labs S (ring_Ring_int_Push_T) (ring_Ring_int_Push_L k)) (ac [] Try.f22) (frame0 S [.obj [.marr (.int .i64), .data (.int .i64)], .val (.data (.int .i64))] (r, x)) (retK S (ring_Ring_int_Push_T) Try.f22 [.obj [.marr (.int .i64), .data (.int .i64)], .val (.data (.int .i64))] [.val (.data .bool)]) := by kernel_rfl
theorem ring_Ring_int_Push_vc (k : Nat) : VC S (ring_Ring_int_Push_T) byt (ring_Ring_int_Push_L k) (ring_Ring_int_Push_L (k + 1)) (ac [] Try.f22) (retK S (ring_Ring_int_Push_T) Try.f22 [.obj [.marr (.int .i64), .data (.int .i64)], .val (.data (.int .i64))] [.val (.data .bool)]) = [] := by kernel_rfl
theorem ring_Ring_int_Push_snd : Snd Try.prog S ⟨22, [.obj [.marr (.int .i64), .data (.int .i64)], .val (.data (.int .i64))], [.val (.data .bool)], fun x => ring_Ring_int_Push x.1 x.2⟩ :=
  fn_ok progOk (T := (ring_Ring_int_Push_T)) (all_cons ring_Ring_int_Room_snd (all_nil)) (all_nil) mixed Try.func22 rfl (by kernel_rfl) (ac_code [] Try.f22 rfl) (L := ring_Ring_int_Push_L)
    (fun n l h x => by cases h) (fun k n l h => by cases h)
    (fun k => All.mem (ring_Ring_int_Push_vc k) trivial) (fun x r h => ⟨0, (ring_Ring_int_Push_eq 0 x.1 x.2).symm.trans h⟩) (by kernel_rfl) (by kernel_rfl) (Nat.le_of_ble_eq_true (by kernel_rfl))
/-! ### 27 (*cotillion/ring.Ring[int]).Len -/
noncomputable def ring_Ring_int_Len  (r : List Int × Int) : Option (Int × (List Int × Int)) := some ((r.1.length : Int), (r.1, r.2))
noncomputable abbrev ring_Ring_int_Len_T : Tab S := ⟨[], [], false, false⟩
noncomputable def ring_Ring_int_Len_L (k : Nat) : Nat → List (Lab S (Int × (List Int × Int)))
  | _ => []
theorem ring_Ring_int_Len_eq (k : Nat) (r : List Int × Int) : ring_Ring_int_Len r = exec S (ring_Ring_int_Len_T) byt (labs S (ring_Ring_int_Len_T) (ring_Ring_int_Len_L k)) (ac [] Try.f27) (frame0 S [.obj [.marr (.int .i64), .data (.int .i64)]] r) (retK S (ring_Ring_int_Len_T) Try.f27 [.obj [.marr (.int .i64), .data (.int .i64)]] [.val (.data (.int .i64))]) := by kernel_rfl
theorem ring_Ring_int_Len_vc (k : Nat) : VC S (ring_Ring_int_Len_T) byt (ring_Ring_int_Len_L k) (ring_Ring_int_Len_L (k + 1)) (ac [] Try.f27) (retK S (ring_Ring_int_Len_T) Try.f27 [.obj [.marr (.int .i64), .data (.int .i64)]] [.val (.data (.int .i64))]) = [] := by kernel_rfl
theorem ring_Ring_int_Len_snd : Snd Try.prog S ⟨27, [.obj [.marr (.int .i64), .data (.int .i64)]], [.val (.data (.int .i64))], fun x => ring_Ring_int_Len x⟩ :=
  fn_ok progOk (T := (ring_Ring_int_Len_T)) (all_nil) (all_nil) mixed Try.func27 rfl (by kernel_rfl) (ac_code [] Try.f27 rfl) (L := ring_Ring_int_Len_L)
    (fun n l h x => by cases h) (fun k n l h => by cases h)
    (fun k => All.mem (ring_Ring_int_Len_vc k) trivial) (fun x r h => ⟨0, (ring_Ring_int_Len_eq 0 x).symm.trans h⟩) (by kernel_rfl) (by kernel_rfl) (Nat.le_of_ble_eq_true (by kernel_rfl))
/-! ### 49 slices.Delete[[]int,int] -/
noncomputable def slices_Delete_int_int  (s : List Int) (i : Int) (j : Int) : Option (List Int) := if 0 ≤ i then
    if i ≤ j then
    if j ≤ (s.length : Int) then
    if (s.length : Int) ≤ (s.length : Int) then
    if i = j then
    some s else
    if 0 ≤ i then
    if i ≤ (s.length : Int) then
    if 0 ≤ j then
    if j ≤ (s.length : Int) then
    if i ≤ j then
    if s.length * 8 ≤ 140737488355328 then
    if 0 ≤ (s.length : Int) then
    if (s.length : Int) ≤ ((moved s i j ((s.length : Int) - j)).length : Int) then
    if 0 ≤ (i + ((s.length : Int) - j)) then
    if (i + ((s.length : Int) - j)) ≤ (s.length : Int) then
    some (List.take (i + ((s.length : Int) - j)).toNat (cleared 0 (moved s i j ((s.length : Int) - j)) (i + ((s.length : Int) - j)) ((s.length : Int) - (i + ((s.length : Int) - j))))) else none else none else none else none else none else none else none else none else none else none else none else none else none else none
noncomputable abbrev slices_Delete_int_int_T : Tab S := ⟨[], [], false, true⟩
noncomputable def slices_Delete_int_int_L (k : Nat) : Nat → List (Lab S (List Int))
  | _ => []
theorem slices_Delete_int_int_eq (k : Nat) (s : List Int) (i : Int) (j : Int) : slices_Delete_int_int s i j = exec S (slices_Delete_int_int_T) byt (labs S (slices_Delete_int_int_T) (slices_Delete_int_int_L k)) (ac [] Try.f49) (frame0 S [.val (.marr (.int .i64)), .val (.data (.int .i64)), .val (.data (.int .i64))] (s, i, j)) (retK S (slices_Delete_int_int_T) Try.f49 [.val (.marr (.int .i64)), .val (.data (.int .i64)), .val (.data (.int .i64))] [.val (.marr (.int .i64))]) := by kernel_rfl
theorem slices_Delete_int_int_vc (k : Nat) : VC S (slices_Delete_int_int_T) byt (slices_Delete_int_int_L k) (slices_Delete_int_int_L (k + 1)) (ac [] Try.f49) (retK S (slices_Delete_int_int_T) Try.f49 [.val (.marr (.int .i64)), .val (.data (.int .i64)), .val (.data (.int .i64))] [.val (.marr (.int .i64))]) = [] := by kernel_rfl
theorem slices_Delete_int_int_snd : Snd Try.prog S ⟨49, [.val (.marr (.int .i64)), .val (.data (.int .i64)), .val (.data (.int .i64))], [.val (.marr (.int .i64))], fun x => slices_Delete_int_int x.1 x.2.1 x.2.2⟩ :=
  fn_ok progOk (T := (slices_Delete_int_int_T)) (all_nil) (all_nil) mixed Try.func49 rfl (by kernel_rfl) (ac_code [] Try.f49 rfl) (L := slices_Delete_int_int_L)
    (fun n l h x => by cases h) (fun k n l h => by cases h)
    (fun k => All.mem (slices_Delete_int_int_vc k) trivial) (fun x r h => ⟨0, (slices_Delete_int_int_eq 0 x.1 x.2.1 x.2.2).symm.trans h⟩) (by kernel_rfl) (by kernel_rfl) (Nat.le_of_ble_eq_true (by kernel_rfl))
/-! ### 24 (*cotillion/ring.Ring[int]).Remove -/
noncomputable def ring_Ring_int_Remove  (r : List Int × Int) (v_at : Int) : Option (Int × Bool × (List Int × Int)) := if v_at < 0 then
    some (0, false, (r.1, r.2)) else
    (ring_Ring_int_Len (r.1, r.2)).bind fun r1 =>
    if r1.1 ≤ v_at then
    some (0, false, (r1.2.1, r1.2.2)) else
    if 0 ≤ v_at then
    if v_at < (r1.2.1.length : Int) then
    (slices_Delete_int_int r1.2.1 v_at (w64 (v_at + 1))).bind fun r2 =>
    some (r1.2.1.getD v_at.toNat 0, true, (r2, r1.2.2)) else none else none
noncomputable abbrev ring_Ring_int_Remove_T : Tab S := ⟨[⟨27, [.obj [.marr (.int .i64), .data (.int .i64)]], [.val (.data (.int .i64))], fun x => ring_Ring_int_Len x⟩, ⟨49, [.val (.marr (.int .i64)), .val (.data (.int .i64)), .val (.data (.int .i64))], [.val (.marr (.int .i64))], fun x => slices_Delete_int_int x.1 x.2.1 x.2.2⟩], [], false, false⟩
noncomputable def ring_Ring_int_Remove_L (k : Nat) : Nat → List (Lab S (Int × Bool × (List Int × Int)))
  | _ => []
theorem ring_Ring_int_Remove_eq (k : Nat) (r : List Int × Int) (v_at : Int) : ring_Ring_int_Remove r v_at = exec S (ring_Ring_int_Remove_T) byt (labs S (ring_Ring_int_Remove_T) (ring_Ring_int_Remove_L k)) (ac [] Try.f24) (frame0 S [.obj [.marr (.int .i64), .data (.int .i64)], .val (.data (.int .i64))] (r, v_at)) (retK S (ring_Ring_int_Remove_T) Try.f24 [.obj [.marr (.int .i64), .data (.int .i64)], .val (.data (.int .i64))] [.val (.data (.int .i64)), .val (.data .bool)]) := by kernel_rfl
theorem ring_Ring_int_Remove_vc (k : Nat) : VC S (ring_Ring_int_Remove_T) byt (ring_Ring_int_Remove_L k) (ring_Ring_int_Remove_L (k + 1)) (ac [] Try.f24) (retK S (ring_Ring_int_Remove_T) Try.f24 [.obj [.marr (.int .i64), .data (.int .i64)], .val (.data (.int .i64))] [.val (.data (.int .i64)), .val (.data .bool)]) = [] := by kernel_rfl
theorem ring_Ring_int_Remove_snd : Snd Try.prog S ⟨24, [.obj [.marr (.int .i64), .data (.int .i64)], .val (.data (.int .i64))], [.val (.data (.int .i64)), .val (.data .bool)], fun x => ring_Ring_int_Remove x.1 x.2⟩ :=
  fn_ok progOk (T := (ring_Ring_int_Remove_T)) (all_cons ring_Ring_int_Len_snd (all_cons slices_Delete_int_int_snd (all_nil))) (all_nil) mixed Try.func24 rfl (by kernel_rfl) (ac_code [] Try.f24 rfl) (L := ring_Ring_int_Remove_L)
    (fun n l h x => by cases h) (fun k n l h => by cases h)
    (fun k => All.mem (ring_Ring_int_Remove_vc k) trivial) (fun x r h => ⟨0, (ring_Ring_int_Remove_eq 0 x.1 x.2).symm.trans h⟩) (by kernel_rfl) (by kernel_rfl) (Nat.le_of_ble_eq_true (by kernel_rfl))
/-! ### 28 (*cotillion/ring.Ring[int]).Pop -/
noncomputable def ring_Ring_int_Pop  (r : List Int × Int) : Option (Int × Bool × (List Int × Int)) := (ring_Ring_int_Remove (r.1, r.2) 0).bind fun r1 =>
    some (r1.1, r1.2.1, (r1.2.2.1, r1.2.2.2))
noncomputable abbrev ring_Ring_int_Pop_T : Tab S := ⟨[⟨24, [.obj [.marr (.int .i64), .data (.int .i64)], .val (.data (.int .i64))], [.val (.data (.int .i64)), .val (.data .bool)], fun x => ring_Ring_int_Remove x.1 x.2⟩], [], false, false⟩
noncomputable def ring_Ring_int_Pop_L (k : Nat) : Nat → List (Lab S (Int × Bool × (List Int × Int)))
  | _ => []
theorem ring_Ring_int_Pop_eq (k : Nat) (r : List Int × Int) : ring_Ring_int_Pop r = exec S (ring_Ring_int_Pop_T) byt (labs S (ring_Ring_int_Pop_T) (ring_Ring_int_Pop_L k)) (ac [] Try.f28) (frame0 S [.obj [.marr (.int .i64), .data (.int .i64)]] r) (retK S (ring_Ring_int_Pop_T) Try.f28 [.obj [.marr (.int .i64), .data (.int .i64)]] [.val (.data (.int .i64)), .val (.data .bool)]) := by kernel_rfl
theorem ring_Ring_int_Pop_vc (k : Nat) : VC S (ring_Ring_int_Pop_T) byt (ring_Ring_int_Pop_L k) (ring_Ring_int_Pop_L (k + 1)) (ac [] Try.f28) (retK S (ring_Ring_int_Pop_T) Try.f28 [.obj [.marr (.int .i64), .data (.int .i64)]] [.val (.data (.int .i64)), .val (.data .bool)]) = [] := by kernel_rfl
theorem ring_Ring_int_Pop_snd : Snd Try.prog S ⟨28, [.obj [.marr (.int .i64), .data (.int .i64)]], [.val (.data (.int .i64)), .val (.data .bool)], fun x => ring_Ring_int_Pop x⟩ :=
  fn_ok progOk (T := (ring_Ring_int_Pop_T)) (all_cons ring_Ring_int_Remove_snd (all_nil)) (all_nil) mixed Try.func28 rfl (by kernel_rfl) (ac_code [] Try.f28 rfl) (L := ring_Ring_int_Pop_L)
    (fun n l h x => by cases h) (fun k n l h => by cases h)
    (fun k => All.mem (ring_Ring_int_Pop_vc k) trivial) (fun x r h => ⟨0, (ring_Ring_int_Pop_eq 0 x).symm.trans h⟩) (by kernel_rfl) (by kernel_rfl) (Nat.le_of_ble_eq_true (by kernel_rfl))
/-! ### 48 slices.Clone[[]int,int] -/
noncomputable def slices_Clone_int_int  (s : List Int) : Option (List Int) := if s.length = 0 then
    agree (some []) (if (([] : List Int).length + s.length) * 8 ≤ 140737488355328 then
    some (([] : List Int) ++ s) else none) else
    if (([] : List Int).length + s.length) * 8 ≤ 140737488355328 then
    some (([] : List Int) ++ s) else none
noncomputable abbrev slices_Clone_int_int_T : Tab S := ⟨[], [], true, false⟩
noncomputable def slices_Clone_int_int_L (k : Nat) : Nat → List (Lab S (List Int))
  | _ => []
theorem slices_Clone_int_int_eq (k : Nat) (s : List Int) : slices_Clone_int_int s = exec S (slices_Clone_int_int_T) byt (labs S (slices_Clone_int_int_T) (slices_Clone_int_int_L k)) (ac [] Try.f48) (frame0 S [.val (.data (.sl (.int .i64)))] s) (retK S (slices_Clone_int_int_T) Try.f48 [.val (.data (.sl (.int .i64)))] [.val (.marr (.int .i64))]) := by kernel_rfl
theorem slices_Clone_int_int_vc (k : Nat) : VC S (slices_Clone_int_int_T) byt (slices_Clone_int_int_L k) (slices_Clone_int_int_L (k + 1)) (ac [] Try.f48) (retK S (slices_Clone_int_int_T) Try.f48 [.val (.data (.sl (.int .i64)))] [.val (.marr (.int .i64))]) = [] := by kernel_rfl
theorem slices_Clone_int_int_snd : Snd Try.prog S ⟨48, [.val (.data (.sl (.int .i64)))], [.val (.marr (.int .i64))], fun x => slices_Clone_int_int x⟩ :=
  fn_ok progOk (T := (slices_Clone_int_int_T)) (all_nil) (all_nil) mixed Try.func48 rfl (by kernel_rfl) (ac_code [] Try.f48 rfl) (L := slices_Clone_int_int_L)
    (fun n l h x => by cases h) (fun k n l h => by cases h)
    (fun k => All.mem (slices_Clone_int_int_vc k) trivial) (fun x r h => ⟨0, (slices_Clone_int_int_eq 0 x).symm.trans h⟩) (by kernel_rfl) (by kernel_rfl) (Nat.le_of_ble_eq_true (by kernel_rfl))
/-! ### 23 (*cotillion/ring.Ring[int]).All -/
noncomputable def ring_Ring_int_All  (r : List Int × Int) : Option (List Int × (List Int × Int)) := (slices_Clone_int_int r.1).bind fun r1 => some (r1, (r.1, r.2))
noncomputable abbrev ring_Ring_int_All_T : Tab S := ⟨[⟨48, [.val (.data (.sl (.int .i64)))], [.val (.marr (.int .i64))], fun x => slices_Clone_int_int x⟩], [], false, false⟩
noncomputable def ring_Ring_int_All_L (k : Nat) : Nat → List (Lab S (List Int × (List Int × Int)))
  | _ => []
theorem ring_Ring_int_All_eq (k : Nat) (r : List Int × Int) : ring_Ring_int_All r = exec S (ring_Ring_int_All_T) byt (labs S (ring_Ring_int_All_T) (ring_Ring_int_All_L k)) (ac [] Try.f23) (frame0 S [.obj [.marr (.int .i64), .data (.int .i64)]] r) (retK S (ring_Ring_int_All_T) Try.f23 [.obj [.marr (.int .i64), .data (.int .i64)]] [.val (.marr (.int .i64))]) := by kernel_rfl
theorem ring_Ring_int_All_vc (k : Nat) : VC S (ring_Ring_int_All_T) byt (ring_Ring_int_All_L k) (ring_Ring_int_All_L (k + 1)) (ac [] Try.f23) (retK S (ring_Ring_int_All_T) Try.f23 [.obj [.marr (.int .i64), .data (.int .i64)]] [.val (.marr (.int .i64))]) = [] := by kernel_rfl
theorem ring_Ring_int_All_snd : Snd Try.prog S ⟨23, [.obj [.marr (.int .i64), .data (.int .i64)]], [.val (.marr (.int .i64))], fun x => ring_Ring_int_All x⟩ :=
  fn_ok progOk (T := (ring_Ring_int_All_T)) (all_cons slices_Clone_int_int_snd (all_nil)) (all_nil) mixed Try.func23 rfl (by kernel_rfl) (ac_code [] Try.f23 rfl) (L := ring_Ring_int_All_L)
    (fun n l h x => by cases h) (fun k n l h => by cases h)
    (fun k => All.mem (ring_Ring_int_All_vc k) trivial) (fun x r h => ⟨0, (ring_Ring_int_All_eq 0 x).symm.trans h⟩) (by kernel_rfl) (by kernel_rfl) (Nat.le_of_ble_eq_true (by kernel_rfl))
/-! ### 13 cotillion/cotillionlaw2.known -/
noncomputable def law2_known  : Option Bool := (ring_New_int 2).bind fun r1 =>
    (match r1.1 with
    | none => if r1.2 ≠ 0 then
    some false else
    some false
    | some y2 => if r1.2 ≠ 0 then
    some false else
    (ring_Ring_int_Push (y2.1, y2.2) 1).bind fun r3 =>
    (ring_Ring_int_Push (r3.2.1, r3.2.2) 2).bind fun r4 =>
    (ring_Ring_int_Push (r4.2.1, r4.2.2) 3).bind fun r5 =>
    (ring_Ring_int_Pop (r5.2.1, r5.2.2)).bind fun r6 =>
    (ring_Ring_int_Push (r6.2.2.1, r6.2.2.2) 4).bind fun r7 =>
    (ring_Ring_int_All (r7.2.1, r7.2.2)).bind fun r8 =>
    bif r3.1 then
    bif r4.1 then
    bif !r5.1 then
    if r6.1 = 1 then
    bif r6.2.1 then
    bif r7.1 then
    if (r8.1.length : Int) = 2 then
    if (0 : Int) ≤ 0 then
    if 0 < (r8.1.length : Int) then
    if (r8.1.getD (0 : Int).toNat 0) = 2 then
    if (0 : Int) ≤ 1 then
    if 1 < (r8.1.length : Int) then
    some (decide ((r8.1.getD (1 : Int).toNat 0) = 4)) else none else none else
    some false else none else none else
    some false else
    some false else
    some false else
    some false else
    some false else
    some false else
    some false)
noncomputable abbrev law2_known_T : Tab S := ⟨[⟨21, [.val (.data (.int .i64))], [.opt [.marr (.int .i64), .data (.int .i64)], .val (.data (.int .i64))], fun x => ring_New_int x⟩, ⟨22, [.obj [.marr (.int .i64), .data (.int .i64)], .val (.data (.int .i64))], [.val (.data .bool)], fun x => ring_Ring_int_Push x.1 x.2⟩, ⟨28, [.obj [.marr (.int .i64), .data (.int .i64)]], [.val (.data (.int .i64)), .val (.data .bool)], fun x => ring_Ring_int_Pop x⟩, ⟨23, [.obj [.marr (.int .i64), .data (.int .i64)]], [.val (.marr (.int .i64))], fun x => ring_Ring_int_All x⟩], [], false, false⟩
noncomputable def law2_known_L (k : Nat) : Nat → List (Lab S Bool)
  | _ => []
theorem law2_known_eq (k : Nat) : law2_known = exec S (law2_known_T) byt (labs S (law2_known_T) (law2_known_L k)) (ac [] Try.f13) (frame0 S [] ()) (retK S (law2_known_T) Try.f13 [] [.val (.data .bool)]) := by kernel_rfl
theorem law2_known_vc (k : Nat) : VC S (law2_known_T) byt (law2_known_L k) (law2_known_L (k + 1)) (ac [] Try.f13) (retK S (law2_known_T) Try.f13 [] [.val (.data .bool)]) = [] := by kernel_rfl
theorem law2_known_snd : Snd Try.prog S ⟨13, [], [.val (.data .bool)], fun x => law2_known⟩ :=
  fn_ok progOk (T := (law2_known_T)) (all_cons ring_New_int_snd (all_cons ring_Ring_int_Push_snd (all_cons ring_Ring_int_Pop_snd (all_cons ring_Ring_int_All_snd (all_nil))))) (all_nil) mixed Try.func13 rfl (by kernel_rfl) (ac_code [] Try.f13 rfl) (L := law2_known_L)
    (fun n l h x => by cases h) (fun k n l h => by cases h)
    (fun k => All.mem (law2_known_vc k) trivial) (fun x r h => ⟨0, (law2_known_eq 0).symm.trans h⟩) (by kernel_rfl) (by kernel_rfl) (Nat.le_of_ble_eq_true (by kernel_rfl))
/-! ### 20 (*cotillion/ring.Ring[cotillion/api.Msg]).Room -/
noncomputable def ring_Ring_api_Msg_Room  (r : List api_Msg × Int) : Option (Int × (List api_Msg × Int)) := some (w64 (r.2 - (r.1.length : Int)), (r.1, r.2))
noncomputable abbrev ring_Ring_api_Msg_Room_T : Tab S := ⟨[], [], false, false⟩
noncomputable def ring_Ring_api_Msg_Room_L (k : Nat) : Nat → List (Lab S (Int × (List api_Msg × Int)))
  | _ => []
theorem ring_Ring_api_Msg_Room_eq (k : Nat) (r : List api_Msg × Int) : ring_Ring_api_Msg_Room r = exec S (ring_Ring_api_Msg_Room_T) byt (labs S (ring_Ring_api_Msg_Room_T) (ring_Ring_api_Msg_Room_L k)) (ac [] Try.f20) (frame0 S [.obj [.marr (.st 0), .data (.int .i64)]] r) (retK S (ring_Ring_api_Msg_Room_T) Try.f20 [.obj [.marr (.st 0), .data (.int .i64)]] [.val (.data (.int .i64))]) := by kernel_rfl
theorem ring_Ring_api_Msg_Room_vc (k : Nat) : VC S (ring_Ring_api_Msg_Room_T) byt (ring_Ring_api_Msg_Room_L k) (ring_Ring_api_Msg_Room_L (k + 1)) (ac [] Try.f20) (retK S (ring_Ring_api_Msg_Room_T) Try.f20 [.obj [.marr (.st 0), .data (.int .i64)]] [.val (.data (.int .i64))]) = [] := by kernel_rfl
theorem ring_Ring_api_Msg_Room_snd : Snd Try.prog S ⟨20, [.obj [.marr (.st 0), .data (.int .i64)]], [.val (.data (.int .i64))], fun x => ring_Ring_api_Msg_Room x⟩ :=
  fn_ok progOk (T := (ring_Ring_api_Msg_Room_T)) (all_nil) (all_nil) mixed Try.func20 rfl (by kernel_rfl) (ac_code [] Try.f20 rfl) (L := ring_Ring_api_Msg_Room_L)
    (fun n l h x => by cases h) (fun k n l h => by cases h)
    (fun k => All.mem (ring_Ring_api_Msg_Room_vc k) trivial) (fun x r h => ⟨0, (ring_Ring_api_Msg_Room_eq 0 x).symm.trans h⟩) (by kernel_rfl) (by kernel_rfl) (Nat.le_of_ble_eq_true (by kernel_rfl))
/-! ### 14 (*cotillion/ring.Ring[cotillion/api.Msg]).Push -/
noncomputable def ring_Ring_api_Msg_Push  (r : List api_Msg × Int) (x : api_Msg) : Option (Bool × (List api_Msg × Int)) := (ring_Ring_api_Msg_Room (r.1, r.2)).bind fun r1 =>
    if r1.1 = 0 then
    some (false, (r1.2.1, r1.2.2)) else
    if (r1.2.1.length + [x].length) * 24 ≤ 140737488355328 then
    some (true, (r1.2.1 ++ [x], r1.2.2)) else none
noncomputable abbrev ring_Ring_api_Msg_Push_T : Tab S := ⟨[⟨20, [.obj [.marr (.st 0), .data (.int .i64)]], [.val (.data (.int .i64))], fun x => ring_Ring_api_Msg_Room x⟩], [], false, false⟩
noncomputable def ring_Ring_api_Msg_Push_L (k : Nat) : Nat → List (Lab S (Bool × (List api_Msg × Int)))
  | _ => []
theorem ring_Ring_api_Msg_Push_eq (k : Nat) (r : List api_Msg × Int) (x : api_Msg) : ring_Ring_api_Msg_Push r x = exec S (ring_Ring_api_Msg_Push_T) byt (labs S (ring_Ring_api_Msg_Push_T) (ring_Ring_api_Msg_Push_L k)) (ac [] Try.f14) (frame0 S [.obj [.marr (.st 0), .data (.int .i64)], .val (.data (.st 0))] (r, x)) (retK S (ring_Ring_api_Msg_Push_T) Try.f14 [.obj [.marr (.st 0), .data (.int .i64)], .val (.data (.st 0))] [.val (.data .bool)]) := by kernel_rfl
theorem ring_Ring_api_Msg_Push_vc (k : Nat) : VC S (ring_Ring_api_Msg_Push_T) byt (ring_Ring_api_Msg_Push_L k) (ring_Ring_api_Msg_Push_L (k + 1)) (ac [] Try.f14) (retK S (ring_Ring_api_Msg_Push_T) Try.f14 [.obj [.marr (.st 0), .data (.int .i64)], .val (.data (.st 0))] [.val (.data .bool)]) = [] := by kernel_rfl
theorem ring_Ring_api_Msg_Push_snd : Snd Try.prog S ⟨14, [.obj [.marr (.st 0), .data (.int .i64)], .val (.data (.st 0))], [.val (.data .bool)], fun x => ring_Ring_api_Msg_Push x.1 x.2⟩ :=
  fn_ok progOk (T := (ring_Ring_api_Msg_Push_T)) (all_cons ring_Ring_api_Msg_Room_snd (all_nil)) (all_nil) mixed Try.func14 rfl (by kernel_rfl) (ac_code [] Try.f14 rfl) (L := ring_Ring_api_Msg_Push_L)
    (fun n l h x => by cases h) (fun k n l h => by cases h)
    (fun k => All.mem (ring_Ring_api_Msg_Push_vc k) trivial) (fun x r h => ⟨0, (ring_Ring_api_Msg_Push_eq 0 x.1 x.2).symm.trans h⟩) (by kernel_rfl) (by kernel_rfl) (Nat.le_of_ble_eq_true (by kernel_rfl))
/-! ### 46 slices.Clone[[]cotillion/api.Msg,cotillion/api.Msg] -/
noncomputable def slices_Clone_api_Msg_api_Msg  (s : List api_Msg) : Option (List api_Msg) := if s.length = 0 then
    agree (some []) (if (([] : List api_Msg).length + s.length) * 24 ≤ 140737488355328 then
    some (([] : List api_Msg) ++ s) else none) else
    if (([] : List api_Msg).length + s.length) * 24 ≤ 140737488355328 then
    some (([] : List api_Msg) ++ s) else none
noncomputable abbrev slices_Clone_api_Msg_api_Msg_T : Tab S := ⟨[], [], true, false⟩
noncomputable def slices_Clone_api_Msg_api_Msg_L (k : Nat) : Nat → List (Lab S (List api_Msg))
  | _ => []
theorem slices_Clone_api_Msg_api_Msg_eq (k : Nat) (s : List api_Msg) : slices_Clone_api_Msg_api_Msg s = exec S (slices_Clone_api_Msg_api_Msg_T) byt (labs S (slices_Clone_api_Msg_api_Msg_T) (slices_Clone_api_Msg_api_Msg_L k)) (ac [] Try.f46) (frame0 S [.val (.data (.sl (.st 0)))] s) (retK S (slices_Clone_api_Msg_api_Msg_T) Try.f46 [.val (.data (.sl (.st 0)))] [.val (.marr (.st 0))]) := by kernel_rfl
theorem slices_Clone_api_Msg_api_Msg_vc (k : Nat) : VC S (slices_Clone_api_Msg_api_Msg_T) byt (slices_Clone_api_Msg_api_Msg_L k) (slices_Clone_api_Msg_api_Msg_L (k + 1)) (ac [] Try.f46) (retK S (slices_Clone_api_Msg_api_Msg_T) Try.f46 [.val (.data (.sl (.st 0)))] [.val (.marr (.st 0))]) = [] := by kernel_rfl
theorem slices_Clone_api_Msg_api_Msg_snd : Snd Try.prog S ⟨46, [.val (.data (.sl (.st 0)))], [.val (.marr (.st 0))], fun x => slices_Clone_api_Msg_api_Msg x⟩ :=
  fn_ok progOk (T := (slices_Clone_api_Msg_api_Msg_T)) (all_nil) (all_nil) mixed Try.func46 rfl (by kernel_rfl) (ac_code [] Try.f46 rfl) (L := slices_Clone_api_Msg_api_Msg_L)
    (fun n l h x => by cases h) (fun k n l h => by cases h)
    (fun k => All.mem (slices_Clone_api_Msg_api_Msg_vc k) trivial) (fun x r h => ⟨0, (slices_Clone_api_Msg_api_Msg_eq 0 x).symm.trans h⟩) (by kernel_rfl) (by kernel_rfl) (Nat.le_of_ble_eq_true (by kernel_rfl))
/-! ### 16 (*cotillion/ring.Ring[cotillion/api.Msg]).All -/
noncomputable def ring_Ring_api_Msg_All  (r : List api_Msg × Int) : Option (List api_Msg × (List api_Msg × Int)) := (slices_Clone_api_Msg_api_Msg r.1).bind fun r1 => some (r1, (r.1, r.2))
noncomputable abbrev ring_Ring_api_Msg_All_T : Tab S := ⟨[⟨46, [.val (.data (.sl (.st 0)))], [.val (.marr (.st 0))], fun x => slices_Clone_api_Msg_api_Msg x⟩], [], false, false⟩
noncomputable def ring_Ring_api_Msg_All_L (k : Nat) : Nat → List (Lab S (List api_Msg × (List api_Msg × Int)))
  | _ => []
theorem ring_Ring_api_Msg_All_eq (k : Nat) (r : List api_Msg × Int) : ring_Ring_api_Msg_All r = exec S (ring_Ring_api_Msg_All_T) byt (labs S (ring_Ring_api_Msg_All_T) (ring_Ring_api_Msg_All_L k)) (ac [] Try.f16) (frame0 S [.obj [.marr (.st 0), .data (.int .i64)]] r) (retK S (ring_Ring_api_Msg_All_T) Try.f16 [.obj [.marr (.st 0), .data (.int .i64)]] [.val (.marr (.st 0))]) := by kernel_rfl
theorem ring_Ring_api_Msg_All_vc (k : Nat) : VC S (ring_Ring_api_Msg_All_T) byt (ring_Ring_api_Msg_All_L k) (ring_Ring_api_Msg_All_L (k + 1)) (ac [] Try.f16) (retK S (ring_Ring_api_Msg_All_T) Try.f16 [.obj [.marr (.st 0), .data (.int .i64)]] [.val (.marr (.st 0))]) = [] := by kernel_rfl
theorem ring_Ring_api_Msg_All_snd : Snd Try.prog S ⟨16, [.obj [.marr (.st 0), .data (.int .i64)]], [.val (.marr (.st 0))], fun x => ring_Ring_api_Msg_All x⟩ :=
  fn_ok progOk (T := (ring_Ring_api_Msg_All_T)) (all_cons slices_Clone_api_Msg_api_Msg_snd (all_nil)) (all_nil) mixed Try.func16 rfl (by kernel_rfl) (ac_code [] Try.f16 rfl) (L := ring_Ring_api_Msg_All_L)
    (fun n l h x => by cases h) (fun k n l h => by cases h)
    (fun k => All.mem (ring_Ring_api_Msg_All_vc k) trivial) (fun x r h => ⟨0, (ring_Ring_api_Msg_All_eq 0 x).symm.trans h⟩) (by kernel_rfl) (by kernel_rfl) (Nat.le_of_ble_eq_true (by kernel_rfl))
/-! ### 15 cotillion/cotillionlaw2.msgs -/
noncomputable def law2_msgs_l0 : Nat → (List api_Msg) → (List api_Msg) → Int → Option Bool
  | 0, _, _, _ => none
  | k + 1, a, b, i => if i < (a.length : Int) then
    if 0 ≤ i then
    if i < (a.length : Int) then
    if 0 ≤ i then
    if i < (b.length : Int) then
    if ¬ (((a.getD i.toNat api_Msg.z).Event) = ((b.getD i.toNat api_Msg.z).Event) ∧ ((a.getD i.toNat api_Msg.z).N) = ((b.getD i.toNat api_Msg.z).N)) then
    some false else
    law2_msgs_l0 k a b (w64 (i + 1)) else none else none else none else none else
    some true
noncomputable def law2_msgs_f (k : Nat) (a : List api_Msg) (b : List api_Msg) : Option Bool := if (a.length : Int) ≠ (b.length : Int) then some false else law2_msgs_l0 k a b 0
noncomputable def law2_msgs (a : List api_Msg) (b : List api_Msg) : Option Bool := lim (fun k (x : List api_Msg × List api_Msg) => law2_msgs_f k x.1 x.2) (a, b)
noncomputable abbrev law2_msgs_T : Tab S := ⟨[], [], false, false⟩
noncomputable def law2_msgs_L (k : Nat) : Nat → List (Lab S Bool)
  | 0 => [⟨[0, 1, 5], [.val (.data (.sl (.st 0))), .val (.data (.sl (.st 0))), .val (.data (.int .i64))], fun x => law2_msgs_l0 k x.1 x.2.1 x.2.2⟩]
  | _ + 1 => []
theorem law2_msgs_eq (k : Nat) (a : List api_Msg) (b : List api_Msg) : law2_msgs_f k a b = exec S (law2_msgs_T) byt (labs S (law2_msgs_T) (law2_msgs_L k)) (ac [] Try.f15) (frame0 S [.val (.data (.sl (.st 0))), .val (.data (.sl (.st 0)))] (a, b)) (retK S (law2_msgs_T) Try.f15 [.val (.data (.sl (.st 0))), .val (.data (.sl (.st 0)))] [.val (.data .bool)]) := by kernel_rfl
theorem law2_msgs_vc (k : Nat) : VC S (law2_msgs_T) byt (law2_msgs_L k) (law2_msgs_L (k + 1)) (ac [] Try.f15) (retK S (law2_msgs_T) Try.f15 [.val (.data (.sl (.st 0))), .val (.data (.sl (.st 0)))] [.val (.data .bool)]) = [∀ x : List api_Msg × List api_Msg × Int, law2_msgs_l0 (k + 1) x.1 x.2.1 x.2.2 = law2_msgs_l0 (k + 1) x.1 x.2.1 x.2.2] := by kernel_rfl
theorem law2_msgs_sndk (k : Nat) : Snd Try.prog S ⟨15, [.val (.data (.sl (.st 0))), .val (.data (.sl (.st 0)))], [.val (.data .bool)], fun x => law2_msgs_f k x.1 x.2⟩ :=
  fn_ok progOk (T := (law2_msgs_T)) (all_nil) (all_nil) mixed Try.func15 rfl (by kernel_rfl) (ac_code [] Try.f15 rfl) (L := law2_msgs_L)
    (fun n l h x => by match n, h with
        | 0, h => 
          rcases List.mem_cons.1 h with rfl | h
          · rfl
          cases h
        | _ + 1, h => cases h) (fun k n l h => by match n, h with
        | 0, h => 
          rcases List.mem_cons.1 h with rfl | h
          · rfl
          cases h
        | _ + 1, h => cases h)
    (fun k => All.mem (law2_msgs_vc k) ⟨fun _ => rfl, trivial⟩) (fun x r h => ⟨k, (law2_msgs_eq k x.1 x.2).symm.trans h⟩) (by kernel_rfl) (by kernel_rfl) (Nat.le_of_ble_eq_true (by kernel_rfl))
theorem law2_msgs_snd : Snd Try.prog S ⟨15, [.val (.data (.sl (.st 0))), .val (.data (.sl (.st 0)))], [.val (.data .bool)], fun x => law2_msgs x.1 x.2⟩ := Snd.lim law2_msgs_sndk
/-! ### 19 (*cotillion/ring.Ring[cotillion/api.Msg]).Len -/
noncomputable def ring_Ring_api_Msg_Len  (r : List api_Msg × Int) : Option (Int × (List api_Msg × Int)) := some ((r.1.length : Int), (r.1, r.2))
noncomputable abbrev ring_Ring_api_Msg_Len_T : Tab S := ⟨[], [], false, false⟩
noncomputable def ring_Ring_api_Msg_Len_L (k : Nat) : Nat → List (Lab S (Int × (List api_Msg × Int)))
  | _ => []
theorem ring_Ring_api_Msg_Len_eq (k : Nat) (r : List api_Msg × Int) : ring_Ring_api_Msg_Len r = exec S (ring_Ring_api_Msg_Len_T) byt (labs S (ring_Ring_api_Msg_Len_T) (ring_Ring_api_Msg_Len_L k)) (ac [] Try.f19) (frame0 S [.obj [.marr (.st 0), .data (.int .i64)]] r) (retK S (ring_Ring_api_Msg_Len_T) Try.f19 [.obj [.marr (.st 0), .data (.int .i64)]] [.val (.data (.int .i64))]) := by kernel_rfl
theorem ring_Ring_api_Msg_Len_vc (k : Nat) : VC S (ring_Ring_api_Msg_Len_T) byt (ring_Ring_api_Msg_Len_L k) (ring_Ring_api_Msg_Len_L (k + 1)) (ac [] Try.f19) (retK S (ring_Ring_api_Msg_Len_T) Try.f19 [.obj [.marr (.st 0), .data (.int .i64)]] [.val (.data (.int .i64))]) = [] := by kernel_rfl
theorem ring_Ring_api_Msg_Len_snd : Snd Try.prog S ⟨19, [.obj [.marr (.st 0), .data (.int .i64)]], [.val (.data (.int .i64))], fun x => ring_Ring_api_Msg_Len x⟩ :=
  fn_ok progOk (T := (ring_Ring_api_Msg_Len_T)) (all_nil) (all_nil) mixed Try.func19 rfl (by kernel_rfl) (ac_code [] Try.f19 rfl) (L := ring_Ring_api_Msg_Len_L)
    (fun n l h x => by cases h) (fun k n l h => by cases h)
    (fun k => All.mem (ring_Ring_api_Msg_Len_vc k) trivial) (fun x r h => ⟨0, (ring_Ring_api_Msg_Len_eq 0 x).symm.trans h⟩) (by kernel_rfl) (by kernel_rfl) (Nat.le_of_ble_eq_true (by kernel_rfl))
/-! ### 17 (*cotillion/ring.Ring[cotillion/api.Msg]).Head -/
noncomputable def ring_Ring_api_Msg_Head  (r : List api_Msg × Int) : Option (api_Msg × Bool × (List api_Msg × Int)) := (ring_Ring_api_Msg_Len (r.1, r.2)).bind fun r1 =>
    if r1.1 = 0 then
    some (api_Msg.mk [] 0, false, (r1.2.1, r1.2.2)) else
    if (0 : Int) ≤ 0 then
    if 0 < (r1.2.1.length : Int) then
    some (r1.2.1.getD (0 : Int).toNat api_Msg.z, true, (r1.2.1, r1.2.2)) else none else none
noncomputable abbrev ring_Ring_api_Msg_Head_T : Tab S := ⟨[⟨19, [.obj [.marr (.st 0), .data (.int .i64)]], [.val (.data (.int .i64))], fun x => ring_Ring_api_Msg_Len x⟩], [], false, false⟩
noncomputable def ring_Ring_api_Msg_Head_L (k : Nat) : Nat → List (Lab S (api_Msg × Bool × (List api_Msg × Int)))
  | _ => []
theorem ring_Ring_api_Msg_Head_eq (k : Nat) (r : List api_Msg × Int) : ring_Ring_api_Msg_Head r = exec S (ring_Ring_api_Msg_Head_T) byt (labs S (ring_Ring_api_Msg_Head_T) (ring_Ring_api_Msg_Head_L k)) (ac [] Try.f17) (frame0 S [.obj [.marr (.st 0), .data (.int .i64)]] r) (retK S (ring_Ring_api_Msg_Head_T) Try.f17 [.obj [.marr (.st 0), .data (.int .i64)]] [.val (.data (.st 0)), .val (.data .bool)]) := by kernel_rfl
theorem ring_Ring_api_Msg_Head_vc (k : Nat) : VC S (ring_Ring_api_Msg_Head_T) byt (ring_Ring_api_Msg_Head_L k) (ring_Ring_api_Msg_Head_L (k + 1)) (ac [] Try.f17) (retK S (ring_Ring_api_Msg_Head_T) Try.f17 [.obj [.marr (.st 0), .data (.int .i64)]] [.val (.data (.st 0)), .val (.data .bool)]) = [] := by kernel_rfl
theorem ring_Ring_api_Msg_Head_snd : Snd Try.prog S ⟨17, [.obj [.marr (.st 0), .data (.int .i64)]], [.val (.data (.st 0)), .val (.data .bool)], fun x => ring_Ring_api_Msg_Head x⟩ :=
  fn_ok progOk (T := (ring_Ring_api_Msg_Head_T)) (all_cons ring_Ring_api_Msg_Len_snd (all_nil)) (all_nil) mixed Try.func17 rfl (by kernel_rfl) (ac_code [] Try.f17 rfl) (L := ring_Ring_api_Msg_Head_L)
    (fun n l h x => by cases h) (fun k n l h => by cases h)
    (fun k => All.mem (ring_Ring_api_Msg_Head_vc k) trivial) (fun x r h => ⟨0, (ring_Ring_api_Msg_Head_eq 0 x).symm.trans h⟩) (by kernel_rfl) (by kernel_rfl) (Nat.le_of_ble_eq_true (by kernel_rfl))
/-! ### 54 slices.Delete[[]cotillion/api.Msg,cotillion/api.Msg] -/
noncomputable def slices_Delete_api_Msg_api_Msg  (s : List api_Msg) (i : Int) (j : Int) : Option (List api_Msg) := if 0 ≤ i then
    if i ≤ j then
    if j ≤ (s.length : Int) then
    if (s.length : Int) ≤ (s.length : Int) then
    if i = j then
    some s else
    if 0 ≤ i then
    if i ≤ (s.length : Int) then
    if 0 ≤ j then
    if j ≤ (s.length : Int) then
    if i ≤ j then
    if s.length * 24 ≤ 140737488355328 then
    if 0 ≤ (s.length : Int) then
    if (s.length : Int) ≤ ((moved s i j ((s.length : Int) - j)).length : Int) then
    if 0 ≤ (i + ((s.length : Int) - j)) then
    if (i + ((s.length : Int) - j)) ≤ (s.length : Int) then
    some (List.take (i + ((s.length : Int) - j)).toNat (cleared api_Msg.z (moved s i j ((s.length : Int) - j)) (i + ((s.length : Int) - j)) ((s.length : Int) - (i + ((s.length : Int) - j))))) else none else none else none else none else none else none else none else none else none else none else none else none else none else none
noncomputable abbrev slices_Delete_api_Msg_api_Msg_T : Tab S := ⟨[], [], false, true⟩
noncomputable def slices_Delete_api_Msg_api_Msg_L (k : Nat) : Nat → List (Lab S (List api_Msg))
  | _ => []
theorem slices_Delete_api_Msg_api_Msg_eq (k : Nat) (s : List api_Msg) (i : Int) (j : Int) : slices_Delete_api_Msg_api_Msg s i j = exec S (slices_Delete_api_Msg_api_Msg_T) byt (labs S (slices_Delete_api_Msg_api_Msg_T) (slices_Delete_api_Msg_api_Msg_L k)) (ac [] Try.f54) (frame0 S [.val (.marr (.st 0)), .val (.data (.int .i64)), .val (.data (.int .i64))] (s, i, j)) (retK S (slices_Delete_api_Msg_api_Msg_T) Try.f54 [.val (.marr (.st 0)), .val (.data (.int .i64)), .val (.data (.int .i64))] [.val (.marr (.st 0))]) := by kernel_rfl
theorem slices_Delete_api_Msg_api_Msg_vc (k : Nat) : VC S (slices_Delete_api_Msg_api_Msg_T) byt (slices_Delete_api_Msg_api_Msg_L k) (slices_Delete_api_Msg_api_Msg_L (k + 1)) (ac [] Try.f54) (retK S (slices_Delete_api_Msg_api_Msg_T) Try.f54 [.val (.marr (.st 0)), .val (.data (.int .i64)), .val (.data (.int .i64))] [.val (.marr (.st 0))]) = [] := by kernel_rfl
theorem slices_Delete_api_Msg_api_Msg_snd : Snd Try.prog S ⟨54, [.val (.marr (.st 0)), .val (.data (.int .i64)), .val (.data (.int .i64))], [.val (.marr (.st 0))], fun x => slices_Delete_api_Msg_api_Msg x.1 x.2.1 x.2.2⟩ :=
  fn_ok progOk (T := (slices_Delete_api_Msg_api_Msg_T)) (all_nil) (all_nil) mixed Try.func54 rfl (by kernel_rfl) (ac_code [] Try.f54 rfl) (L := slices_Delete_api_Msg_api_Msg_L)
    (fun n l h x => by cases h) (fun k n l h => by cases h)
    (fun k => All.mem (slices_Delete_api_Msg_api_Msg_vc k) trivial) (fun x r h => ⟨0, (slices_Delete_api_Msg_api_Msg_eq 0 x.1 x.2.1 x.2.2).symm.trans h⟩) (by kernel_rfl) (by kernel_rfl) (Nat.le_of_ble_eq_true (by kernel_rfl))
/-! ### 47 (*cotillion/ring.Ring[cotillion/api.Msg]).Remove -/
noncomputable def ring_Ring_api_Msg_Remove  (r : List api_Msg × Int) (v_at : Int) : Option (api_Msg × Bool × (List api_Msg × Int)) := if v_at < 0 then
    some (api_Msg.mk [] 0, false, (r.1, r.2)) else
    (ring_Ring_api_Msg_Len (r.1, r.2)).bind fun r1 =>
    if r1.1 ≤ v_at then
    some (api_Msg.mk [] 0, false, (r1.2.1, r1.2.2)) else
    if 0 ≤ v_at then
    if v_at < (r1.2.1.length : Int) then
    (slices_Delete_api_Msg_api_Msg r1.2.1 v_at (w64 (v_at + 1))).bind fun r2 =>
    some (r1.2.1.getD v_at.toNat api_Msg.z, true, (r2, r1.2.2)) else none else none
noncomputable abbrev ring_Ring_api_Msg_Remove_T : Tab S := ⟨[⟨19, [.obj [.marr (.st 0), .data (.int .i64)]], [.val (.data (.int .i64))], fun x => ring_Ring_api_Msg_Len x⟩, ⟨54, [.val (.marr (.st 0)), .val (.data (.int .i64)), .val (.data (.int .i64))], [.val (.marr (.st 0))], fun x => slices_Delete_api_Msg_api_Msg x.1 x.2.1 x.2.2⟩], [], false, false⟩
noncomputable def ring_Ring_api_Msg_Remove_L (k : Nat) : Nat → List (Lab S (api_Msg × Bool × (List api_Msg × Int)))
  | _ => []
theorem ring_Ring_api_Msg_Remove_eq (k : Nat) (r : List api_Msg × Int) (v_at : Int) : ring_Ring_api_Msg_Remove r v_at = exec S (ring_Ring_api_Msg_Remove_T) byt (labs S (ring_Ring_api_Msg_Remove_T) (ring_Ring_api_Msg_Remove_L k)) (ac [] Try.f47) (frame0 S [.obj [.marr (.st 0), .data (.int .i64)], .val (.data (.int .i64))] (r, v_at)) (retK S (ring_Ring_api_Msg_Remove_T) Try.f47 [.obj [.marr (.st 0), .data (.int .i64)], .val (.data (.int .i64))] [.val (.data (.st 0)), .val (.data .bool)]) := by kernel_rfl
theorem ring_Ring_api_Msg_Remove_vc (k : Nat) : VC S (ring_Ring_api_Msg_Remove_T) byt (ring_Ring_api_Msg_Remove_L k) (ring_Ring_api_Msg_Remove_L (k + 1)) (ac [] Try.f47) (retK S (ring_Ring_api_Msg_Remove_T) Try.f47 [.obj [.marr (.st 0), .data (.int .i64)], .val (.data (.int .i64))] [.val (.data (.st 0)), .val (.data .bool)]) = [] := by kernel_rfl
theorem ring_Ring_api_Msg_Remove_snd : Snd Try.prog S ⟨47, [.obj [.marr (.st 0), .data (.int .i64)], .val (.data (.int .i64))], [.val (.data (.st 0)), .val (.data .bool)], fun x => ring_Ring_api_Msg_Remove x.1 x.2⟩ :=
  fn_ok progOk (T := (ring_Ring_api_Msg_Remove_T)) (all_cons ring_Ring_api_Msg_Len_snd (all_cons slices_Delete_api_Msg_api_Msg_snd (all_nil))) (all_nil) mixed Try.func47 rfl (by kernel_rfl) (ac_code [] Try.f47 rfl) (L := ring_Ring_api_Msg_Remove_L)
    (fun n l h x => by cases h) (fun k n l h => by cases h)
    (fun k => All.mem (ring_Ring_api_Msg_Remove_vc k) trivial) (fun x r h => ⟨0, (ring_Ring_api_Msg_Remove_eq 0 x.1 x.2).symm.trans h⟩) (by kernel_rfl) (by kernel_rfl) (Nat.le_of_ble_eq_true (by kernel_rfl))
/-! ### 18 (*cotillion/ring.Ring[cotillion/api.Msg]).Pop -/
noncomputable def ring_Ring_api_Msg_Pop  (r : List api_Msg × Int) : Option (api_Msg × Bool × (List api_Msg × Int)) := (ring_Ring_api_Msg_Remove (r.1, r.2) 0).bind fun r1 =>
    some (r1.1, r1.2.1, (r1.2.2.1, r1.2.2.2))
noncomputable abbrev ring_Ring_api_Msg_Pop_T : Tab S := ⟨[⟨47, [.obj [.marr (.st 0), .data (.int .i64)], .val (.data (.int .i64))], [.val (.data (.st 0)), .val (.data .bool)], fun x => ring_Ring_api_Msg_Remove x.1 x.2⟩], [], false, false⟩
noncomputable def ring_Ring_api_Msg_Pop_L (k : Nat) : Nat → List (Lab S (api_Msg × Bool × (List api_Msg × Int)))
  | _ => []
theorem ring_Ring_api_Msg_Pop_eq (k : Nat) (r : List api_Msg × Int) : ring_Ring_api_Msg_Pop r = exec S (ring_Ring_api_Msg_Pop_T) byt (labs S (ring_Ring_api_Msg_Pop_T) (ring_Ring_api_Msg_Pop_L k)) (ac [] Try.f18) (frame0 S [.obj [.marr (.st 0), .data (.int .i64)]] r) (retK S (ring_Ring_api_Msg_Pop_T) Try.f18 [.obj [.marr (.st 0), .data (.int .i64)]] [.val (.data (.st 0)), .val (.data .bool)]) := by kernel_rfl
theorem ring_Ring_api_Msg_Pop_vc (k : Nat) : VC S (ring_Ring_api_Msg_Pop_T) byt (ring_Ring_api_Msg_Pop_L k) (ring_Ring_api_Msg_Pop_L (k + 1)) (ac [] Try.f18) (retK S (ring_Ring_api_Msg_Pop_T) Try.f18 [.obj [.marr (.st 0), .data (.int .i64)]] [.val (.data (.st 0)), .val (.data .bool)]) = [] := by kernel_rfl
theorem ring_Ring_api_Msg_Pop_snd : Snd Try.prog S ⟨18, [.obj [.marr (.st 0), .data (.int .i64)]], [.val (.data (.st 0)), .val (.data .bool)], fun x => ring_Ring_api_Msg_Pop x⟩ :=
  fn_ok progOk (T := (ring_Ring_api_Msg_Pop_T)) (all_cons ring_Ring_api_Msg_Remove_snd (all_nil)) (all_nil) mixed Try.func18 rfl (by kernel_rfl) (ac_code [] Try.f18 rfl) (L := ring_Ring_api_Msg_Pop_L)
    (fun n l h x => by cases h) (fun k n l h => by cases h)
    (fun k => All.mem (ring_Ring_api_Msg_Pop_vc k) trivial) (fun x r h => ⟨0, (ring_Ring_api_Msg_Pop_eq 0 x).symm.trans h⟩) (by kernel_rfl) (by kernel_rfl) (Nat.le_of_ble_eq_true (by kernel_rfl))
/-! ### 3 cotillion/cotillionlaw2.RingMsgs -/
noncomputable def law2_RingMsgs_l1 : Nat → Int → (List api_Msg) → (List api_Msg) → Int → Int → Int → Option Bool
  | 0, _, _, _, _, _, _ => none
  | k + 1, room, l, r__l, r__room, n, i => if i < n then
    (ring_Ring_api_Msg_Head (r__l, r__room)).bind fun r8 =>
    (ring_Ring_api_Msg_Pop (r8.2.2.1, r8.2.2.2)).bind fun r9 =>
    bif !r8.2.1 then
    some false else
    bif !r9.2.1 then
    some false else
    if 0 ≤ i then
    if i < (l.length : Int) then
    if ¬ (r8.1.Event = ((l.getD i.toNat api_Msg.z).Event) ∧ r8.1.N = ((l.getD i.toNat api_Msg.z).N)) then
    some false else
    if 0 ≤ i then
    if i < (l.length : Int) then
    if ¬ (r9.1.Event = ((l.getD i.toNat api_Msg.z).Event) ∧ r9.1.N = ((l.getD i.toNat api_Msg.z).N)) then
    some false else
    law2_RingMsgs_l1 k room l r9.2.2.1 r9.2.2.2 n (w64 (i + 1)) else none else none else none else none else
    (ring_Ring_api_Msg_Pop (r__l, r__room)).bind fun r10 =>
    bif !r10.2.1 then
    (ring_Ring_api_Msg_Len (r10.2.2.1, r10.2.2.2)).bind fun r11 =>
    if r11.1 = 0 then
    (ring_Ring_api_Msg_Room (r11.2.1, r11.2.2)).bind fun r12 =>
    if r12.1 = (w64 room) then
    (law2_known).bind fun r13 =>
    some r13 else
    some false else
    some false else
    some false
noncomputable def law2_RingMsgs_l0 : Nat → Int → (List api_Msg) → (List api_Msg) → Int → Int → Option Bool
  | 0, _, _, _, _, _ => none
  | k + 1, room, l, r__l, r__room, i => if i < (l.length : Int) then
    if 0 ≤ i then
    if i < (l.length : Int) then
    (ring_Ring_api_Msg_Push (r__l, r__room) (l.getD i.toNat api_Msg.z)).bind fun r5 =>
    if r5.1 ≠ (decide (i < (w64 room))) then
    some false else
    law2_RingMsgs_l0 k room l r5.2.1 r5.2.2 (w64 (i + 1)) else none else none else
    (ring_Ring_api_Msg_All (r__l, r__room)).bind fun r6 =>
    if 0 ≤ (min (w64 room) (l.length : Int)) then
    if (min (w64 room) (l.length : Int)) ≤ (l.length : Int) then
    (law2_msgs r6.1 (cut l 0 (min (w64 room) (l.length : Int)))).bind fun r7 =>
    bif !r7 then
    some false else
    law2_RingMsgs_l1 k room l r6.2.1 r6.2.2 (min (w64 room) (l.length : Int)) 0 else none else none
noncomputable def law2_RingMsgs_c0 : Nat → Int → (List api_Msg) → (List api_Msg) → Int → Option Bool
  | 0, _, _, _, _ => none
  | k + 1, room, l, r__l, r__room => law2_RingMsgs_l0 k room l r__l r__room 0
noncomputable def law2_RingMsgs_f (k : Nat) (room : Int) (l : List api_Msg) : Option Bool := (ring_New_api_Msg (w64 room)).bind fun r1 =>
    (match r1.1 with
    | none => if r1.2 ≠ 0 then
    if r1.2 = 0 then
    some false else
    some false else
    if r1.2 = 0 then
    some false else
    some false
    | some y2 => if r1.2 ≠ 0 then
    if r1.2 = 0 then
    (law2_known).bind fun r3 =>
    some r3 else
    some false else
    if 300 < (l.length : Int) then
    if r1.2 = 0 then
    (law2_known).bind fun r4 =>
    some r4 else
    some false else
    law2_RingMsgs_c0 k room l y2.1 y2.2)
noncomputable def law2_RingMsgs (room : Int) (l : List api_Msg) : Option Bool := lim (fun k (x : Int × List api_Msg) => law2_RingMsgs_f k x.1 x.2) (room, l)
noncomputable abbrev law2_RingMsgs_T : Tab S := ⟨[⟨12, [.val (.data (.int .i64))], [.opt [.marr (.st 0), .data (.int .i64)], .val (.data (.int .i64))], fun x => ring_New_api_Msg x⟩, ⟨13, [], [.val (.data .bool)], fun x => law2_known⟩, ⟨14, [.obj [.marr (.st 0), .data (.int .i64)], .val (.data (.st 0))], [.val (.data .bool)], fun x => ring_Ring_api_Msg_Push x.1 x.2⟩, ⟨16, [.obj [.marr (.st 0), .data (.int .i64)]], [.val (.marr (.st 0))], fun x => ring_Ring_api_Msg_All x⟩, ⟨15, [.val (.data (.sl (.st 0))), .val (.data (.sl (.st 0)))], [.val (.data .bool)], fun x => law2_msgs x.1 x.2⟩, ⟨17, [.obj [.marr (.st 0), .data (.int .i64)]], [.val (.data (.st 0)), .val (.data .bool)], fun x => ring_Ring_api_Msg_Head x⟩, ⟨18, [.obj [.marr (.st 0), .data (.int .i64)]], [.val (.data (.st 0)), .val (.data .bool)], fun x => ring_Ring_api_Msg_Pop x⟩, ⟨19, [.obj [.marr (.st 0), .data (.int .i64)]], [.val (.data (.int .i64))], fun x => ring_Ring_api_Msg_Len x⟩, ⟨20, [.obj [.marr (.st 0), .data (.int .i64)]], [.val (.data (.int .i64))], fun x => ring_Ring_api_Msg_Room x⟩], [], false, false⟩
noncomputable def law2_RingMsgs_L (k : Nat) : Nat → List (Lab S Bool)
  | 0 => [⟨[0, 1, 5, 7], [.val (.data (.int .u8)), .val (.data (.sl (.st 0))), .obj [.marr (.st 0), .data (.int .i64)], .val (.data (.int .i64))], fun x => law2_RingMsgs_l0 k x.1 x.2.1 x.2.2.1.1 x.2.2.1.2 x.2.2.2⟩]
  | 1 => [⟨[0, 1, 5], [.val (.data (.int .u8)), .val (.data (.sl (.st 0))), .obj [.marr (.st 0), .data (.int .i64)]], fun x => law2_RingMsgs_c0 k x.1 x.2.1 x.2.2.1 x.2.2.2⟩]
  | 2 => [⟨[0, 1, 5, 8, 9], [.val (.data (.int .u8)), .val (.data (.sl (.st 0))), .obj [.marr (.st 0), .data (.int .i64)], .val (.data (.int .i64)), .val (.data (.int .i64))], fun x => law2_RingMsgs_l1 k x.1 x.2.1 x.2.2.1.1 x.2.2.1.2 x.2.2.2.1 x.2.2.2.2⟩]
  | _ + 3 => []
theorem law2_RingMsgs_eq (k : Nat) (room : Int) (l : List api_Msg) : law2_RingMsgs_f k room l = exec S (law2_RingMsgs_T) byt (labs S (law2_RingMsgs_T) (law2_RingMsgs_L k)) (ac [2] Try.f3) (frame0 S [.val (.data (.int .u8)), .val (.data (.sl (.st 0)))] (room, l)) (retK S (law2_RingMsgs_T) Try.f3 [.val (.data (.int .u8)), .val (.data (.sl (.st 0)))] [.val (.data .bool)]) := by kernel_rfl
theorem law2_RingMsgs_vc (k : Nat) : VC S (law2_RingMsgs_T) byt (law2_RingMsgs_L k) (law2_RingMsgs_L (k + 1)) (ac [2] Try.f3) (retK S (law2_RingMsgs_T) Try.f3 [.val (.data (.int .u8)), .val (.data (.sl (.st 0)))] [.val (.data .bool)]) = [∀ x : Int × List api_Msg × (List api_Msg × Int) × Int, law2_RingMsgs_l0 (k + 1) x.1 x.2.1 x.2.2.1.1 x.2.2.1.2 x.2.2.2 = law2_RingMsgs_l0 (k + 1) x.1 x.2.1 x.2.2.1.1 x.2.2.1.2 x.2.2.2, ∀ x : Int × List api_Msg × (List api_Msg × Int) × Int × Int, law2_RingMsgs_l1 (k + 1) x.1 x.2.1 x.2.2.1.1 x.2.2.1.2 x.2.2.2.1 x.2.2.2.2 = law2_RingMsgs_l1 (k + 1) x.1 x.2.1 x.2.2.1.1 x.2.2.1.2 x.2.2.2.1 x.2.2.2.2, ∀ x : Int × List api_Msg × (List api_Msg × Int), law2_RingMsgs_c0 (k + 1) x.1 x.2.1 x.2.2.1 x.2.2.2 = law2_RingMsgs_c0 (k + 1) x.1 x.2.1 x.2.2.1 x.2.2.2] := by kernel_rfl
theorem law2_RingMsgs_sndk (k : Nat) : Snd Try.prog S ⟨3, [.val (.data (.int .u8)), .val (.data (.sl (.st 0)))], [.val (.data .bool)], fun x => law2_RingMsgs_f k x.1 x.2⟩ :=
  fn_ok progOk (T := (law2_RingMsgs_T)) (all_cons ring_New_api_Msg_snd (all_cons law2_known_snd (all_cons ring_Ring_api_Msg_Push_snd (all_cons ring_Ring_api_Msg_All_snd (all_cons law2_msgs_snd (all_cons ring_Ring_api_Msg_Head_snd (all_cons ring_Ring_api_Msg_Pop_snd (all_cons ring_Ring_api_Msg_Len_snd (all_cons ring_Ring_api_Msg_Room_snd (all_nil)))))))))) (all_nil) mixed Try.func3 rfl (by kernel_rfl) (ac_code [2] Try.f3 rfl) (L := law2_RingMsgs_L)
    (fun n l h x => by match n, h with
        | 0, h => 
          rcases List.mem_cons.1 h with rfl | h
          · rfl
          cases h
        | 1, h => 
          rcases List.mem_cons.1 h with rfl | h
          · rfl
          cases h
        | 2, h => 
          rcases List.mem_cons.1 h with rfl | h
          · rfl
          cases h
        | _ + 3, h => cases h) (fun k n l h => by match n, h with
        | 0, h => 
          rcases List.mem_cons.1 h with rfl | h
          · rfl
          cases h
        | 1, h => 
          rcases List.mem_cons.1 h with rfl | h
          · rfl
          cases h
        | 2, h => 
          rcases List.mem_cons.1 h with rfl | h
          · rfl
          cases h
        | _ + 3, h => cases h)
    (fun k => All.mem (law2_RingMsgs_vc k) ⟨fun _ => rfl, ⟨fun _ => rfl, ⟨fun _ => rfl, trivial⟩⟩⟩) (fun x r h => ⟨k, (law2_RingMsgs_eq k x.1 x.2).symm.trans h⟩) (by kernel_rfl) (by kernel_rfl) (Nat.le_of_ble_eq_true (by kernel_rfl))
theorem law2_RingMsgs_snd : Snd Try.prog S ⟨3, [.val (.data (.int .u8)), .val (.data (.sl (.st 0)))], [.val (.data .bool)], fun x => law2_RingMsgs x.1 x.2⟩ := Snd.lim law2_RingMsgs_sndk
/-! ### 25 cotillion/cotillionlaw2.same -/
noncomputable def law2_same_l0 : Nat → (List Int) → (List Int) → Int → Option Bool
  | 0, _, _, _ => none
  | k + 1, a, b, i => if i < (a.length : Int) then
    if 0 ≤ i then
    if i < (a.length : Int) then
    if 0 ≤ i then
    if i < (b.length : Int) then
    if (a.getD i.toNat 0) ≠ (b.getD i.toNat 0) then
    some false else
    law2_same_l0 k a b (w64 (i + 1)) else none else none else none else none else
    some true
noncomputable def law2_same_f (k : Nat) (a : List Int) (b : List Int) : Option Bool := if (a.length : Int) ≠ (b.length : Int) then some false else law2_same_l0 k a b 0
noncomputable def law2_same (a : List Int) (b : List Int) : Option Bool := lim (fun k (x : List Int × List Int) => law2_same_f k x.1 x.2) (a, b)
noncomputable abbrev law2_same_T : Tab S := ⟨[], [], false, false⟩
noncomputable def law2_same_L (k : Nat) : Nat → List (Lab S Bool)
  | 0 => [⟨[0, 1, 5], [.val (.data (.sl (.int .i64))), .val (.data (.sl (.int .i64))), .val (.data (.int .i64))], fun x => law2_same_l0 k x.1 x.2.1 x.2.2⟩]
  | _ + 1 => []
theorem law2_same_eq (k : Nat) (a : List Int) (b : List Int) : law2_same_f k a b = exec S (law2_same_T) byt (labs S (law2_same_T) (law2_same_L k)) (ac [] Try.f25) (frame0 S [.val (.data (.sl (.int .i64))), .val (.data (.sl (.int .i64)))] (a, b)) (retK S (law2_same_T) Try.f25 [.val (.data (.sl (.int .i64))), .val (.data (.sl (.int .i64)))] [.val (.data .bool)]) := by kernel_rfl
theorem law2_same_vc (k : Nat) : VC S (law2_same_T) byt (law2_same_L k) (law2_same_L (k + 1)) (ac [] Try.f25) (retK S (law2_same_T) Try.f25 [.val (.data (.sl (.int .i64))), .val (.data (.sl (.int .i64)))] [.val (.data .bool)]) = [∀ x : List Int × List Int × Int, law2_same_l0 (k + 1) x.1 x.2.1 x.2.2 = law2_same_l0 (k + 1) x.1 x.2.1 x.2.2] := by kernel_rfl
theorem law2_same_sndk (k : Nat) : Snd Try.prog S ⟨25, [.val (.data (.sl (.int .i64))), .val (.data (.sl (.int .i64)))], [.val (.data .bool)], fun x => law2_same_f k x.1 x.2⟩ :=
  fn_ok progOk (T := (law2_same_T)) (all_nil) (all_nil) mixed Try.func25 rfl (by kernel_rfl) (ac_code [] Try.f25 rfl) (L := law2_same_L)
    (fun n l h x => by match n, h with
        | 0, h => 
          rcases List.mem_cons.1 h with rfl | h
          · rfl
          cases h
        | _ + 1, h => cases h) (fun k n l h => by match n, h with
        | 0, h => 
          rcases List.mem_cons.1 h with rfl | h
          · rfl
          cases h
        | _ + 1, h => cases h)
    (fun k => All.mem (law2_same_vc k) ⟨fun _ => rfl, trivial⟩) (fun x r h => ⟨k, (law2_same_eq k x.1 x.2).symm.trans h⟩) (by kernel_rfl) (by kernel_rfl) (Nat.le_of_ble_eq_true (by kernel_rfl))
theorem law2_same_snd : Snd Try.prog S ⟨25, [.val (.data (.sl (.int .i64))), .val (.data (.sl (.int .i64)))], [.val (.data .bool)], fun x => law2_same x.1 x.2⟩ := Snd.lim law2_same_sndk
/-! ### 26 (*cotillion/ring.Ring[int]).Clear -/
noncomputable def ring_Ring_int_Clear  (r : List Int × Int) : Option (List Int × (List Int × Int)) := (ring_Ring_int_All (r.1, r.2)).bind fun r1 => some (r1.1, ([], r1.2.2))
noncomputable abbrev ring_Ring_int_Clear_T : Tab S := ⟨[⟨23, [.obj [.marr (.int .i64), .data (.int .i64)]], [.val (.marr (.int .i64))], fun x => ring_Ring_int_All x⟩], [], false, false⟩
noncomputable def ring_Ring_int_Clear_L (k : Nat) : Nat → List (Lab S (List Int × (List Int × Int)))
  | _ => []
theorem ring_Ring_int_Clear_eq (k : Nat) (r : List Int × Int) : ring_Ring_int_Clear r = exec S (ring_Ring_int_Clear_T) byt (labs S (ring_Ring_int_Clear_T) (ring_Ring_int_Clear_L k)) (ac [] Try.f26) (frame0 S [.obj [.marr (.int .i64), .data (.int .i64)]] r) (retK S (ring_Ring_int_Clear_T) Try.f26 [.obj [.marr (.int .i64), .data (.int .i64)]] [.val (.marr (.int .i64))]) := by kernel_rfl
theorem ring_Ring_int_Clear_vc (k : Nat) : VC S (ring_Ring_int_Clear_T) byt (ring_Ring_int_Clear_L k) (ring_Ring_int_Clear_L (k + 1)) (ac [] Try.f26) (retK S (ring_Ring_int_Clear_T) Try.f26 [.obj [.marr (.int .i64), .data (.int .i64)]] [.val (.marr (.int .i64))]) = [] := by kernel_rfl
theorem ring_Ring_int_Clear_snd : Snd Try.prog S ⟨26, [.obj [.marr (.int .i64), .data (.int .i64)]], [.val (.marr (.int .i64))], fun x => ring_Ring_int_Clear x⟩ :=
  fn_ok progOk (T := (ring_Ring_int_Clear_T)) (all_cons ring_Ring_int_All_snd (all_nil)) (all_nil) mixed Try.func26 rfl (by kernel_rfl) (ac_code [] Try.f26 rfl) (L := ring_Ring_int_Clear_L)
    (fun n l h x => by cases h) (fun k n l h => by cases h)
    (fun k => All.mem (ring_Ring_int_Clear_vc k) trivial) (fun x r h => ⟨0, (ring_Ring_int_Clear_eq 0 x).symm.trans h⟩) (by kernel_rfl) (by kernel_rfl) (Nat.le_of_ble_eq_true (by kernel_rfl))
/-! ### 4 cotillion/cotillionlaw2.RingOwn -/
noncomputable def law2_RingOwn_l1 : Nat → (List Int) → Int → (List Int) → Int → (List Int) → (List Int) → Int → Option Bool
  | 0, _, _, _, _, _, _, _ => none
  | k + 1, l, v_at, r__l, r__room, a, b, i => if i < (a.length : Int) then
    if 0 ≤ i then
    if i < (a.length : Int) then
    if ¬ (2 : Int) = 0 then
    if 0 ≤ i then
    if i < (a.length : Int) then
    law2_RingOwn_l1 k l v_at r__l r__room (a.set i.toNat (w64 ((a.getD i.toNat 0).tdiv 2))) b (w64 (i + 1)) else none else none else none else none else none else
    (ring_Ring_int_Remove (r__l, r__room) v_at).bind fun r8 =>
    (ring_Ring_int_Push (r8.2.2.1, r8.2.2.2) 7).bind fun r9 =>
    (law2_same b l).bind fun r10 =>
    bif !r10 then
    some false else
    (ring_Ring_int_Clear (r9.2.1, r9.2.2)).bind fun r11 =>
    if 0 ≤ v_at then
    if v_at < (l.length : Int) then
    if (r11.1.length : Int) = (w64 ((w64 ((l.length : Int) + 1)) - 1)) then
    if 0 < (w64 ((w64 ((l.length : Int) + 1)) - 1)) then
    if 0 ≤ (w64 ((w64 ((w64 ((l.length : Int) + 1)) - 1)) - 1)) then
    if (w64 ((w64 ((w64 ((l.length : Int) + 1)) - 1)) - 1)) < (r11.1.length : Int) then
    if (r11.1.getD (w64 ((w64 ((w64 ((l.length : Int) + 1)) - 1)) - 1)).toNat 0) = 7 then
    (ring_Ring_int_Len (r11.2.1, r11.2.2)).bind fun r12 =>
    if r12.1 = 0 then
    (law2_known).bind fun r13 =>
    some r13 else
    some false else
    some false else none else none else
    some false else
    some false else
    if (r11.1.length : Int) = (w64 ((l.length : Int) + 1)) then
    if 0 < (w64 ((l.length : Int) + 1)) then
    if 0 ≤ (w64 ((w64 ((l.length : Int) + 1)) - 1)) then
    if (w64 ((w64 ((l.length : Int) + 1)) - 1)) < (r11.1.length : Int) then
    if (r11.1.getD (w64 ((w64 ((l.length : Int) + 1)) - 1)).toNat 0) = 7 then
    (ring_Ring_int_Len (r11.2.1, r11.2.2)).bind fun r14 =>
    if r14.1 = 0 then
    (law2_known).bind fun r15 =>
    some r15 else
    some false else
    some false else none else none else
    some false else
    some false else
    if (r11.1.length : Int) = (w64 ((l.length : Int) + 1)) then
    if 0 < (w64 ((l.length : Int) + 1)) then
    if 0 ≤ (w64 ((w64 ((l.length : Int) + 1)) - 1)) then
    if (w64 ((w64 ((l.length : Int) + 1)) - 1)) < (r11.1.length : Int) then
    if (r11.1.getD (w64 ((w64 ((l.length : Int) + 1)) - 1)).toNat 0) = 7 then
    (ring_Ring_int_Len (r11.2.1, r11.2.2)).bind fun r16 =>
    if r16.1 = 0 then
    (law2_known).bind fun r17 =>
    some r17 else
    some false else
    some false else none else none else
    some false else
    some false
noncomputable def law2_RingOwn_l0 : Nat → (List Int) → Int → (List Int) → Int → Int → Option Bool
  | 0, _, _, _, _, _ => none
  | k + 1, l, v_at, r__l, r__room, i => if i < (l.length : Int) then
    if 0 ≤ i then
    if i < (l.length : Int) then
    (ring_Ring_int_Push (r__l, r__room) (l.getD i.toNat 0)).bind fun r5 =>
    law2_RingOwn_l0 k l v_at r5.2.1 r5.2.2 (w64 (i + 1)) else none else none else
    (ring_Ring_int_All (r__l, r__room)).bind fun r6 =>
    (ring_Ring_int_All (r6.2.1, r6.2.2)).bind fun r7 =>
    law2_RingOwn_l1 k l v_at r7.2.1 r7.2.2 r6.1 r7.1 0
noncomputable def law2_RingOwn_c0 : Nat → (List Int) → Int → (List Int) → Int → Option Bool
  | 0, _, _, _, _ => none
  | k + 1, l, v_at, r__l, r__room => law2_RingOwn_l0 k l v_at r__l r__room 0
noncomputable def law2_RingOwn_f (k : Nat) (l : List Int) (v_at : Int) : Option Bool := (ring_New_int 400).bind fun r1 =>
    (match r1.1 with
    | none => if r1.2 ≠ 0 then
    if r1.2 = 0 then
    some false else
    some false else
    if r1.2 = 0 then
    some false else
    some false
    | some y2 => if r1.2 ≠ 0 then
    if r1.2 = 0 then
    (law2_known).bind fun r3 =>
    some r3 else
    some false else
    if 200 < (l.length : Int) then
    if r1.2 = 0 then
    (law2_known).bind fun r4 =>
    some r4 else
    some false else
    law2_RingOwn_c0 k l v_at y2.1 y2.2)
noncomputable def law2_RingOwn (l : List Int) (v_at : Int) : Option Bool := lim (fun k (x : List Int × Int) => law2_RingOwn_f k x.1 x.2) (l, v_at)
noncomputable abbrev law2_RingOwn_T : Tab S := ⟨[⟨21, [.val (.data (.int .i64))], [.opt [.marr (.int .i64), .data (.int .i64)], .val (.data (.int .i64))], fun x => ring_New_int x⟩, ⟨13, [], [.val (.data .bool)], fun x => law2_known⟩, ⟨22, [.obj [.marr (.int .i64), .data (.int .i64)], .val (.data (.int .i64))], [.val (.data .bool)], fun x => ring_Ring_int_Push x.1 x.2⟩, ⟨23, [.obj [.marr (.int .i64), .data (.int .i64)]], [.val (.marr (.int .i64))], fun x => ring_Ring_int_All x⟩, ⟨24, [.obj [.marr (.int .i64), .data (.int .i64)], .val (.data (.int .i64))], [.val (.data (.int .i64)), .val (.data .bool)], fun x => ring_Ring_int_Remove x.1 x.2⟩, ⟨25, [.val (.data (.sl (.int .i64))), .val (.data (.sl (.int .i64)))], [.val (.data .bool)], fun x => law2_same x.1 x.2⟩, ⟨26, [.obj [.marr (.int .i64), .data (.int .i64)]], [.val (.marr (.int .i64))], fun x => ring_Ring_int_Clear x⟩, ⟨27, [.obj [.marr (.int .i64), .data (.int .i64)]], [.val (.data (.int .i64))], fun x => ring_Ring_int_Len x⟩], [], false, false⟩
noncomputable def law2_RingOwn_L (k : Nat) : Nat → List (Lab S Bool)
  | 0 => [⟨[0, 1, 5, 7], [.val (.data (.sl (.int .i64))), .val (.data (.int .i64)), .obj [.marr (.int .i64), .data (.int .i64)], .val (.data (.int .i64))], fun x => law2_RingOwn_l0 k x.1 x.2.1 x.2.2.1.1 x.2.2.1.2 x.2.2.2⟩]
  | 1 => [⟨[0, 1, 5], [.val (.data (.sl (.int .i64))), .val (.data (.int .i64)), .obj [.marr (.int .i64), .data (.int .i64)]], fun x => law2_RingOwn_c0 k x.1 x.2.1 x.2.2.1 x.2.2.2⟩]
  | 2 => [⟨[0, 1, 5, 8, 9, 10], [.val (.data (.sl (.int .i64))), .val (.data (.int .i64)), .obj [.marr (.int .i64), .data (.int .i64)], .val (.marr (.int .i64)), .val (.marr (.int .i64)), .val (.data (.int .i64))], fun x => law2_RingOwn_l1 k x.1 x.2.1 x.2.2.1.1 x.2.2.1.2 x.2.2.2.1 x.2.2.2.2.1 x.2.2.2.2.2⟩]
  | _ + 3 => []
theorem law2_RingOwn_eq (k : Nat) (l : List Int) (v_at : Int) : law2_RingOwn_f k l v_at = exec S (law2_RingOwn_T) byt (labs S (law2_RingOwn_T) (law2_RingOwn_L k)) (ac [2] Try.f4) (frame0 S [.val (.data (.sl (.int .i64))), .val (.data (.int .i64))] (l, v_at)) (retK S (law2_RingOwn_T) Try.f4 [.val (.data (.sl (.int .i64))), .val (.data (.int .i64))] [.val (.data .bool)]) := by kernel_rfl
theorem law2_RingOwn_vc (k : Nat) : VC S (law2_RingOwn_T) byt (law2_RingOwn_L k) (law2_RingOwn_L (k + 1)) (ac [2] Try.f4) (retK S (law2_RingOwn_T) Try.f4 [.val (.data (.sl (.int .i64))), .val (.data (.int .i64))] [.val (.data .bool)]) = [∀ x : List Int × Int × (List Int × Int) × Int, law2_RingOwn_l0 (k + 1) x.1 x.2.1 x.2.2.1.1 x.2.2.1.2 x.2.2.2 = law2_RingOwn_l0 (k + 1) x.1 x.2.1 x.2.2.1.1 x.2.2.1.2 x.2.2.2, ∀ x : List Int × Int × (List Int × Int) × List Int × List Int × Int, law2_RingOwn_l1 (k + 1) x.1 x.2.1 x.2.2.1.1 x.2.2.1.2 x.2.2.2.1 x.2.2.2.2.1 x.2.2.2.2.2 = law2_RingOwn_l1 (k + 1) x.1 x.2.1 x.2.2.1.1 x.2.2.1.2 x.2.2.2.1 x.2.2.2.2.1 x.2.2.2.2.2, ∀ x : List Int × Int × (List Int × Int), law2_RingOwn_c0 (k + 1) x.1 x.2.1 x.2.2.1 x.2.2.2 = law2_RingOwn_c0 (k + 1) x.1 x.2.1 x.2.2.1 x.2.2.2] := by kernel_rfl
theorem law2_RingOwn_sndk (k : Nat) : Snd Try.prog S ⟨4, [.val (.data (.sl (.int .i64))), .val (.data (.int .i64))], [.val (.data .bool)], fun x => law2_RingOwn_f k x.1 x.2⟩ :=
  fn_ok progOk (T := (law2_RingOwn_T)) (all_cons ring_New_int_snd (all_cons law2_known_snd (all_cons ring_Ring_int_Push_snd (all_cons ring_Ring_int_All_snd (all_cons ring_Ring_int_Remove_snd (all_cons law2_same_snd (all_cons ring_Ring_int_Clear_snd (all_cons ring_Ring_int_Len_snd (all_nil))))))))) (all_nil) mixed Try.func4 rfl (by kernel_rfl) (ac_code [2] Try.f4 rfl) (L := law2_RingOwn_L)
    (fun n l h x => by match n, h with
        | 0, h => 
          rcases List.mem_cons.1 h with rfl | h
          · rfl
          cases h
        | 1, h => 
          rcases List.mem_cons.1 h with rfl | h
          · rfl
          cases h
        | 2, h => 
          rcases List.mem_cons.1 h with rfl | h
          · rfl
          cases h
        | _ + 3, h => cases h) (fun k n l h => by match n, h with
        | 0, h => 
          rcases List.mem_cons.1 h with rfl | h
          · rfl
          cases h
        | 1, h => 
          rcases List.mem_cons.1 h with rfl | h
          · rfl
          cases h
        | 2, h => 
          rcases List.mem_cons.1 h with rfl | h
          · rfl
          cases h
        | _ + 3, h => cases h)
    (fun k => All.mem (law2_RingOwn_vc k) ⟨fun _ => rfl, ⟨fun _ => rfl, ⟨fun _ => rfl, trivial⟩⟩⟩) (fun x r h => ⟨k, (law2_RingOwn_eq k x.1 x.2).symm.trans h⟩) (by kernel_rfl) (by kernel_rfl) (Nat.le_of_ble_eq_true (by kernel_rfl))
theorem law2_RingOwn_snd : Snd Try.prog S ⟨4, [.val (.data (.sl (.int .i64))), .val (.data (.int .i64))], [.val (.data .bool)], fun x => law2_RingOwn x.1 x.2⟩ := Snd.lim law2_RingOwn_sndk
/-! ### 29 (*cotillion/ring.Ring[int]).Head -/
noncomputable def ring_Ring_int_Head  (r : List Int × Int) : Option (Int × Bool × (List Int × Int)) := (ring_Ring_int_Len (r.1, r.2)).bind fun r1 =>
    if r1.1 = 0 then
    some (0, false, (r1.2.1, r1.2.2)) else
    if (0 : Int) ≤ 0 then
    if 0 < (r1.2.1.length : Int) then
    some (r1.2.1.getD (0 : Int).toNat 0, true, (r1.2.1, r1.2.2)) else none else none
noncomputable abbrev ring_Ring_int_Head_T : Tab S := ⟨[⟨27, [.obj [.marr (.int .i64), .data (.int .i64)]], [.val (.data (.int .i64))], fun x => ring_Ring_int_Len x⟩], [], false, false⟩
noncomputable def ring_Ring_int_Head_L (k : Nat) : Nat → List (Lab S (Int × Bool × (List Int × Int)))
  | _ => []
theorem ring_Ring_int_Head_eq (k : Nat) (r : List Int × Int) : ring_Ring_int_Head r = exec S (ring_Ring_int_Head_T) byt (labs S (ring_Ring_int_Head_T) (ring_Ring_int_Head_L k)) (ac [] Try.f29) (frame0 S [.obj [.marr (.int .i64), .data (.int .i64)]] r) (retK S (ring_Ring_int_Head_T) Try.f29 [.obj [.marr (.int .i64), .data (.int .i64)]] [.val (.data (.int .i64)), .val (.data .bool)]) := by kernel_rfl
theorem ring_Ring_int_Head_vc (k : Nat) : VC S (ring_Ring_int_Head_T) byt (ring_Ring_int_Head_L k) (ring_Ring_int_Head_L (k + 1)) (ac [] Try.f29) (retK S (ring_Ring_int_Head_T) Try.f29 [.obj [.marr (.int .i64), .data (.int .i64)]] [.val (.data (.int .i64)), .val (.data .bool)]) = [] := by kernel_rfl
theorem ring_Ring_int_Head_snd : Snd Try.prog S ⟨29, [.obj [.marr (.int .i64), .data (.int .i64)]], [.val (.data (.int .i64)), .val (.data .bool)], fun x => ring_Ring_int_Head x⟩ :=
  fn_ok progOk (T := (ring_Ring_int_Head_T)) (all_cons ring_Ring_int_Len_snd (all_nil)) (all_nil) mixed Try.func29 rfl (by kernel_rfl) (ac_code [] Try.f29 rfl) (L := ring_Ring_int_Head_L)
    (fun n l h x => by cases h) (fun k n l h => by cases h)
    (fun k => All.mem (ring_Ring_int_Head_vc k) trivial) (fun x r h => ⟨0, (ring_Ring_int_Head_eq 0 x).symm.trans h⟩) (by kernel_rfl) (by kernel_rfl) (Nat.le_of_ble_eq_true (by kernel_rfl))
/-! ### 5 cotillion/cotillionlaw2.RingPlays -/
mutual
noncomputable def law2_RingPlays_l0 : Nat → Int → (List law2_Step) → (List Int) → Int → (List Int) → Int → Option Bool
  | 0, _, _, _, _, _, _ => none
  | k + 1, room, l, r__l, r__room, m, i => if i < (l.length : Int) then
    if 0 ≤ i then
    if i < (l.length : Int) then
    if 0 ≤ i then
    if i < (l.length : Int) then
    if 0 ≤ ((l.getD i.toNat law2_Step.z).What) then
    if 0 ≤ i then
    if i < (l.length : Int) then
    if ((l.getD i.toNat law2_Step.z).What) ≤ 3 then
    (ring_Ring_int_Push (r__l, r__room) ((l.getD i.toNat law2_Step.z).X)).bind fun r7 =>
    if r7.1 ≠ (decide ((m.length : Int) < room)) then
    some false else
    if (m.length : Int) < room then
    if (m.length + [(l.getD i.toNat law2_Step.z).X].length) * 8 ≤ 140737488355328 then
    law2_RingPlays_c0 k room l r7.2.1 r7.2.2 (m ++ [(l.getD i.toNat law2_Step.z).X]) i else none else
    law2_RingPlays_c0 k room l r7.2.1 r7.2.2 m i else
    if 0 ≤ i then
    if i < (l.length : Int) then
    if ((l.getD i.toNat law2_Step.z).What) = 4 then
    (ring_Ring_int_Pop (r__l, r__room)).bind fun r8 =>
    if r8.2.1 ≠ (decide (0 < (m.length : Int))) then
    some false else
    bif r8.2.1 then
    if (0 : Int) ≤ 0 then
    if 0 < (m.length : Int) then
    if r8.1 ≠ (m.getD (0 : Int).toNat 0) then
    some false else
    bif !r8.2.1 then
    if r8.1 ≠ 0 then
    some false else
    bif r8.2.1 then
    if (0 : Int) ≤ 1 then
    if 1 ≤ (m.length : Int) then
    law2_RingPlays_c0 k room l r8.2.2.1 r8.2.2.2 (cutFrom m 1) i else none else none else
    law2_RingPlays_c0 k room l r8.2.2.1 r8.2.2.2 m i else
    bif r8.2.1 then
    if (0 : Int) ≤ 1 then
    if 1 ≤ (m.length : Int) then
    law2_RingPlays_c0 k room l r8.2.2.1 r8.2.2.2 (cutFrom m 1) i else none else none else
    law2_RingPlays_c0 k room l r8.2.2.1 r8.2.2.2 m i else none else none else
    bif !r8.2.1 then
    if r8.1 ≠ 0 then
    some false else
    bif r8.2.1 then
    if (0 : Int) ≤ 1 then
    if 1 ≤ (m.length : Int) then
    law2_RingPlays_c0 k room l r8.2.2.1 r8.2.2.2 (cutFrom m 1) i else none else none else
    law2_RingPlays_c0 k room l r8.2.2.1 r8.2.2.2 m i else
    bif r8.2.1 then
    if (0 : Int) ≤ 1 then
    if 1 ≤ (m.length : Int) then
    law2_RingPlays_c0 k room l r8.2.2.1 r8.2.2.2 (cutFrom m 1) i else none else none else
    law2_RingPlays_c0 k room l r8.2.2.1 r8.2.2.2 m i else
    if 0 ≤ i then
    if i < (l.length : Int) then
    if ((l.getD i.toNat law2_Step.z).What) = 5 then
    (ring_Ring_int_Pop (r__l, r__room)).bind fun r9 =>
    if r9.2.1 ≠ (decide (0 < (m.length : Int))) then
    some false else
    bif r9.2.1 then
    if (0 : Int) ≤ 0 then
    if 0 < (m.length : Int) then
    if r9.1 ≠ (m.getD (0 : Int).toNat 0) then
    some false else
    bif !r9.2.1 then
    if r9.1 ≠ 0 then
    some false else
    bif r9.2.1 then
    if (0 : Int) ≤ 1 then
    if 1 ≤ (m.length : Int) then
    law2_RingPlays_c0 k room l r9.2.2.1 r9.2.2.2 (cutFrom m 1) i else none else none else
    law2_RingPlays_c0 k room l r9.2.2.1 r9.2.2.2 m i else
    bif r9.2.1 then
    if (0 : Int) ≤ 1 then
    if 1 ≤ (m.length : Int) then
    law2_RingPlays_c0 k room l r9.2.2.1 r9.2.2.2 (cutFrom m 1) i else none else none else
    law2_RingPlays_c0 k room l r9.2.2.1 r9.2.2.2 m i else none else none else
    bif !r9.2.1 then
    if r9.1 ≠ 0 then
    some false else
    bif r9.2.1 then
    if (0 : Int) ≤ 1 then
    if 1 ≤ (m.length : Int) then
    law2_RingPlays_c0 k room l r9.2.2.1 r9.2.2.2 (cutFrom m 1) i else none else none else
    law2_RingPlays_c0 k room l r9.2.2.1 r9.2.2.2 m i else
    bif r9.2.1 then
    if (0 : Int) ≤ 1 then
    if 1 ≤ (m.length : Int) then
    law2_RingPlays_c0 k room l r9.2.2.1 r9.2.2.2 (cutFrom m 1) i else none else none else
    law2_RingPlays_c0 k room l r9.2.2.1 r9.2.2.2 m i else
    if 0 ≤ i then
    if i < (l.length : Int) then
    if ((l.getD i.toNat law2_Step.z).What) = 6 then
    (ring_Ring_int_Remove (r__l, r__room) ((l.getD i.toNat law2_Step.z).X)).bind fun r10 =>
    if 0 ≤ ((l.getD i.toNat law2_Step.z).X) then
    if r10.2.1 ≠ (decide (((l.getD i.toNat law2_Step.z).X) < (m.length : Int))) then
    some false else
    if ((l.getD i.toNat law2_Step.z).X) < (m.length : Int) then
    if 0 ≤ ((l.getD i.toNat law2_Step.z).X) then
    if ((l.getD i.toNat law2_Step.z).X) < (m.length : Int) then
    if r10.1 ≠ (m.getD ((l.getD i.toNat law2_Step.z).X).toNat 0) then
    some false else
    if ¬ (((l.getD i.toNat law2_Step.z).X) < (m.length : Int)) then
    if r10.1 ≠ 0 then
    some false else
    if ((l.getD i.toNat law2_Step.z).X) < (m.length : Int) then
    if 0 ≤ ((l.getD i.toNat law2_Step.z).X) then
    if ((l.getD i.toNat law2_Step.z).X) ≤ (m.length : Int) then
    if (([] : List Int).length + (cut m 0 ((l.getD i.toNat law2_Step.z).X)).length) * 8 ≤ 140737488355328 then
    if 0 ≤ (w64 (((l.getD i.toNat law2_Step.z).X) + 1)) then
    if (w64 (((l.getD i.toNat law2_Step.z).X) + 1)) ≤ (m.length : Int) then
    if ((([] : List Int) ++ (cut m 0 ((l.getD i.toNat law2_Step.z).X))).length + (cutFrom m (w64 (((l.getD i.toNat law2_Step.z).X) + 1))).length) * 8 ≤ 140737488355328 then
    law2_RingPlays_c0 k room l r10.2.2.1 r10.2.2.2 ((([] : List Int) ++ (cut m 0 ((l.getD i.toNat law2_Step.z).X))) ++ (cutFrom m (w64 (((l.getD i.toNat law2_Step.z).X) + 1)))) i else none else none else none else none else none else none else
    law2_RingPlays_c0 k room l r10.2.2.1 r10.2.2.2 m i else
    if ((l.getD i.toNat law2_Step.z).X) < (m.length : Int) then
    if 0 ≤ ((l.getD i.toNat law2_Step.z).X) then
    if ((l.getD i.toNat law2_Step.z).X) ≤ (m.length : Int) then
    if (([] : List Int).length + (cut m 0 ((l.getD i.toNat law2_Step.z).X)).length) * 8 ≤ 140737488355328 then
    if 0 ≤ (w64 (((l.getD i.toNat law2_Step.z).X) + 1)) then
    if (w64 (((l.getD i.toNat law2_Step.z).X) + 1)) ≤ (m.length : Int) then
    if ((([] : List Int) ++ (cut m 0 ((l.getD i.toNat law2_Step.z).X))).length + (cutFrom m (w64 (((l.getD i.toNat law2_Step.z).X) + 1))).length) * 8 ≤ 140737488355328 then
    law2_RingPlays_c0 k room l r10.2.2.1 r10.2.2.2 ((([] : List Int) ++ (cut m 0 ((l.getD i.toNat law2_Step.z).X))) ++ (cutFrom m (w64 (((l.getD i.toNat law2_Step.z).X) + 1)))) i else none else none else none else none else none else none else
    law2_RingPlays_c0 k room l r10.2.2.1 r10.2.2.2 m i else none else none else
    if ¬ (((l.getD i.toNat law2_Step.z).X) < (m.length : Int)) then
    if r10.1 ≠ 0 then
    some false else
    if ((l.getD i.toNat law2_Step.z).X) < (m.length : Int) then
    if 0 ≤ ((l.getD i.toNat law2_Step.z).X) then
    if ((l.getD i.toNat law2_Step.z).X) ≤ (m.length : Int) then
    if (([] : List Int).length + (cut m 0 ((l.getD i.toNat law2_Step.z).X)).length) * 8 ≤ 140737488355328 then
    if 0 ≤ (w64 (((l.getD i.toNat law2_Step.z).X) + 1)) then
    if (w64 (((l.getD i.toNat law2_Step.z).X) + 1)) ≤ (m.length : Int) then
    if ((([] : List Int) ++ (cut m 0 ((l.getD i.toNat law2_Step.z).X))).length + (cutFrom m (w64 (((l.getD i.toNat law2_Step.z).X) + 1))).length) * 8 ≤ 140737488355328 then
    law2_RingPlays_c0 k room l r10.2.2.1 r10.2.2.2 ((([] : List Int) ++ (cut m 0 ((l.getD i.toNat law2_Step.z).X))) ++ (cutFrom m (w64 (((l.getD i.toNat law2_Step.z).X) + 1)))) i else none else none else none else none else none else none else
    law2_RingPlays_c0 k room l r10.2.2.1 r10.2.2.2 m i else
    if ((l.getD i.toNat law2_Step.z).X) < (m.length : Int) then
    if 0 ≤ ((l.getD i.toNat law2_Step.z).X) then
    if ((l.getD i.toNat law2_Step.z).X) ≤ (m.length : Int) then
    if (([] : List Int).length + (cut m 0 ((l.getD i.toNat law2_Step.z).X)).length) * 8 ≤ 140737488355328 then
    if 0 ≤ (w64 (((l.getD i.toNat law2_Step.z).X) + 1)) then
    if (w64 (((l.getD i.toNat law2_Step.z).X) + 1)) ≤ (m.length : Int) then
    if ((([] : List Int) ++ (cut m 0 ((l.getD i.toNat law2_Step.z).X))).length + (cutFrom m (w64 (((l.getD i.toNat law2_Step.z).X) + 1))).length) * 8 ≤ 140737488355328 then
    law2_RingPlays_c0 k room l r10.2.2.1 r10.2.2.2 ((([] : List Int) ++ (cut m 0 ((l.getD i.toNat law2_Step.z).X))) ++ (cutFrom m (w64 (((l.getD i.toNat law2_Step.z).X) + 1)))) i else none else none else none else none else none else none else
    law2_RingPlays_c0 k room l r10.2.2.1 r10.2.2.2 m i else
    if r10.2.1 ≠ false then
    some false else
    if r10.1 ≠ 0 then
    some false else
    law2_RingPlays_c0 k room l r10.2.2.1 r10.2.2.2 m i else
    if 0 ≤ i then
    if i < (l.length : Int) then
    if ((l.getD i.toNat law2_Step.z).What) = 7 then
    (ring_Ring_int_Clear (r__l, r__room)).bind fun r11 =>
    (law2_same r11.1 m).bind fun r12 =>
    bif !r12 then
    some false else
    law2_RingPlays_c0 k room l r11.2.1 r11.2.2 [] i else
    (ring_Ring_int_Head (r__l, r__room)).bind fun r13 =>
    if r13.2.1 ≠ (decide (0 < (m.length : Int))) then
    some false else
    bif r13.2.1 then
    if (0 : Int) ≤ 0 then
    if 0 < (m.length : Int) then
    if r13.1 ≠ (m.getD (0 : Int).toNat 0) then
    some false else
    law2_RingPlays_c0 k room l r13.2.2.1 r13.2.2.2 m i else none else none else
    law2_RingPlays_c0 k room l r13.2.2.1 r13.2.2.2 m i else none else none else none else none else none else none else none else none else none else none else
    if 0 ≤ i then
    if i < (l.length : Int) then
    if ((l.getD i.toNat law2_Step.z).What) = 4 then
    (ring_Ring_int_Pop (r__l, r__room)).bind fun r14 =>
    if r14.2.1 ≠ (decide (0 < (m.length : Int))) then
    some false else
    bif r14.2.1 then
    if (0 : Int) ≤ 0 then
    if 0 < (m.length : Int) then
    if r14.1 ≠ (m.getD (0 : Int).toNat 0) then
    some false else
    bif !r14.2.1 then
    if r14.1 ≠ 0 then
    some false else
    bif r14.2.1 then
    if (0 : Int) ≤ 1 then
    if 1 ≤ (m.length : Int) then
    law2_RingPlays_c0 k room l r14.2.2.1 r14.2.2.2 (cutFrom m 1) i else none else none else
    law2_RingPlays_c0 k room l r14.2.2.1 r14.2.2.2 m i else
    bif r14.2.1 then
    if (0 : Int) ≤ 1 then
    if 1 ≤ (m.length : Int) then
    law2_RingPlays_c0 k room l r14.2.2.1 r14.2.2.2 (cutFrom m 1) i else none else none else
    law2_RingPlays_c0 k room l r14.2.2.1 r14.2.2.2 m i else none else none else
    bif !r14.2.1 then
    if r14.1 ≠ 0 then
    some false else
    bif r14.2.1 then
    if (0 : Int) ≤ 1 then
    if 1 ≤ (m.length : Int) then
    law2_RingPlays_c0 k room l r14.2.2.1 r14.2.2.2 (cutFrom m 1) i else none else none else
    law2_RingPlays_c0 k room l r14.2.2.1 r14.2.2.2 m i else
    bif r14.2.1 then
    if (0 : Int) ≤ 1 then
    if 1 ≤ (m.length : Int) then
    law2_RingPlays_c0 k room l r14.2.2.1 r14.2.2.2 (cutFrom m 1) i else none else none else
    law2_RingPlays_c0 k room l r14.2.2.1 r14.2.2.2 m i else
    if 0 ≤ i then
    if i < (l.length : Int) then
    if ((l.getD i.toNat law2_Step.z).What) = 5 then
    (ring_Ring_int_Pop (r__l, r__room)).bind fun r15 =>
    if r15.2.1 ≠ (decide (0 < (m.length : Int))) then
    some false else
    bif r15.2.1 then
    if (0 : Int) ≤ 0 then
    if 0 < (m.length : Int) then
    if r15.1 ≠ (m.getD (0 : Int).toNat 0) then
    some false else
    bif !r15.2.1 then
    if r15.1 ≠ 0 then
    some false else
    bif r15.2.1 then
    if (0 : Int) ≤ 1 then
    if 1 ≤ (m.length : Int) then
    law2_RingPlays_c0 k room l r15.2.2.1 r15.2.2.2 (cutFrom m 1) i else none else none else
    law2_RingPlays_c0 k room l r15.2.2.1 r15.2.2.2 m i else
    bif r15.2.1 then
    if (0 : Int) ≤ 1 then
    if 1 ≤ (m.length : Int) then
    law2_RingPlays_c0 k room l r15.2.2.1 r15.2.2.2 (cutFrom m 1) i else none else none else
    law2_RingPlays_c0 k room l r15.2.2.1 r15.2.2.2 m i else none else none else
    bif !r15.2.1 then
    if r15.1 ≠ 0 then
    some false else
    bif r15.2.1 then
    if (0 : Int) ≤ 1 then
    if 1 ≤ (m.length : Int) then
    law2_RingPlays_c0 k room l r15.2.2.1 r15.2.2.2 (cutFrom m 1) i else none else none else
    law2_RingPlays_c0 k room l r15.2.2.1 r15.2.2.2 m i else
    bif r15.2.1 then
    if (0 : Int) ≤ 1 then
    if 1 ≤ (m.length : Int) then
    law2_RingPlays_c0 k room l r15.2.2.1 r15.2.2.2 (cutFrom m 1) i else none else none else
    law2_RingPlays_c0 k room l r15.2.2.1 r15.2.2.2 m i else
    if 0 ≤ i then
    if i < (l.length : Int) then
    if ((l.getD i.toNat law2_Step.z).What) = 6 then
    (ring_Ring_int_Remove (r__l, r__room) ((l.getD i.toNat law2_Step.z).X)).bind fun r16 =>
    if 0 ≤ ((l.getD i.toNat law2_Step.z).X) then
    if r16.2.1 ≠ (decide (((l.getD i.toNat law2_Step.z).X) < (m.length : Int))) then
    some false else
    if ((l.getD i.toNat law2_Step.z).X) < (m.length : Int) then
    if 0 ≤ ((l.getD i.toNat law2_Step.z).X) then
    if ((l.getD i.toNat law2_Step.z).X) < (m.length : Int) then
    if r16.1 ≠ (m.getD ((l.getD i.toNat law2_Step.z).X).toNat 0) then
    some false else
    if ¬ (((l.getD i.toNat law2_Step.z).X) < (m.length : Int)) then
    if r16.1 ≠ 0 then
    some false else
    if ((l.getD i.toNat law2_Step.z).X) < (m.length : Int) then
    if 0 ≤ ((l.getD i.toNat law2_Step.z).X) then
    if ((l.getD i.toNat law2_Step.z).X) ≤ (m.length : Int) then
    if (([] : List Int).length + (cut m 0 ((l.getD i.toNat law2_Step.z).X)).length) * 8 ≤ 140737488355328 then
    if 0 ≤ (w64 (((l.getD i.toNat law2_Step.z).X) + 1)) then
    if (w64 (((l.getD i.toNat law2_Step.z).X) + 1)) ≤ (m.length : Int) then
    if ((([] : List Int) ++ (cut m 0 ((l.getD i.toNat law2_Step.z).X))).length + (cutFrom m (w64 (((l.getD i.toNat law2_Step.z).X) + 1))).length) * 8 ≤ 140737488355328 then
    law2_RingPlays_c0 k room l r16.2.2.1 r16.2.2.2 ((([] : List Int) ++ (cut m 0 ((l.getD i.toNat law2_Step.z).X))) ++ (cutFrom m (w64 (((l.getD i.toNat law2_Step.z).X) + 1)))) i else none else none else none else none else none else none else
    law2_RingPlays_c0 k room l r16.2.2.1 r16.2.2.2 m i else
    if ((l.getD i.toNat law2_Step.z).X) < (m.length : Int) then
    if 0 ≤ ((l.getD i.toNat law2_Step.z).X) then
    if ((l.getD i.toNat law2_Step.z).X) ≤ (m.length : Int) then
    if (([] : List Int).length + (cut m 0 ((l.getD i.toNat law2_Step.z).X)).length) * 8 ≤ 140737488355328 then
    if 0 ≤ (w64 (((l.getD i.toNat law2_Step.z).X) + 1)) then
    if (w64 (((l.getD i.toNat law2_Step.z).X) + 1)) ≤ (m.length : Int) then
    if ((([] : List Int) ++ (cut m 0 ((l.getD i.toNat law2_Step.z).X))).length + (cutFrom m (w64 (((l.getD i.toNat law2_Step.z).X) + 1))).length) * 8 ≤ 140737488355328 then
    law2_RingPlays_c0 k room l r16.2.2.1 r16.2.2.2 ((([] : List Int) ++ (cut m 0 ((l.getD i.toNat law2_Step.z).X))) ++ (cutFrom m (w64 (((l.getD i.toNat law2_Step.z).X) + 1)))) i else none else none else none else none else none else none else
    law2_RingPlays_c0 k room l r16.2.2.1 r16.2.2.2 m i else none else none else
    if ¬ (((l.getD i.toNat law2_Step.z).X) < (m.length : Int)) then
    if r16.1 ≠ 0 then
    some false else
    if ((l.getD i.toNat law2_Step.z).X) < (m.length : Int) then
    if 0 ≤ ((l.getD i.toNat law2_Step.z).X) then
    if ((l.getD i.toNat law2_Step.z).X) ≤ (m.length : Int) then
    if (([] : List Int).length + (cut m 0 ((l.getD i.toNat law2_Step.z).X)).length) * 8 ≤ 140737488355328 then
    if 0 ≤ (w64 (((l.getD i.toNat law2_Step.z).X) + 1)) then
    if (w64 (((l.getD i.toNat law2_Step.z).X) + 1)) ≤ (m.length : Int) then
    if ((([] : List Int) ++ (cut m 0 ((l.getD i.toNat law2_Step.z).X))).length + (cutFrom m (w64 (((l.getD i.toNat law2_Step.z).X) + 1))).length) * 8 ≤ 140737488355328 then
    law2_RingPlays_c0 k room l r16.2.2.1 r16.2.2.2 ((([] : List Int) ++ (cut m 0 ((l.getD i.toNat law2_Step.z).X))) ++ (cutFrom m (w64 (((l.getD i.toNat law2_Step.z).X) + 1)))) i else none else none else none else none else none else none else
    law2_RingPlays_c0 k room l r16.2.2.1 r16.2.2.2 m i else
    if ((l.getD i.toNat law2_Step.z).X) < (m.length : Int) then
    if 0 ≤ ((l.getD i.toNat law2_Step.z).X) then
    if ((l.getD i.toNat law2_Step.z).X) ≤ (m.length : Int) then
    if (([] : List Int).length + (cut m 0 ((l.getD i.toNat law2_Step.z).X)).length) * 8 ≤ 140737488355328 then
    if 0 ≤ (w64 (((l.getD i.toNat law2_Step.z).X) + 1)) then
    if (w64 (((l.getD i.toNat law2_Step.z).X) + 1)) ≤ (m.length : Int) then
    if ((([] : List Int) ++ (cut m 0 ((l.getD i.toNat law2_Step.z).X))).length + (cutFrom m (w64 (((l.getD i.toNat law2_Step.z).X) + 1))).length) * 8 ≤ 140737488355328 then
    law2_RingPlays_c0 k room l r16.2.2.1 r16.2.2.2 ((([] : List Int) ++ (cut m 0 ((l.getD i.toNat law2_Step.z).X))) ++ (cutFrom m (w64 (((l.getD i.toNat law2_Step.z).X) + 1)))) i else none else none else none else none else none else none else
    law2_RingPlays_c0 k room l r16.2.2.1 r16.2.2.2 m i else
    if r16.2.1 ≠ false then
    some false else
    if r16.1 ≠ 0 then
    some false else
    law2_RingPlays_c0 k room l r16.2.2.1 r16.2.2.2 m i else
    if 0 ≤ i then
    if i < (l.length : Int) then
    if ((l.getD i.toNat law2_Step.z).What) = 7 then
    (ring_Ring_int_Clear (r__l, r__room)).bind fun r17 =>
    (law2_same r17.1 m).bind fun r18 =>
    bif !r18 then
    some false else
    law2_RingPlays_c0 k room l r17.2.1 r17.2.2 [] i else
    (ring_Ring_int_Head (r__l, r__room)).bind fun r19 =>
    if r19.2.1 ≠ (decide (0 < (m.length : Int))) then
    some false else
    bif r19.2.1 then
    if (0 : Int) ≤ 0 then
    if 0 < (m.length : Int) then
    if r19.1 ≠ (m.getD (0 : Int).toNat 0) then
    some false else
    law2_RingPlays_c0 k room l r19.2.2.1 r19.2.2.2 m i else none else none else
    law2_RingPlays_c0 k room l r19.2.2.1 r19.2.2.2 m i else none else none else none else none else none else none else none else none else none else none else none else none else
    (law2_known).bind fun r20 =>
    some r20
noncomputable def law2_RingPlays_c0 : Nat → Int → (List law2_Step) → (List Int) → Int → (List Int) → Int → Option Bool
  | 0, _, _, _, _, _, _ => none
  | k + 1, room, l, r__l, r__room, m, i => (ring_Ring_int_All (r__l, r__room)).bind fun r21 =>
    (law2_same r21.1 m).bind fun r22 =>
    bif !r22 then
    some false else
    (ring_Ring_int_Len (r21.2.1, r21.2.2)).bind fun r23 =>
    if r23.1 ≠ (m.length : Int) then
    some false else
    (ring_Ring_int_Room (r23.2.1, r23.2.2)).bind fun r24 =>
    if r24.1 ≠ (w64 (room - (m.length : Int))) then
    some false else
    law2_RingPlays_l0 k room l r24.2.1 r24.2.2 m (w64 (i + 1))
end
noncomputable def law2_RingPlays_f (k : Nat) (room : Int) (l : List law2_Step) : Option Bool := (ring_New_int room).bind fun r1 =>
    (match r1.1 with
    | none => if room < 0 then
    if r1.2 = 1 then
    (law2_known).bind fun r3 =>
    some r3 else
    some false else
    if 65536 < room then
    if r1.2 = 1 then
    (law2_known).bind fun r4 =>
    some r4 else
    some false else
    if r1.2 ≠ 0 then
    if r1.2 = 0 then
    some false else
    some false else
    if r1.2 = 0 then
    some false else
    some false
    | some y2 => if room < 0 then
    if r1.2 = 1 then
    some false else
    some false else
    if 65536 < room then
    if r1.2 = 1 then
    some false else
    some false else
    if r1.2 ≠ 0 then
    if r1.2 = 0 then
    (law2_known).bind fun r5 =>
    some r5 else
    some false else
    if 300 < (l.length : Int) then
    if r1.2 = 0 then
    (law2_known).bind fun r6 =>
    some r6 else
    some false else
    law2_RingPlays_l0 k room l y2.1 y2.2 [] 0)
noncomputable def law2_RingPlays (room : Int) (l : List law2_Step) : Option Bool := lim (fun k (x : Int × List law2_Step) => law2_RingPlays_f k x.1 x.2) (room, l)
noncomputable abbrev law2_RingPlays_T : Tab S := ⟨[⟨21, [.val (.data (.int .i64))], [.opt [.marr (.int .i64), .data (.int .i64)], .val (.data (.int .i64))], fun x => ring_New_int x⟩, ⟨13, [], [.val (.data .bool)], fun x => law2_known⟩, ⟨22, [.obj [.marr (.int .i64), .data (.int .i64)], .val (.data (.int .i64))], [.val (.data .bool)], fun x => ring_Ring_int_Push x.1 x.2⟩, ⟨28, [.obj [.marr (.int .i64), .data (.int .i64)]], [.val (.data (.int .i64)), .val (.data .bool)], fun x => ring_Ring_int_Pop x⟩, ⟨24, [.obj [.marr (.int .i64), .data (.int .i64)], .val (.data (.int .i64))], [.val (.data (.int .i64)), .val (.data .bool)], fun x => ring_Ring_int_Remove x.1 x.2⟩, ⟨26, [.obj [.marr (.int .i64), .data (.int .i64)]], [.val (.marr (.int .i64))], fun x => ring_Ring_int_Clear x⟩, ⟨25, [.val (.data (.sl (.int .i64))), .val (.data (.sl (.int .i64)))], [.val (.data .bool)], fun x => law2_same x.1 x.2⟩, ⟨29, [.obj [.marr (.int .i64), .data (.int .i64)]], [.val (.data (.int .i64)), .val (.data .bool)], fun x => ring_Ring_int_Head x⟩, ⟨23, [.obj [.marr (.int .i64), .data (.int .i64)]], [.val (.marr (.int .i64))], fun x => ring_Ring_int_All x⟩, ⟨27, [.obj [.marr (.int .i64), .data (.int .i64)]], [.val (.data (.int .i64))], fun x => ring_Ring_int_Len x⟩, ⟨30, [.obj [.marr (.int .i64), .data (.int .i64)]], [.val (.data (.int .i64))], fun x => ring_Ring_int_Room x⟩], [], false, true⟩
noncomputable def law2_RingPlays_L (k : Nat) : Nat → List (Lab S Bool)
  | 0 => [⟨[0, 1, 5, 7, 8], [.val (.data (.int .i64)), .val (.data (.sl (.st 3))), .obj [.marr (.int .i64), .data (.int .i64)], .val (.town (.int .i64)), .val (.data (.int .i64))], fun x => law2_RingPlays_l0 k x.1 x.2.1 x.2.2.1.1 x.2.2.1.2 x.2.2.2.1 x.2.2.2.2⟩]
  | 1 => [⟨[0, 1, 5, 7, 8], [.val (.data (.int .i64)), .val (.data (.sl (.st 3))), .obj [.marr (.int .i64), .data (.int .i64)], .val (.town (.int .i64)), .val (.data (.int .i64))], fun x => law2_RingPlays_c0 k x.1 x.2.1 x.2.2.1.1 x.2.2.1.2 x.2.2.2.1 x.2.2.2.2⟩]
  | _ + 2 => []
theorem law2_RingPlays_eq (k : Nat) (room : Int) (l : List law2_Step) : law2_RingPlays_f k room l = exec S (law2_RingPlays_T) byt (labs S (law2_RingPlays_T) (law2_RingPlays_L k)) (ac [15] Try.f5) (frame0 S [.val (.data (.int .i64)), .val (.data (.sl (.st 3)))] (room, l)) (retK S (law2_RingPlays_T) Try.f5 [.val (.data (.int .i64)), .val (.data (.sl (.st 3)))] [.val (.data .bool)]) := by kernel_rfl
theorem law2_RingPlays_vc (k : Nat) : VC S (law2_RingPlays_T) byt (law2_RingPlays_L k) (law2_RingPlays_L (k + 1)) (ac [15] Try.f5) (retK S (law2_RingPlays_T) Try.f5 [.val (.data (.int .i64)), .val (.data (.sl (.st 3)))] [.val (.data .bool)]) = [∀ x : Int × List law2_Step × (List Int × Int) × List Int × Int, law2_RingPlays_c0 (k + 1) x.1 x.2.1 x.2.2.1.1 x.2.2.1.2 x.2.2.2.1 x.2.2.2.2 = law2_RingPlays_c0 (k + 1) x.1 x.2.1 x.2.2.1.1 x.2.2.1.2 x.2.2.2.1 x.2.2.2.2, ∀ x : Int × List law2_Step × (List Int × Int) × List Int × Int, law2_RingPlays_l0 (k + 1) x.1 x.2.1 x.2.2.1.1 x.2.2.1.2 x.2.2.2.1 x.2.2.2.2 = law2_RingPlays_l0 (k + 1) x.1 x.2.1 x.2.2.1.1 x.2.2.1.2 x.2.2.2.1 x.2.2.2.2] := by kernel_rfl
theorem law2_RingPlays_sndk (k : Nat) : Snd Try.prog S ⟨5, [.val (.data (.int .i64)), .val (.data (.sl (.st 3)))], [.val (.data .bool)], fun x => law2_RingPlays_f k x.1 x.2⟩ :=
  fn_ok progOk (T := (law2_RingPlays_T)) (all_cons ring_New_int_snd (all_cons law2_known_snd (all_cons ring_Ring_int_Push_snd (all_cons ring_Ring_int_Pop_snd (all_cons ring_Ring_int_Remove_snd (all_cons ring_Ring_int_Clear_snd (all_cons law2_same_snd (all_cons ring_Ring_int_Head_snd (all_cons ring_Ring_int_All_snd (all_cons ring_Ring_int_Len_snd (all_cons ring_Ring_int_Room_snd (all_nil)))))))))))) (all_nil) mixed Try.func5 rfl (by kernel_rfl) (ac_code [15] Try.f5 rfl) (L := law2_RingPlays_L)
    (fun n l h x => by match n, h with
        | 0, h => 
          rcases List.mem_cons.1 h with rfl | h
          · rfl
          cases h
        | 1, h => 
          rcases List.mem_cons.1 h with rfl | h
          · rfl
          cases h
        | _ + 2, h => cases h) (fun k n l h => by match n, h with
        | 0, h => 
          rcases List.mem_cons.1 h with rfl | h
          · rfl
          cases h
        | 1, h => 
          rcases List.mem_cons.1 h with rfl | h
          · rfl
          cases h
        | _ + 2, h => cases h)
    (fun k => All.mem (law2_RingPlays_vc k) ⟨fun _ => rfl, ⟨fun _ => rfl, trivial⟩⟩) (fun x r h => ⟨k, (law2_RingPlays_eq k x.1 x.2).symm.trans h⟩) (by kernel_rfl) (by kernel_rfl) (Nat.le_of_ble_eq_true (by kernel_rfl))
theorem law2_RingPlays_snd : Snd Try.prog S ⟨5, [.val (.data (.int .i64)), .val (.data (.sl (.st 3)))], [.val (.data .bool)], fun x => law2_RingPlays x.1 x.2⟩ := Snd.lim law2_RingPlays_sndk
/-! ### 27 (*cotillion/ring.Ring[int]).Len -/
noncomputable def ring_Ring_int_Len_1  (u_ : Unit) : Option Int := some 0
noncomputable abbrev ring_Ring_int_Len_1_T : Tab S := ⟨[], [], false, false⟩
noncomputable def ring_Ring_int_Len_1_L (k : Nat) : Nat → List (Lab S Int)
  | _ => []
theorem ring_Ring_int_Len_1_eq (k : Nat) (u_ : Unit) : ring_Ring_int_Len_1 u_ = exec S (ring_Ring_int_Len_1_T) byt (labs S (ring_Ring_int_Len_1_T) (ring_Ring_int_Len_1_L k)) (ac [] Try.f27) (frame0 S [.nil] u_) (retK S (ring_Ring_int_Len_1_T) Try.f27 [.nil] [.val (.data (.int .i64))]) := by kernel_rfl
theorem ring_Ring_int_Len_1_vc (k : Nat) : VC S (ring_Ring_int_Len_1_T) byt (ring_Ring_int_Len_1_L k) (ring_Ring_int_Len_1_L (k + 1)) (ac [] Try.f27) (retK S (ring_Ring_int_Len_1_T) Try.f27 [.nil] [.val (.data (.int .i64))]) = [] := by kernel_rfl
theorem ring_Ring_int_Len_1_snd : Snd Try.prog S ⟨27, [.nil], [.val (.data (.int .i64))], fun x => ring_Ring_int_Len_1 x⟩ :=
  fn_ok progOk (T := (ring_Ring_int_Len_1_T)) (all_nil) (all_nil) mixed Try.func27 rfl (by kernel_rfl) (ac_code [] Try.f27 rfl) (L := ring_Ring_int_Len_1_L)
    (fun n l h x => by cases h) (fun k n l h => by cases h)
    (fun k => All.mem (ring_Ring_int_Len_1_vc k) trivial) (fun x r h => ⟨0, (ring_Ring_int_Len_1_eq 0 x).symm.trans h⟩) (by kernel_rfl) (by kernel_rfl) (Nat.le_of_ble_eq_true (by kernel_rfl))
/-! ### 24 (*cotillion/ring.Ring[int]).Remove -/
noncomputable def ring_Ring_int_Remove_1  (u_ : Unit) (v_at : Int) : Option (Int × Bool) := if v_at < 0 then
    some (0, false) else
    (ring_Ring_int_Len_1 ()).bind fun r1 =>
    if r1 ≤ v_at then
    some (0, false) else none
noncomputable abbrev ring_Ring_int_Remove_1_T : Tab S := ⟨[⟨27, [.nil], [.val (.data (.int .i64))], fun x => ring_Ring_int_Len_1 x⟩], [], false, false⟩
noncomputable def ring_Ring_int_Remove_1_L (k : Nat) : Nat → List (Lab S (Int × Bool))
  | _ => []
theorem ring_Ring_int_Remove_1_eq (k : Nat) (u_ : Unit) (v_at : Int) : ring_Ring_int_Remove_1 u_ v_at = exec S (ring_Ring_int_Remove_1_T) byt (labs S (ring_Ring_int_Remove_1_T) (ring_Ring_int_Remove_1_L k)) (ac [] Try.f24) (frame0 S [.nil, .val (.data (.int .i64))] (u_, v_at)) (retK S (ring_Ring_int_Remove_1_T) Try.f24 [.nil, .val (.data (.int .i64))] [.val (.data (.int .i64)), .val (.data .bool)]) := by kernel_rfl
theorem ring_Ring_int_Remove_1_vc (k : Nat) : VC S (ring_Ring_int_Remove_1_T) byt (ring_Ring_int_Remove_1_L k) (ring_Ring_int_Remove_1_L (k + 1)) (ac [] Try.f24) (retK S (ring_Ring_int_Remove_1_T) Try.f24 [.nil, .val (.data (.int .i64))] [.val (.data (.int .i64)), .val (.data .bool)]) = [] := by kernel_rfl
theorem ring_Ring_int_Remove_1_snd : Snd Try.prog S ⟨24, [.nil, .val (.data (.int .i64))], [.val (.data (.int .i64)), .val (.data .bool)], fun x => ring_Ring_int_Remove_1 x.1 x.2⟩ :=
  fn_ok progOk (T := (ring_Ring_int_Remove_1_T)) (all_cons ring_Ring_int_Len_1_snd (all_nil)) (all_nil) mixed Try.func24 rfl (by kernel_rfl) (ac_code [] Try.f24 rfl) (L := ring_Ring_int_Remove_1_L)
    (fun n l h x => by cases h) (fun k n l h => by cases h)
    (fun k => All.mem (ring_Ring_int_Remove_1_vc k) trivial) (fun x r h => ⟨0, (ring_Ring_int_Remove_1_eq 0 x.1 x.2).symm.trans h⟩) (by kernel_rfl) (by kernel_rfl) (Nat.le_of_ble_eq_true (by kernel_rfl))
/-! ### 28 (*cotillion/ring.Ring[int]).Pop -/
noncomputable def ring_Ring_int_Pop_1  (u_ : Unit) : Option (Int × Bool) := (ring_Ring_int_Remove_1 () 0).bind fun r1 => some (r1.1, r1.2)
noncomputable abbrev ring_Ring_int_Pop_1_T : Tab S := ⟨[⟨24, [.nil, .val (.data (.int .i64))], [.val (.data (.int .i64)), .val (.data .bool)], fun x => ring_Ring_int_Remove_1 x.1 x.2⟩], [], false, false⟩
noncomputable def ring_Ring_int_Pop_1_L (k : Nat) : Nat → List (Lab S (Int × Bool))
  | _ => []
theorem ring_Ring_int_Pop_1_eq (k : Nat) (u_ : Unit) : ring_Ring_int_Pop_1 u_ = exec S (ring_Ring_int_Pop_1_T) byt (labs S (ring_Ring_int_Pop_1_T) (ring_Ring_int_Pop_1_L k)) (ac [] Try.f28) (frame0 S [.nil] u_) (retK S (ring_Ring_int_Pop_1_T) Try.f28 [.nil] [.val (.data (.int .i64)), .val (.data .bool)]) := by kernel_rfl
theorem ring_Ring_int_Pop_1_vc (k : Nat) : VC S (ring_Ring_int_Pop_1_T) byt (ring_Ring_int_Pop_1_L k) (ring_Ring_int_Pop_1_L (k + 1)) (ac [] Try.f28) (retK S (ring_Ring_int_Pop_1_T) Try.f28 [.nil] [.val (.data (.int .i64)), .val (.data .bool)]) = [] := by kernel_rfl
theorem ring_Ring_int_Pop_1_snd : Snd Try.prog S ⟨28, [.nil], [.val (.data (.int .i64)), .val (.data .bool)], fun x => ring_Ring_int_Pop_1 x⟩ :=
  fn_ok progOk (T := (ring_Ring_int_Pop_1_T)) (all_cons ring_Ring_int_Remove_1_snd (all_nil)) (all_nil) mixed Try.func28 rfl (by kernel_rfl) (ac_code [] Try.f28 rfl) (L := ring_Ring_int_Pop_1_L)
    (fun n l h x => by cases h) (fun k n l h => by cases h)
    (fun k => All.mem (ring_Ring_int_Pop_1_vc k) trivial) (fun x r h => ⟨0, (ring_Ring_int_Pop_1_eq 0 x).symm.trans h⟩) (by kernel_rfl) (by kernel_rfl) (Nat.le_of_ble_eq_true (by kernel_rfl))
/-! ### 29 (*cotillion/ring.Ring[int]).Head -/
noncomputable def ring_Ring_int_Head_1  (u_ : Unit) : Option (Int × Bool) := (ring_Ring_int_Len_1 ()).bind fun r1 => if r1 = 0 then some (0, false) else none
noncomputable abbrev ring_Ring_int_Head_1_T : Tab S := ⟨[⟨27, [.nil], [.val (.data (.int .i64))], fun x => ring_Ring_int_Len_1 x⟩], [], false, false⟩
noncomputable def ring_Ring_int_Head_1_L (k : Nat) : Nat → List (Lab S (Int × Bool))
  | _ => []
theorem ring_Ring_int_Head_1_eq (k : Nat) (u_ : Unit) : ring_Ring_int_Head_1 u_ = exec S (ring_Ring_int_Head_1_T) byt (labs S (ring_Ring_int_Head_1_T) (ring_Ring_int_Head_1_L k)) (ac [] Try.f29) (frame0 S [.nil] u_) (retK S (ring_Ring_int_Head_1_T) Try.f29 [.nil] [.val (.data (.int .i64)), .val (.data .bool)]) := by kernel_rfl
theorem ring_Ring_int_Head_1_vc (k : Nat) : VC S (ring_Ring_int_Head_1_T) byt (ring_Ring_int_Head_1_L k) (ring_Ring_int_Head_1_L (k + 1)) (ac [] Try.f29) (retK S (ring_Ring_int_Head_1_T) Try.f29 [.nil] [.val (.data (.int .i64)), .val (.data .bool)]) = [] := by kernel_rfl
theorem ring_Ring_int_Head_1_snd : Snd Try.prog S ⟨29, [.nil], [.val (.data (.int .i64)), .val (.data .bool)], fun x => ring_Ring_int_Head_1 x⟩ :=
  fn_ok progOk (T := (ring_Ring_int_Head_1_T)) (all_cons ring_Ring_int_Len_1_snd (all_nil)) (all_nil) mixed Try.func29 rfl (by kernel_rfl) (ac_code [] Try.f29 rfl) (L := ring_Ring_int_Head_1_L)
    (fun n l h x => by cases h) (fun k n l h => by cases h)
    (fun k => All.mem (ring_Ring_int_Head_1_vc k) trivial) (fun x r h => ⟨0, (ring_Ring_int_Head_1_eq 0 x).symm.trans h⟩) (by kernel_rfl) (by kernel_rfl) (Nat.le_of_ble_eq_true (by kernel_rfl))
/-! ### 30 (*cotillion/ring.Ring[int]).Room -/
noncomputable def ring_Ring_int_Room_1  (u_ : Unit) : Option Int := some 0
noncomputable abbrev ring_Ring_int_Room_1_T : Tab S := ⟨[], [], false, false⟩
noncomputable def ring_Ring_int_Room_1_L (k : Nat) : Nat → List (Lab S Int)
  | _ => []
theorem ring_Ring_int_Room_1_eq (k : Nat) (u_ : Unit) : ring_Ring_int_Room_1 u_ = exec S (ring_Ring_int_Room_1_T) byt (labs S (ring_Ring_int_Room_1_T) (ring_Ring_int_Room_1_L k)) (ac [] Try.f30) (frame0 S [.nil] u_) (retK S (ring_Ring_int_Room_1_T) Try.f30 [.nil] [.val (.data (.int .i64))]) := by kernel_rfl
theorem ring_Ring_int_Room_1_vc (k : Nat) : VC S (ring_Ring_int_Room_1_T) byt (ring_Ring_int_Room_1_L k) (ring_Ring_int_Room_1_L (k + 1)) (ac [] Try.f30) (retK S (ring_Ring_int_Room_1_T) Try.f30 [.nil] [.val (.data (.int .i64))]) = [] := by kernel_rfl
theorem ring_Ring_int_Room_1_snd : Snd Try.prog S ⟨30, [.nil], [.val (.data (.int .i64))], fun x => ring_Ring_int_Room_1 x⟩ :=
  fn_ok progOk (T := (ring_Ring_int_Room_1_T)) (all_nil) (all_nil) mixed Try.func30 rfl (by kernel_rfl) (ac_code [] Try.f30 rfl) (L := ring_Ring_int_Room_1_L)
    (fun n l h x => by cases h) (fun k n l h => by cases h)
    (fun k => All.mem (ring_Ring_int_Room_1_vc k) trivial) (fun x r h => ⟨0, (ring_Ring_int_Room_1_eq 0 x).symm.trans h⟩) (by kernel_rfl) (by kernel_rfl) (Nat.le_of_ble_eq_true (by kernel_rfl))
/-! ### 22 (*cotillion/ring.Ring[int]).Push -/
noncomputable def ring_Ring_int_Push_1  (u_ : Unit) (x : Int) : Option Bool := (ring_Ring_int_Room_1 ()).bind fun r1 => if r1 = 0 then some false else none
noncomputable abbrev ring_Ring_int_Push_1_T : Tab S := ⟨[⟨30, [.nil], [.val (.data (.int .i64))], fun x => ring_Ring_int_Room_1 x⟩], [], false, false⟩
noncomputable def ring_Ring_int_Push_1_L (k : Nat) : Nat → List (Lab S Bool)
  | _ => []
theorem ring_Ring_int_Push_1_eq (k : Nat) (u_ : Unit) (x : Int) : ring_Ring_int_Push_1 u_ x = exec S (ring_Ring_int_Push_1_T) byt (labs S (ring_Ring_int_Push_1_T) (ring_Ring_int_Push_1_L k)) (ac [] Try.f22) (frame0 S [.nil, .val (.data (.int .i64))] (u_, x)) (retK S (ring_Ring_int_Push_1_T) Try.f22 [.nil, .val (.data (.int .i64))] [.val (.data .bool)]) := by kernel_rfl
theorem ring_Ring_int_Push_1_vc (k : Nat) : VC S (ring_Ring_int_Push_1_T) byt (ring_Ring_int_Push_1_L k) (ring_Ring_int_Push_1_L (k + 1)) (ac [] Try.f22) (retK S (ring_Ring_int_Push_1_T) Try.f22 [.nil, .val (.data (.int .i64))] [.val (.data .bool)]) = [] := by kernel_rfl
theorem ring_Ring_int_Push_1_snd : Snd Try.prog S ⟨22, [.nil, .val (.data (.int .i64))], [.val (.data .bool)], fun x => ring_Ring_int_Push_1 x.1 x.2⟩ :=
  fn_ok progOk (T := (ring_Ring_int_Push_1_T)) (all_cons ring_Ring_int_Room_1_snd (all_nil)) (all_nil) mixed Try.func22 rfl (by kernel_rfl) (ac_code [] Try.f22 rfl) (L := ring_Ring_int_Push_1_L)
    (fun n l h x => by cases h) (fun k n l h => by cases h)
    (fun k => All.mem (ring_Ring_int_Push_1_vc k) trivial) (fun x r h => ⟨0, (ring_Ring_int_Push_1_eq 0 x.1 x.2).symm.trans h⟩) (by kernel_rfl) (by kernel_rfl) (Nat.le_of_ble_eq_true (by kernel_rfl))
/-! ### 23 (*cotillion/ring.Ring[int]).All -/
noncomputable def ring_Ring_int_All_1  (u_ : Unit) : Option (List Int) := some []
noncomputable abbrev ring_Ring_int_All_1_T : Tab S := ⟨[], [], false, false⟩
noncomputable def ring_Ring_int_All_1_L (k : Nat) : Nat → List (Lab S (List Int))
  | _ => []
theorem ring_Ring_int_All_1_eq (k : Nat) (u_ : Unit) : ring_Ring_int_All_1 u_ = exec S (ring_Ring_int_All_1_T) byt (labs S (ring_Ring_int_All_1_T) (ring_Ring_int_All_1_L k)) (ac [] Try.f23) (frame0 S [.nil] u_) (retK S (ring_Ring_int_All_1_T) Try.f23 [.nil] [.val (.town (.int .i64))]) := by kernel_rfl
theorem ring_Ring_int_All_1_vc (k : Nat) : VC S (ring_Ring_int_All_1_T) byt (ring_Ring_int_All_1_L k) (ring_Ring_int_All_1_L (k + 1)) (ac [] Try.f23) (retK S (ring_Ring_int_All_1_T) Try.f23 [.nil] [.val (.town (.int .i64))]) = [] := by kernel_rfl
theorem ring_Ring_int_All_1_snd : Snd Try.prog S ⟨23, [.nil], [.val (.town (.int .i64))], fun x => ring_Ring_int_All_1 x⟩ :=
  fn_ok progOk (T := (ring_Ring_int_All_1_T)) (all_nil) (all_nil) mixed Try.func23 rfl (by kernel_rfl) (ac_code [] Try.f23 rfl) (L := ring_Ring_int_All_1_L)
    (fun n l h x => by cases h) (fun k n l h => by cases h)
    (fun k => All.mem (ring_Ring_int_All_1_vc k) trivial) (fun x r h => ⟨0, (ring_Ring_int_All_1_eq 0 x).symm.trans h⟩) (by kernel_rfl) (by kernel_rfl) (Nat.le_of_ble_eq_true (by kernel_rfl))
/-! ### 26 (*cotillion/ring.Ring[int]).Clear -/
noncomputable def ring_Ring_int_Clear_1  (u_ : Unit) : Option (List Int) := (ring_Ring_int_All_1 ()).bind fun r1 => some r1
noncomputable abbrev ring_Ring_int_Clear_1_T : Tab S := ⟨[⟨23, [.nil], [.val (.town (.int .i64))], fun x => ring_Ring_int_All_1 x⟩], [], false, false⟩
noncomputable def ring_Ring_int_Clear_1_L (k : Nat) : Nat → List (Lab S (List Int))
  | _ => []
theorem ring_Ring_int_Clear_1_eq (k : Nat) (u_ : Unit) : ring_Ring_int_Clear_1 u_ = exec S (ring_Ring_int_Clear_1_T) byt (labs S (ring_Ring_int_Clear_1_T) (ring_Ring_int_Clear_1_L k)) (ac [] Try.f26) (frame0 S [.nil] u_) (retK S (ring_Ring_int_Clear_1_T) Try.f26 [.nil] [.val (.town (.int .i64))]) := by kernel_rfl
theorem ring_Ring_int_Clear_1_vc (k : Nat) : VC S (ring_Ring_int_Clear_1_T) byt (ring_Ring_int_Clear_1_L k) (ring_Ring_int_Clear_1_L (k + 1)) (ac [] Try.f26) (retK S (ring_Ring_int_Clear_1_T) Try.f26 [.nil] [.val (.town (.int .i64))]) = [] := by kernel_rfl
theorem ring_Ring_int_Clear_1_snd : Snd Try.prog S ⟨26, [.nil], [.val (.town (.int .i64))], fun x => ring_Ring_int_Clear_1 x⟩ :=
  fn_ok progOk (T := (ring_Ring_int_Clear_1_T)) (all_cons ring_Ring_int_All_1_snd (all_nil)) (all_nil) mixed Try.func26 rfl (by kernel_rfl) (ac_code [] Try.f26 rfl) (L := ring_Ring_int_Clear_1_L)
    (fun n l h x => by cases h) (fun k n l h => by cases h)
    (fun k => All.mem (ring_Ring_int_Clear_1_vc k) trivial) (fun x r h => ⟨0, (ring_Ring_int_Clear_1_eq 0 x).symm.trans h⟩) (by kernel_rfl) (by kernel_rfl) (Nat.le_of_ble_eq_true (by kernel_rfl))
/-! ### 6 cotillion/cotillionlaw2.RingNone -/
noncomputable def law2_RingNone  (x : Int) (v_at : Int) : Option Bool := (ring_Ring_int_Pop_1 ()).bind fun r1 =>
    (ring_Ring_int_Head_1 ()).bind fun r2 =>
    (ring_Ring_int_Remove_1 () v_at).bind fun r3 =>
    (ring_Ring_int_Push_1 () x).bind fun r4 =>
    bif !r4 then
    bif !r1.2 then
    bif !r2.2 then
    bif !r3.2 then
    if r1.1 = 0 then
    if r2.1 = 0 then
    if r3.1 = 0 then
    (ring_Ring_int_All_1 ()).bind fun r5 =>
    if (r5.length : Int) = 0 then
    (ring_Ring_int_Clear_1 ()).bind fun r6 =>
    if (r6.length : Int) = 0 then
    (ring_Ring_int_Len_1 ()).bind fun r7 =>
    if r7 = 0 then
    (ring_Ring_int_Room_1 ()).bind fun r8 =>
    if r8 = 0 then
    (law2_known).bind fun r9 =>
    some r9 else
    some false else
    some false else
    some false else
    some false else
    some false else
    some false else
    some false else
    some false else
    some false else
    some false else
    some false
noncomputable abbrev law2_RingNone_T : Tab S := ⟨[⟨28, [.nil], [.val (.data (.int .i64)), .val (.data .bool)], fun x => ring_Ring_int_Pop_1 x⟩, ⟨29, [.nil], [.val (.data (.int .i64)), .val (.data .bool)], fun x => ring_Ring_int_Head_1 x⟩, ⟨24, [.nil, .val (.data (.int .i64))], [.val (.data (.int .i64)), .val (.data .bool)], fun x => ring_Ring_int_Remove_1 x.1 x.2⟩, ⟨22, [.nil, .val (.data (.int .i64))], [.val (.data .bool)], fun x => ring_Ring_int_Push_1 x.1 x.2⟩, ⟨23, [.nil], [.val (.town (.int .i64))], fun x => ring_Ring_int_All_1 x⟩, ⟨26, [.nil], [.val (.town (.int .i64))], fun x => ring_Ring_int_Clear_1 x⟩, ⟨27, [.nil], [.val (.data (.int .i64))], fun x => ring_Ring_int_Len_1 x⟩, ⟨30, [.nil], [.val (.data (.int .i64))], fun x => ring_Ring_int_Room_1 x⟩, ⟨13, [], [.val (.data .bool)], fun x => law2_known⟩], [], false, false⟩
noncomputable def law2_RingNone_L (k : Nat) : Nat → List (Lab S Bool)
  | _ => []
theorem law2_RingNone_eq (k : Nat) (x : Int) (v_at : Int) : law2_RingNone x v_at = exec S (law2_RingNone_T) byt (labs S (law2_RingNone_T) (law2_RingNone_L k)) (ac [] Try.f6) (frame0 S [.val (.data (.int .i64)), .val (.data (.int .i64))] (x, v_at)) (retK S (law2_RingNone_T) Try.f6 [.val (.data (.int .i64)), .val (.data (.int .i64))] [.val (.data .bool)]) := by kernel_rfl
theorem law2_RingNone_vc (k : Nat) : VC S (law2_RingNone_T) byt (law2_RingNone_L k) (law2_RingNone_L (k + 1)) (ac [] Try.f6) (retK S (law2_RingNone_T) Try.f6 [.val (.data (.int .i64)), .val (.data (.int .i64))] [.val (.data .bool)]) = [] := by kernel_rfl
theorem law2_RingNone_snd : Snd Try.prog S ⟨6, [.val (.data (.int .i64)), .val (.data (.int .i64))], [.val (.data .bool)], fun x => law2_RingNone x.1 x.2⟩ :=
  fn_ok progOk (T := (law2_RingNone_T)) (all_cons ring_Ring_int_Pop_1_snd (all_cons ring_Ring_int_Head_1_snd (all_cons ring_Ring_int_Remove_1_snd (all_cons ring_Ring_int_Push_1_snd (all_cons ring_Ring_int_All_1_snd (all_cons ring_Ring_int_Clear_1_snd (all_cons ring_Ring_int_Len_1_snd (all_cons ring_Ring_int_Room_1_snd (all_cons law2_known_snd (all_nil)))))))))) (all_nil) mixed Try.func6 rfl (by kernel_rfl) (ac_code [] Try.f6 rfl) (L := law2_RingNone_L)
    (fun n l h x => by cases h) (fun k n l h => by cases h)
    (fun k => All.mem (law2_RingNone_vc k) trivial) (fun x r h => ⟨0, (law2_RingNone_eq 0 x.1 x.2).symm.trans h⟩) (by kernel_rfl) (by kernel_rfl) (Nat.le_of_ble_eq_true (by kernel_rfl))
end Go.Sy.Ri
/-! The Ring: what its functions compute. -/
namespace Go.Sy.Ri
open Go.Sy
theorem del_eq {α : Type} (z : α) (L : List α) (i j : Nat) (h1 : i ≤ j) (h2 : j ≤ L.length) :
    List.take ((i : Int) + ((L.length : Int) - (j : Int))).toNat (cleared z (moved L (i : Int) (j : Int) ((L.length : Int) - (j : Int))) ((i : Int) + ((L.length : Int) - (j : Int))) ((L.length : Int) - ((i : Int) + ((L.length : Int) - (j : Int))))) = L.take i ++ L.drop j := by
  have e : ((i : Int) + ((L.length : Int) - (j : Int))).toNat = i + (L.length - j) := by omega
  have e2 : ((L.length : Int) - (j : Int)).toNat = L.length - j := by omega
  unfold cleared moved
  rw [e, e2, Int.toNat_natCast, Int.toNat_natCast]
  have e3 : (List.take i L ++ List.take (L.length - j) (List.drop j L)).length = i + (L.length - j) := by simp; omega
  have e4 : List.take (L.length - j) (List.drop j L) = List.drop j L := List.take_of_length_le (by simp)
  rw [List.append_assoc (List.take (i + (L.length - j)) _), List.take_append_of_le_length (by simp; omega), List.take_take, Nat.min_self, List.take_append_of_le_length (by rw [e3]; exact Nat.le_refl _), List.take_of_length_le (by rw [e3]; exact Nat.le_refl _), e4]
theorem i_Clone_eq (s : List Int) (hl : s.length < 1000000) : slices_Clone_int_int s = some s := by
  unfold slices_Clone_int_int
  have h1 : (([] : List Int).length + s.length) * 8 ≤ 140737488355328 := by simp; omega
  rw [if_pos h1, List.nil_append]
  split
  · rename_i h
    have : s = [] := List.length_eq_zero_iff.1 h
    subst this
    unfold agree
    rw [if_pos rfl]
  · rfl
theorem i_All_eq (L : List Int) (r : Int) (hl : L.length < 1000000) : ring_Ring_int_All (L, r) = some (L, (L, r)) := by
  unfold ring_Ring_int_All
  dsimp only
  rw [i_Clone_eq L hl, bind_some_eq]
theorem i_Room_eq (L : List Int) (r : Int) (hl : L.length < 1000000) (hr : 0 ≤ r ∧ r ≤ 65536) : ring_Ring_int_Room (L, r) = some (r - (L.length : Int), (L, r)) := by
  unfold ring_Ring_int_Room
  dsimp only
  rw [w64_in (by omega) (by omega)]
theorem i_Push_eq (L : List Int) (r : Int) (x : Int) (hl : (L.length : Int) ≤ r) (hr : r ≤ 65536) : ring_Ring_int_Push (L, r) x = if (L.length : Int) < r then some (true, (L ++ [x], r)) else some (false, (L, r)) := by
  unfold ring_Ring_int_Push
  dsimp only
  rw [i_Room_eq L r (by omega) (by omega), bind_some_eq]
  dsimp only
  by_cases h : (L.length : Int) < r
  · rw [if_neg (by omega), if_pos h, if_pos (by simp; omega)]
  · rw [if_pos (by omega), if_neg h]
theorem i_Len_eq (L : List Int) (r : Int) : ring_Ring_int_Len (L, r) = some ((L.length : Int), (L, r)) := rfl
theorem i_Delete_eq (L : List Int) (i j : Nat) (h1 : i ≤ j) (h2 : j ≤ L.length) (hl : L.length < 1000000) : slices_Delete_int_int L (i : Int) (j : Int) = some (L.take i ++ L.drop j) := by
  unfold slices_Delete_int_int
  have hm : (moved L (i : Int) (j : Int) ((L.length : Int) - (j : Int))).length = L.length := moved_len L (by omega) (by omega) (by omega) (by omega)
  rw [if_pos (by omega), if_pos (by omega), if_pos (by omega), if_pos (by omega)]
  by_cases he : i = j
  · subst he
    rw [if_pos rfl, List.take_append_drop]
  · rw [if_neg (by omega), if_pos (by omega), if_pos (by omega), if_pos (by omega), if_pos (by omega), if_pos (by omega), if_pos (by omega), if_pos (by omega), if_pos (by omega), if_pos (by omega), if_pos (by omega)]
    congr 1
    exact del_eq _ L i j h1 h2
theorem i_Remove_eq (L : List Int) (r v : Int) (hl : L.length < 1000000) : ring_Ring_int_Remove (L, r) v = if 0 ≤ v ∧ v < (L.length : Int) then some (L.getD v.toNat 0, true, (L.take v.toNat ++ L.drop (v.toNat + 1), r)) else some (0, false, (L, r)) := by
  unfold ring_Ring_int_Remove
  dsimp only
  by_cases h0 : v < 0
  · rw [if_pos h0, if_neg (by omega)]
  · rw [if_neg h0, i_Len_eq, bind_some_eq]
    dsimp only
    by_cases h1 : (L.length : Int) ≤ v
    · rw [if_pos h1, if_neg (by omega)]
    · rw [if_neg h1, if_pos (by omega), if_pos (by omega), if_pos (by omega), w64_in (by omega) (by omega)]
      obtain ⟨n, rfl⟩ : ∃ n : Nat, v = n := ⟨v.toNat, by omega⟩
      have := i_Delete_eq L n (n + 1) (by omega) (by omega) hl
      rw [show ((n + 1 : Nat) : Int) = (n : Int) + 1 from by omega] at this
      rw [this, bind_some_eq]
      rfl
theorem i_Pop_eq (L : List Int) (r : Int) (hl : L.length < 1000000) : ring_Ring_int_Pop (L, r) = if 0 < L.length then some (L.getD 0 0, true, (L.drop 1, r)) else some (0, false, (L, r)) := by
  unfold ring_Ring_int_Pop
  dsimp only
  rw [i_Remove_eq L r 0 hl]
  by_cases h : 0 < L.length
  · rw [if_pos (by omega), bind_some_eq, if_pos h]; simp
  · rw [if_neg (by omega), bind_some_eq, if_neg h]
theorem i_Head_eq (L : List Int) (r : Int) : ring_Ring_int_Head (L, r) = if 0 < L.length then some (L.getD 0 0, true, (L, r)) else some (0, false, (L, r)) := by
  unfold ring_Ring_int_Head
  dsimp only
  rw [i_Len_eq, bind_some_eq]
  dsimp only
  by_cases h : 0 < L.length
  · rw [if_neg (by omega), if_pos (by decide), if_pos (by omega), if_pos h]; rfl
  · rw [if_pos (by omega), if_neg h]
theorem m_Clone_eq (s : List api_Msg) (hl : s.length < 1000000) : slices_Clone_api_Msg_api_Msg s = some s := by
  unfold slices_Clone_api_Msg_api_Msg
  have h1 : (([] : List api_Msg).length + s.length) * 24 ≤ 140737488355328 := by simp; omega
  rw [if_pos h1, List.nil_append]
  split
  · rename_i h
    have : s = [] := List.length_eq_zero_iff.1 h
    subst this
    unfold agree
    rw [if_pos rfl]
  · rfl
theorem m_All_eq (L : List api_Msg) (r : Int) (hl : L.length < 1000000) : ring_Ring_api_Msg_All (L, r) = some (L, (L, r)) := by
  unfold ring_Ring_api_Msg_All
  dsimp only
  rw [m_Clone_eq L hl, bind_some_eq]
theorem m_Room_eq (L : List api_Msg) (r : Int) (hl : L.length < 1000000) (hr : 0 ≤ r ∧ r ≤ 65536) : ring_Ring_api_Msg_Room (L, r) = some (r - (L.length : Int), (L, r)) := by
  unfold ring_Ring_api_Msg_Room
  dsimp only
  rw [w64_in (by omega) (by omega)]
theorem m_Push_eq (L : List api_Msg) (r : Int) (x : api_Msg) (hl : (L.length : Int) ≤ r) (hr : r ≤ 65536) : ring_Ring_api_Msg_Push (L, r) x = if (L.length : Int) < r then some (true, (L ++ [x], r)) else some (false, (L, r)) := by
  unfold ring_Ring_api_Msg_Push
  dsimp only
  rw [m_Room_eq L r (by omega) (by omega), bind_some_eq]
  dsimp only
  by_cases h : (L.length : Int) < r
  · rw [if_neg (by omega), if_pos h, if_pos (by simp; omega)]
  · rw [if_pos (by omega), if_neg h]
theorem m_Len_eq (L : List api_Msg) (r : Int) : ring_Ring_api_Msg_Len (L, r) = some ((L.length : Int), (L, r)) := rfl
theorem m_Delete_eq (L : List api_Msg) (i j : Nat) (h1 : i ≤ j) (h2 : j ≤ L.length) (hl : L.length < 1000000) : slices_Delete_api_Msg_api_Msg L (i : Int) (j : Int) = some (L.take i ++ L.drop j) := by
  unfold slices_Delete_api_Msg_api_Msg
  have hm : (moved L (i : Int) (j : Int) ((L.length : Int) - (j : Int))).length = L.length := moved_len L (by omega) (by omega) (by omega) (by omega)
  rw [if_pos (by omega), if_pos (by omega), if_pos (by omega), if_pos (by omega)]
  by_cases he : i = j
  · subst he
    rw [if_pos rfl, List.take_append_drop]
  · rw [if_neg (by omega), if_pos (by omega), if_pos (by omega), if_pos (by omega), if_pos (by omega), if_pos (by omega), if_pos (by omega), if_pos (by omega), if_pos (by omega), if_pos (by omega), if_pos (by omega)]
    congr 1
    exact del_eq _ L i j h1 h2
theorem m_Remove_eq (L : List api_Msg) (r v : Int) (hl : L.length < 1000000) : ring_Ring_api_Msg_Remove (L, r) v = if 0 ≤ v ∧ v < (L.length : Int) then some (L.getD v.toNat api_Msg.z, true, (L.take v.toNat ++ L.drop (v.toNat + 1), r)) else some ((api_Msg.mk [] 0), false, (L, r)) := by
  unfold ring_Ring_api_Msg_Remove
  dsimp only
  by_cases h0 : v < 0
  · rw [if_pos h0, if_neg (by omega)]
  · rw [if_neg h0, m_Len_eq, bind_some_eq]
    dsimp only
    by_cases h1 : (L.length : Int) ≤ v
    · rw [if_pos h1, if_neg (by omega)]
    · rw [if_neg h1, if_pos (by omega), if_pos (by omega), if_pos (by omega), w64_in (by omega) (by omega)]
      obtain ⟨n, rfl⟩ : ∃ n : Nat, v = n := ⟨v.toNat, by omega⟩
      have := m_Delete_eq L n (n + 1) (by omega) (by omega) hl
      rw [show ((n + 1 : Nat) : Int) = (n : Int) + 1 from by omega] at this
      rw [this, bind_some_eq]
      rfl
theorem m_Pop_eq (L : List api_Msg) (r : Int) (hl : L.length < 1000000) : ring_Ring_api_Msg_Pop (L, r) = if 0 < L.length then some (L.getD 0 api_Msg.z, true, (L.drop 1, r)) else some ((api_Msg.mk [] 0), false, (L, r)) := by
  unfold ring_Ring_api_Msg_Pop
  dsimp only
  rw [m_Remove_eq L r 0 hl]
  by_cases h : 0 < L.length
  · rw [if_pos (by omega), bind_some_eq, if_pos h]; simp
  · rw [if_neg (by omega), bind_some_eq, if_neg h]
theorem m_Head_eq (L : List api_Msg) (r : Int) : ring_Ring_api_Msg_Head (L, r) = if 0 < L.length then some (L.getD 0 api_Msg.z, true, (L, r)) else some ((api_Msg.mk [] 0), false, (L, r)) := by
  unfold ring_Ring_api_Msg_Head
  dsimp only
  rw [m_Len_eq, bind_some_eq]
  dsimp only
  by_cases h : 0 < L.length
  · rw [if_neg (by omega), if_pos (by decide), if_pos (by omega), if_pos h]; rfl
  · rw [if_pos (by omega), if_neg h]
theorem law2_same_l (a b : List Int) (hl : a.length = b.length) (hb : a.length < 1000000) : ∀ m n k, n + m = a.length → m < k → law2_same_l0 k a b ((n : Nat) : Int) = some (decide (a.drop n = b.drop n)) := by
  intro m
  induction m with
  | zero =>
    intro n k h hk
    obtain ⟨k, rfl⟩ : ∃ j, k = j + 1 := ⟨k - 1, by omega⟩
    simp only [law2_same_l0]
    rw [if_neg (by omega), List.drop_eq_nil_of_le (by omega), List.drop_eq_nil_of_le (by omega)]
    simp
  | succ m ih =>
    intro n k h hk
    obtain ⟨k, rfl⟩ : ∃ j, k = j + 1 := ⟨k - 1, by omega⟩
    simp only [law2_same_l0]
    have h1 : n < a.length := by omega
    have h2 : n < b.length := by omega
    rw [if_pos (by omega), if_pos (by omega), if_pos (by omega), if_pos (by omega), if_pos (by omega), w64_in (by omega) (by omega), Int.toNat_natCast, getD_lt _ h1, getD_lt _ h2]
    have e1 := List.drop_eq_getElem_cons h1
    have e2 := List.drop_eq_getElem_cons h2
    by_cases he : a[n] = b[n]
    · rw [if_neg (by simp [he]), show (n : Int) + 1 = ((n + 1 : Nat) : Int) from by omega, ih (n + 1) k (by omega) (by omega)]
      have e : (List.drop n a = List.drop n b) ↔ (List.drop (n + 1) a = List.drop (n + 1) b) := by rw [e1, e2, he, List.cons.injEq]; exact ⟨fun h => h.2, fun h => ⟨rfl, h⟩⟩
      simp only [e]
    · rw [if_pos (by simpa using he)]
      have e : ¬ List.drop n a = List.drop n b := by rw [e1, e2, List.cons.injEq]; exact fun h => he h.1
      rw [decide_eq_false e]
theorem law2_same_dec (a b : List Int) (hb : a.length < 1000000) : law2_same a b = some (decide (a = b)) := by
  refine lim_eq (a.length + 1) fun k hk => ?_
  show law2_same_f k a b = _
  unfold law2_same_f
  by_cases hl : a.length = b.length
  · rw [if_neg (by omega)]
    have := law2_same_l a b hl hb a.length 0 k (by omega) (by omega)
    rw [List.drop_zero, List.drop_zero] at this
    exact this
  · rw [if_pos (by omega)]
    have : a ≠ b := fun e => hl (by rw [e])
    simp [this]
theorem msg_ext {a b : api_Msg} (h1 : a.Event = b.Event) (h2 : a.N = b.N) : a = b := by cases a; cases b; cases h1; cases h2; rfl
theorem law2_msgs_l (a b : List api_Msg) (hl : a.length = b.length) (hb : a.length < 1000000) : ∀ m n k, n + m = a.length → m < k → law2_msgs_l0 k a b ((n : Nat) : Int) = some (decide (a.drop n = b.drop n)) := by
  intro m
  induction m with
  | zero =>
    intro n k h hk
    obtain ⟨k, rfl⟩ : ∃ j, k = j + 1 := ⟨k - 1, by omega⟩
    simp only [law2_msgs_l0]
    rw [if_neg (by omega), List.drop_eq_nil_of_le (by omega), List.drop_eq_nil_of_le (by omega)]
    simp
  | succ m ih =>
    intro n k h hk
    obtain ⟨k, rfl⟩ : ∃ j, k = j + 1 := ⟨k - 1, by omega⟩
    simp only [law2_msgs_l0]
    have h1 : n < a.length := by omega
    have h2 : n < b.length := by omega
    rw [if_pos (by omega), if_pos (by omega), if_pos (by omega), if_pos (by omega), if_pos (by omega), w64_in (by omega) (by omega), Int.toNat_natCast, getD_lt _ h1, getD_lt _ h2]
    have e1 := List.drop_eq_getElem_cons h1
    have e2 := List.drop_eq_getElem_cons h2
    by_cases he : a[n] = b[n]
    · rw [if_neg (by simp [he]), show (n : Int) + 1 = ((n + 1 : Nat) : Int) from by omega, ih (n + 1) k (by omega) (by omega)]
      have e : (List.drop n a = List.drop n b) ↔ (List.drop (n + 1) a = List.drop (n + 1) b) := by rw [e1, e2, he, List.cons.injEq]; exact ⟨fun h => h.2, fun h => ⟨rfl, h⟩⟩
      simp only [e]
    · rw [if_pos (by intro h; exact he (msg_ext h.1 h.2))]
      have e : ¬ List.drop n a = List.drop n b := by rw [e1, e2, List.cons.injEq]; exact fun h => he h.1
      rw [decide_eq_false e]
theorem law2_msgs_dec (a b : List api_Msg) (hb : a.length < 1000000) : law2_msgs a b = some (decide (a = b)) := by
  refine lim_eq (a.length + 1) fun k hk => ?_
  show law2_msgs_f k a b = _
  unfold law2_msgs_f
  by_cases hl : a.length = b.length
  · rw [if_neg (by omega)]
    have := law2_msgs_l a b hl hb a.length 0 k (by omega) (by omega)
    rw [List.drop_zero, List.drop_zero] at this
    exact this
  · rw [if_pos (by omega)]
    have : a ≠ b := fun e => hl (by rw [e])
    simp [this]
theorem New_eq (r : Int) : ring_New_int r = if 0 ≤ r ∧ r ≤ 65536 then some (some ([], r), 0) else some (none, 1) := by
  unfold ring_New_int
  by_cases h : r < 0
  · rw [if_pos h, if_neg (by omega)]
  · by_cases h2 : 65536 < r
    · rw [if_neg h, if_pos h2, if_neg (by omega)]
    · rw [if_neg h, if_neg h2, if_pos (by omega)]
theorem mNew_eq (r : Int) : ring_New_api_Msg r = if 0 ≤ r ∧ r ≤ 65536 then some (some ([], r), 0) else some (none, 1) := by
  unfold ring_New_api_Msg
  by_cases h : r < 0
  · rw [if_pos h, if_neg (by omega)]
  · by_cases h2 : 65536 < r
    · rw [if_neg h, if_pos h2, if_neg (by omega)]
    · rw [if_neg h, if_neg h2, if_pos (by omega)]
theorem known_eq : law2_known = some true := by
  unfold law2_known
  rw [New_eq, if_pos (by decide), bind_some_eq]
  dsimp only
  rw [if_neg (by decide), i_Push_eq _ _ _ (by decide) (by decide), if_pos (by decide), bind_some_eq]
  dsimp only
  rw [i_Push_eq _ _ _ (by decide) (by decide), if_pos (by decide), bind_some_eq]
  dsimp only
  rw [i_Push_eq _ _ _ (by decide) (by decide), if_neg (by decide), bind_some_eq]
  dsimp only
  rw [i_Pop_eq _ _ (by decide), if_pos (by decide), bind_some_eq]
  dsimp only
  rw [i_Push_eq _ _ _ (by decide) (by decide), if_pos (by decide), bind_some_eq]
  dsimp only
  rw [i_All_eq _ _ (by decide), bind_some_eq]
  decide
theorem None_true (x v : Int) : law2_RingNone x v = some true := by
  unfold law2_RingNone
  rw [known_eq]
  have h : ∀ v, ring_Ring_int_Remove_1 () v = some (0, false) := by
    intro v
    unfold ring_Ring_int_Remove_1
    split
    · rfl
    · rename_i h
      unfold ring_Ring_int_Len_1
      rw [bind_some_eq]
      rw [if_pos (by omega)]
  simp only [ring_Ring_int_Pop_1, h, bind_some_eq, ring_Ring_int_Head_1, ring_Ring_int_Len_1, ring_Ring_int_Push_1, ring_Ring_int_Room_1, ring_Ring_int_All_1, ring_Ring_int_Clear_1, if_true, Bool.not_false, cond_true]
  rfl
end Go.Sy.Ri
/-! The Ring: messages; what is told is one's own. -/
namespace Go.Sy.Ri
open Go.Sy
theorem msgs_l1 (room : Int) (l : List api_Msg) (hr : 0 ≤ room ∧ room ≤ 255) (hl : l.length ≤ 300) (N : Nat) (hN : N ≤ l.length) : ∀ m n k, n + m = N → m < k → law2_RingMsgs_l1 k room l ((l.take N).drop n) room (N : Int) ((n : Nat) : Int) = some true := by
  intro m
  induction m with
  | zero =>
    intro n k h hk
    obtain ⟨k, rfl⟩ : ∃ j, k = j + 1 := ⟨k - 1, by omega⟩
    have hn : (l.take N).drop n = [] := List.drop_eq_nil_of_le (by simp; omega)
    simp only [law2_RingMsgs_l1]
    rw [if_neg (by omega), hn, m_Pop_eq _ _ (by decide), if_neg (by decide), bind_some_eq]
    dsimp only
    rw [Bool.not_false, cond_true, m_Len_eq, bind_some_eq]
    dsimp only
    rw [if_pos (by decide), m_Room_eq _ _ (by decide) (by omega), bind_some_eq]
    dsimp only
    rw [w64_in (by omega) (by omega), if_pos (by simp), known_eq]; rfl
  | succ m ih =>
    intro n k h hk
    obtain ⟨k, rfl⟩ : ∃ j, k = j + 1 := ⟨k - 1, by omega⟩
    have hlen : ((l.take N).drop n).length = N - n := by simp; omega
    have h0 : 0 < ((l.take N).drop n).length := by omega
    have hnl : n < l.length := by omega
    have hg : ((l.take N).drop n).getD 0 api_Msg.z = l.getD n api_Msg.z := by
      rw [getD_lt _ h0, getD_lt _ hnl]; simp
    have hd : ((l.take N).drop n).drop 1 = (l.take N).drop (n + 1) := by rw [List.drop_drop]
    simp only [law2_RingMsgs_l1]
    rw [if_pos (by omega), m_Head_eq, if_pos h0, bind_some_eq]
    dsimp only
    rw [m_Pop_eq _ _ (by omega), if_pos h0, bind_some_eq]
    dsimp only
    rw [hg, hd, Bool.not_true, cond_false, if_pos (by omega), if_pos (by omega), Int.toNat_natCast, if_neg (by simp), if_pos (by omega), if_pos (by omega), cond_false, if_neg (by simp), w64_in (by omega) (by omega)]
    exact ih (n + 1) k (by omega) (by omega)
theorem msgs_l0 (room : Int) (l : List api_Msg) (hr : 0 ≤ room ∧ room ≤ 255) (hl : l.length ≤ 300) : ∀ m n k, n + m = l.length → m + l.length + 2 < k → law2_RingMsgs_l0 k room l (l.take (min n room.toNat)) room ((n : Nat) : Int) = some true := by
  intro m
  induction m with
  | zero =>
    intro n k h hk
    obtain ⟨k, rfl⟩ : ∃ j, k = j + 1 := ⟨k - 1, by omega⟩
    simp only [law2_RingMsgs_l0]
    obtain rfl : n = l.length := by omega
    have e : min room (l.length : Int) = ((min l.length room.toNat : Nat) : Int) := by omega
    rw [if_neg (by omega), m_All_eq _ _ (by simp; omega), bind_some_eq]
    dsimp only
    rw [w64_in (by omega) (by omega), e]
    generalize hN : min l.length room.toNat = N
    have hc : cut l 0 (N : Int) = l.take N := by unfold cut; simp
    rw [if_pos (by omega), if_pos (by omega), hc, law2_msgs_dec _ _ (by simp; omega), bind_some_eq, decide_eq_true rfl, Bool.not_true, cond_false]
    have := msgs_l1 room l hr hl N (by omega) N 0 k (by omega) (by omega)
    rw [List.drop_zero] at this
    exact this
  | succ m ih =>
    intro n k h hk
    obtain ⟨k, rfl⟩ : ∃ j, k = j + 1 := ⟨k - 1, by omega⟩
    simp only [law2_RingMsgs_l0]
    have hnl : n < l.length := by omega
    have hlen : (l.take (min n room.toNat)).length = min n room.toNat := by simp; omega
    have hi := ih (n + 1) k (by omega) (by omega)
    rw [if_pos (by omega), if_pos (by omega), if_pos (by omega), Int.toNat_natCast, m_Push_eq _ _ _ (by omega) (by omega), hlen, w64_in (n := room) (by omega) (by omega), w64_in (n := (n : Int) + 1) (by omega) (by omega)]
    by_cases hlt : (n : Int) < room
    · rw [if_pos (by omega), bind_some_eq]
      dsimp only
      rw [decide_eq_true hlt, if_neg (by simp)]
      have e : l.take (min n room.toNat) ++ [l.getD n api_Msg.z] = l.take (min (n + 1) room.toNat) := by
        rw [Nat.min_eq_left (by omega), Nat.min_eq_left (by omega), getD_lt _ hnl, List.take_append_getElem]
      rw [e]; exact hi
    · rw [if_neg (by omega), bind_some_eq]
      dsimp only
      rw [decide_eq_false hlt, if_neg (by simp)]
      have e : min n room.toNat = min (n + 1) room.toNat := by omega
      rw [e]; exact hi
theorem Msgs_true (room : Int) (l : List api_Msg) (hr : 0 ≤ room ∧ room ≤ 255) : law2_RingMsgs room l = some true := by
  refine lim_eq (2 * l.length + 10) fun k hk => ?_
  show law2_RingMsgs_f k room l = _
  unfold law2_RingMsgs_f
  rw [w64_in (by omega) (by omega), mNew_eq, if_pos (by omega), bind_some_eq]
  dsimp only
  rw [if_neg (fun q => q rfl), if_pos rfl, known_eq]
  split
  · rfl
  · obtain ⟨k, rfl⟩ : ∃ j, k = j + 1 := ⟨k - 1, by omega⟩
    simp only [law2_RingMsgs_c0]
    have := msgs_l0 room l hr (by omega) l.length 0 k (by omega) (by omega)
    rw [Nat.zero_min, List.take_zero] at this
    exact this
theorem own_l1 (l : List Int) (v : Int) (hl : l.length ≤ 200) : ∀ m n k a, n + m = l.length → a.length = l.length → m < k → law2_RingOwn_l1 k l v l 400 a l ((n : Nat) : Int) = some true := by
  intro m
  induction m with
  | zero =>
    intro n k a h ha hk
    obtain ⟨k, rfl⟩ : ∃ j, k = j + 1 := ⟨k - 1, by omega⟩
    simp only [law2_RingOwn_l1]
    rw [if_neg (by omega), i_Remove_eq _ _ _ (by omega)]
    have w1 : w64 ((l.length : Int) + 1) = (l.length : Int) + 1 := w64_in (by omega) (by omega)
    have w2 : w64 ((l.length : Int) + 1 - 1) = (l.length : Int) := by rw [w64_in (by omega) (by omega)]; omega
    have go : ∀ (X : List Int), X.length ≤ 200 → ring_Ring_int_Push (X, 400) 7 = some (true, (X ++ [7], 400)) := fun X hX => by
      rw [i_Push_eq _ _ _ (by omega) (by omega), if_pos (by omega)]
    have clr : ∀ (X : List Int), X.length ≤ 201 → ring_Ring_int_Clear (X, 400) = some (X, ([], 400)) := fun X hX => by
      unfold ring_Ring_int_Clear
      dsimp only
      rw [i_All_eq _ _ (by omega), bind_some_eq]
    by_cases hin : 0 ≤ v ∧ v < (l.length : Int)
    · have hX : (l.take v.toNat ++ l.drop (v.toNat + 1)).length = l.length - 1 := by simp; omega
      rw [if_pos hin, bind_some_eq]
      dsimp only
      rw [go _ (by omega), bind_some_eq, law2_same_dec _ _ (by omega), bind_some_eq, decide_eq_true rfl, Bool.not_true, cond_false]
      dsimp only
      rw [clr _ (by simp; omega), bind_some_eq]
      dsimp only
      have hX1 : ((l.take v.toNat ++ l.drop (v.toNat + 1) ++ [7]).length : Int) = (l.length : Int) := by rw [List.length_append, hX]; simp; omega
      have hg : (l.take v.toNat ++ l.drop (v.toNat + 1) ++ [7]).getD ((l.length : Int) - 1).toNat 0 = 7 := by
        rw [List.getD_eq_getElem?_getD, List.getElem?_append_right (by omega), hX]
        simp
      rw [if_pos hin.1, if_pos hin.2, w1, w2, hX1, if_pos rfl, if_pos (by omega), w64_in (n := (l.length : Int) - 1) (by omega) (by omega), if_pos (by omega), if_pos (by omega), if_pos hg, i_Len_eq, bind_some_eq]
      dsimp only
      rw [if_pos (by simp), known_eq]; rfl
    · rw [if_neg hin, bind_some_eq]
      dsimp only
      rw [go _ (by omega), bind_some_eq, law2_same_dec _ _ (by omega), bind_some_eq, decide_eq_true rfl, Bool.not_true, cond_false]
      dsimp only
      rw [clr _ (by simp; omega), bind_some_eq]
      dsimp only
      have hX1 : ((l ++ [7]).length : Int) = (l.length : Int) + 1 := by simp
      have hg : (l ++ [7]).getD ((l.length : Int)).toNat 0 = 7 := by
        rw [List.getD_eq_getElem?_getD, List.getElem?_append_right (by omega)]
        simp
      have fin : ∀ (P : Prop) [Decidable P], P → ((ring_Ring_int_Len (([] : List Int), 400)).bind fun r14 => if r14.1 = 0 then (law2_known).bind fun r15 => some r15 else some false) = some true := fun P _ _ => by
        rw [i_Len_eq, bind_some_eq]
        dsimp only
        rw [if_pos (by simp), known_eq]; rfl
      by_cases h0 : 0 ≤ v
      · rw [if_pos h0, if_neg (by omega), w1, w2, hX1, if_pos rfl, if_pos (by omega), if_pos (by omega), if_pos (by omega), if_pos hg]
        exact fin True trivial
      · rw [if_neg h0, w1, w2, hX1, if_pos rfl, if_pos (by omega), if_pos (by omega), if_pos (by omega), if_pos hg]
        exact fin True trivial
  | succ m ih =>
    intro n k a h ha hk
    obtain ⟨k, rfl⟩ : ∃ j, k = j + 1 := ⟨k - 1, by omega⟩
    simp only [law2_RingOwn_l1]
    rw [if_pos (by omega), if_pos (by omega), if_pos (by omega), if_pos (by decide), if_pos (by omega), if_pos (by omega), w64_in (n := (n : Int) + 1) (by omega) (by omega)]
    exact ih (n + 1) k _ (by omega) (by simpa using ha) (by omega)
theorem own_l0 (l : List Int) (v : Int) (hl : l.length ≤ 200) : ∀ m n k, n + m = l.length → m + l.length + 2 < k → law2_RingOwn_l0 k l v (l.take n) 400 ((n : Nat) : Int) = some true := by
  intro m
  induction m with
  | zero =>
    intro n k h hk
    obtain ⟨k, rfl⟩ : ∃ j, k = j + 1 := ⟨k - 1, by omega⟩
    simp only [law2_RingOwn_l0]
    obtain rfl : n = l.length := by omega
    rw [if_neg (by omega), List.take_length, i_All_eq _ _ (by omega), bind_some_eq]
    dsimp only
    rw [i_All_eq _ _ (by omega), bind_some_eq]
    exact own_l1 l v hl l.length 0 k l (by omega) rfl (by omega)
  | succ m ih =>
    intro n k h hk
    obtain ⟨k, rfl⟩ : ∃ j, k = j + 1 := ⟨k - 1, by omega⟩
    simp only [law2_RingOwn_l0]
    have hnl : n < l.length := by omega
    have hlen : (l.take n).length = n := by simp; omega
    have hi := ih (n + 1) k (by omega) (by omega)
    rw [if_pos (by omega), if_pos (by omega), if_pos (by omega), Int.toNat_natCast, i_Push_eq _ _ _ (by omega) (by omega), hlen, if_pos (by omega), bind_some_eq, w64_in (n := (n : Int) + 1) (by omega) (by omega), getD_lt _ hnl]
    dsimp only
    rw [List.take_append_getElem]
    exact hi
theorem Own_true (l : List Int) (v : Int) : law2_RingOwn l v = some true := by
  refine lim_eq (2 * l.length + 10) fun k hk => ?_
  show law2_RingOwn_f k l v = _
  unfold law2_RingOwn_f
  rw [New_eq, if_pos (by omega), bind_some_eq]
  dsimp only
  rw [if_neg (fun q => q rfl), if_pos rfl, known_eq]
  split
  · rfl
  · obtain ⟨k, rfl⟩ : ∃ j, k = j + 1 := ⟨k - 1, by omega⟩
    simp only [law2_RingOwn_c0]
    exact own_l0 l v (by omega) l.length 0 k (by omega) (by omega)
end Go.Sy.Ri
/-! The Ring: plays. -/
namespace Go.Sy.Ri
open Go.Sy
theorem c0_eq (k : Nat) (room : Int) (l : List law2_Step) (L : List Int) (n : Nat) (hr : 0 ≤ room ∧ room ≤ 65536) (hl : L.length ≤ 1000) (hn : n ≤ 1000) : law2_RingPlays_c0 (k + 1) room l L room L (n : Int) = law2_RingPlays_l0 k room l L room L ((n + 1 : Nat) : Int) := by
  simp only [law2_RingPlays_c0]
  rw [i_All_eq _ _ (by omega), bind_some_eq]
  dsimp only
  rw [law2_same_dec _ _ (by omega), bind_some_eq, decide_eq_true rfl, Bool.not_true, cond_false, i_Len_eq, bind_some_eq]
  dsimp only
  rw [if_neg (fun q => q rfl), i_Room_eq _ _ (by omega) hr, bind_some_eq]
  dsimp only
  rw [w64_in (by omega) (by omega), if_neg (fun q => q rfl), w64_in (by omega) (by omega)]
  rfl
theorem clr_eq (X : List Int) (r : Int) (hX : X.length ≤ 1000) : ring_Ring_int_Clear (X, r) = some (X, ([], r)) := by
  unfold ring_Ring_int_Clear
  dsimp only
  rw [i_All_eq _ _ (by omega), bind_some_eq]
set_option maxHeartbeats 2000000 in
theorem plays_step (k : Nat) (room : Int) (l : List law2_Step) (L : List Int) (n : Nat) (hr : 0 ≤ room ∧ room ≤ 65536) (hl : l.length ≤ 300) (hn : n < l.length) (hL : (L.length : Int) ≤ room) (hLn : L.length ≤ n) :
    ∃ L', (L'.length : Int) ≤ room ∧ L'.length ≤ n + 1 ∧ law2_RingPlays_l0 (k + 2) room l L room L (n : Int) = law2_RingPlays_l0 k room l L' room L' ((n + 1 : Nat) : Int) := by
  have fin : ∀ L' : List Int, (L'.length : Int) ≤ room → L'.length ≤ n + 1 → ∃ L'', (L''.length : Int) ≤ room ∧ L''.length ≤ n + 1 ∧ law2_RingPlays_c0 (k + 1) room l L' room L' (n : Int) = law2_RingPlays_l0 k room l L'' room L'' ((n + 1 : Nat) : Int) := fun L' h1 h2 => ⟨L', h1, h2, c0_eq k room l L' n hr (by omega) (by omega)⟩
  simp only [law2_RingPlays_l0]
  have g0 : 0 ≤ (n : Int) := by omega
  have g1 : (n : Int) < (l.length : Int) := by omega
  have z0 : (0 : Int) ≤ 0 := by decide
  have z1 : (0 : Int) ≤ 1 := by decide
  simp only [g0, g1, if_true, Int.toNat_natCast, z0, z1]
  have hclr := clr_eq L room (by omega)
  have hsame : law2_same L L = some true := by rw [law2_same_dec _ _ (by omega), decide_eq_true rfl]
  have hpush := i_Push_eq L room (l.getD n law2_Step.z).X hL hr.2
  have hpop := i_Pop_eq L room (by omega)
  have hhead := i_Head_eq L room
  have hrem := i_Remove_eq L room (l.getD n law2_Step.z).X (by omega)
  have lim1 : (L.length + [(l.getD n law2_Step.z).X].length) * 8 ≤ 140737488355328 := by simp only [List.length_append, List.length_take, List.length_drop, List.length_cons, List.length_nil]; omega
  have lim2 : (([] : List Int).length + (cut L 0 (l.getD n law2_Step.z).X).length) * 8 ≤ 140737488355328 := by unfold cut; simp; omega
  have hc1 : cutFrom L 1 = L.drop 1 := rfl
  have e0 : (0 : Int).toNat = 0 := rfl
  by_cases hlt : (L.length : Int) < room
  · rw [if_pos hlt] at hpush
    by_cases hp : 0 < L.length
    · have hp' : (0 : Int) < (L.length : Int) := by omega
      have hp1 : (1 : Int) ≤ (L.length : Int) := by omega
      rw [if_pos hp] at hpop hhead
      by_cases hx0 : 0 ≤ (l.getD n law2_Step.z).X
      · by_cases hx : (l.getD n law2_Step.z).X < (L.length : Int)
        · have hxi : 0 ≤ (l.getD n law2_Step.z).X ∧ (l.getD n law2_Step.z).X < (L.length : Int) := ⟨hx0, hx⟩
          have hxle : (l.getD n law2_Step.z).X ≤ (L.length : Int) := by omega
          have hxw : w64 ((l.getD n law2_Step.z).X + 1) = (l.getD n law2_Step.z).X + 1 := w64_in (by omega) (by omega)
          have hx1 : 0 ≤ (l.getD n law2_Step.z).X + 1 := by omega
          have hx2 : (l.getD n law2_Step.z).X + 1 ≤ (L.length : Int) := by omega
          have hcc : (([] : List Int) ++ cut L 0 (l.getD n law2_Step.z).X) ++ cutFrom L ((l.getD n law2_Step.z).X + 1) = L.take (l.getD n law2_Step.z).X.toNat ++ L.drop ((l.getD n law2_Step.z).X.toNat + 1) := by
            unfold cut cutFrom
            rw [show ((l.getD n law2_Step.z).X + 1).toNat = (l.getD n law2_Step.z).X.toNat + 1 from by omega]; simp
          have hcl : (L.take (l.getD n law2_Step.z).X.toNat ++ L.drop ((l.getD n law2_Step.z).X.toNat + 1)).length = L.length - 1 := by simp only [List.length_append, List.length_take, List.length_drop, List.length_cons, List.length_nil]; omega
          have lim3 : ((([] : List Int) ++ cut L 0 (l.getD n law2_Step.z).X).length + (cutFrom L ((l.getD n law2_Step.z).X + 1)).length) * 8 ≤ 140737488355328 := by
            have := congrArg List.length hcc
            rw [List.length_append, hcl] at this
            omega
          rw [if_pos hxi] at hrem
          simp only [hpush, hlt, lim1, hpop, hhead, hrem, hclr, hsame, bind_some_eq, hp', hp1, decide_true, decide_false, ne_eq, not_true_eq_false, not_false_eq_true, if_false, if_true, cond_true, cond_false, Bool.not_true, Bool.not_false, hc1, e0, hx0, hx, hxle, hxw, hx1, hx2, lim2, lim3, hcc, Bool.false_eq_true, Bool.true_eq_false]
          repeat' split
          all_goals first
            | exact fin L hL (Nat.le_succ_of_le hLn)
            | exact fin _ (by simp only [List.length_append, List.length_take, List.length_drop, List.length_cons, List.length_nil]; omega) (by simp only [List.length_append, List.length_take, List.length_drop, List.length_cons, List.length_nil]; omega)
            | exact fin _ (by rw [hcl]; omega) (by rw [hcl]; omega)
            | omega
        · have hxi : ¬ (0 ≤ (l.getD n law2_Step.z).X ∧ (l.getD n law2_Step.z).X < (L.length : Int)) := by omega
          rw [if_neg hxi] at hrem
          simp only [hpush, hlt, lim1, hpop, hhead, hrem, hclr, hsame, bind_some_eq, hp', hp1, decide_true, decide_false, ne_eq, not_true_eq_false, not_false_eq_true, if_false, if_true, cond_true, cond_false, Bool.not_true, Bool.not_false, hc1, e0, hx0, hx, Bool.false_eq_true, Bool.true_eq_false]
          repeat' split
          all_goals first
            | exact fin L hL (Nat.le_succ_of_le hLn)
            | exact fin _ (by simp only [List.length_append, List.length_take, List.length_drop, List.length_cons, List.length_nil]; omega) (by simp only [List.length_append, List.length_take, List.length_drop, List.length_cons, List.length_nil]; omega)
            | omega
      · have hxi : ¬ (0 ≤ (l.getD n law2_Step.z).X ∧ (l.getD n law2_Step.z).X < (L.length : Int)) := by omega
        rw [if_neg hxi] at hrem
        simp only [hpush, hlt, lim1, hpop, hhead, hrem, hclr, hsame, bind_some_eq, hp', hp1, decide_true, decide_false, ne_eq, not_true_eq_false, not_false_eq_true, if_false, if_true, cond_true, cond_false, Bool.not_true, Bool.not_false, hc1, e0, hx0, Bool.false_eq_true, Bool.true_eq_false]
        repeat' split
        all_goals first
          | exact fin L hL (Nat.le_succ_of_le hLn)
          | exact fin _ (by simp only [List.length_append, List.length_take, List.length_drop, List.length_cons, List.length_nil]; omega) (by simp only [List.length_append, List.length_take, List.length_drop, List.length_cons, List.length_nil]; omega)
          | omega
    · have hp' : ¬ (0 : Int) < (L.length : Int) := by omega
      rw [if_neg hp] at hpop hhead
      have hxi : ¬ (0 ≤ (l.getD n law2_Step.z).X ∧ (l.getD n law2_Step.z).X < (L.length : Int)) := by omega
      rw [if_neg hxi] at hrem
      by_cases hx0 : 0 ≤ (l.getD n law2_Step.z).X
      · have hx : ¬ (l.getD n law2_Step.z).X < (L.length : Int) := by omega
        simp only [hpush, hlt, lim1, hpop, hhead, hrem, hclr, hsame, bind_some_eq, hp', decide_true, decide_false, ne_eq, not_true_eq_false, not_false_eq_true, if_false, if_true, cond_true, cond_false, Bool.not_true, Bool.not_false, hc1, e0, hx0, hx, Bool.false_eq_true, Bool.true_eq_false]
        repeat' split
        all_goals first
          | exact fin L hL (Nat.le_succ_of_le hLn)
          | exact fin _ (by simp only [List.length_append, List.length_take, List.length_drop, List.length_cons, List.length_nil]; omega) (by simp only [List.length_append, List.length_take, List.length_drop, List.length_cons, List.length_nil]; omega)
          | omega
      · simp only [hpush, hlt, lim1, hpop, hhead, hrem, hclr, hsame, bind_some_eq, hp', decide_true, decide_false, ne_eq, not_true_eq_false, not_false_eq_true, if_false, if_true, cond_true, cond_false, Bool.not_true, Bool.not_false, hc1, e0, hx0, Bool.false_eq_true, Bool.true_eq_false]
        repeat' split
        all_goals first
          | exact fin L hL (Nat.le_succ_of_le hLn)
          | exact fin _ (by simp only [List.length_append, List.length_take, List.length_drop, List.length_cons, List.length_nil]; omega) (by simp only [List.length_append, List.length_take, List.length_drop, List.length_cons, List.length_nil]; omega)
          | omega
  · rw [if_neg hlt] at hpush
    by_cases hp : 0 < L.length
    · have hp' : (0 : Int) < (L.length : Int) := by omega
      have hp1 : (1 : Int) ≤ (L.length : Int) := by omega
      rw [if_pos hp] at hpop hhead
      by_cases hx0 : 0 ≤ (l.getD n law2_Step.z).X
      · by_cases hx : (l.getD n law2_Step.z).X < (L.length : Int)
        · have hxi : 0 ≤ (l.getD n law2_Step.z).X ∧ (l.getD n law2_Step.z).X < (L.length : Int) := ⟨hx0, hx⟩
          have hxle : (l.getD n law2_Step.z).X ≤ (L.length : Int) := by omega
          have hxw : w64 ((l.getD n law2_Step.z).X + 1) = (l.getD n law2_Step.z).X + 1 := w64_in (by omega) (by omega)
          have hx1 : 0 ≤ (l.getD n law2_Step.z).X + 1 := by omega
          have hx2 : (l.getD n law2_Step.z).X + 1 ≤ (L.length : Int) := by omega
          have hcc : (([] : List Int) ++ cut L 0 (l.getD n law2_Step.z).X) ++ cutFrom L ((l.getD n law2_Step.z).X + 1) = L.take (l.getD n law2_Step.z).X.toNat ++ L.drop ((l.getD n law2_Step.z).X.toNat + 1) := by
            unfold cut cutFrom
            rw [show ((l.getD n law2_Step.z).X + 1).toNat = (l.getD n law2_Step.z).X.toNat + 1 from by omega]; simp
          have hcl : (L.take (l.getD n law2_Step.z).X.toNat ++ L.drop ((l.getD n law2_Step.z).X.toNat + 1)).length = L.length - 1 := by simp only [List.length_append, List.length_take, List.length_drop, List.length_cons, List.length_nil]; omega
          have lim3 : ((([] : List Int) ++ cut L 0 (l.getD n law2_Step.z).X).length + (cutFrom L ((l.getD n law2_Step.z).X + 1)).length) * 8 ≤ 140737488355328 := by
            have := congrArg List.length hcc
            rw [List.length_append, hcl] at this
            omega
          rw [if_pos hxi] at hrem
          simp only [hpush, hlt, lim1, hpop, hhead, hrem, hclr, hsame, bind_some_eq, hp', hp1, decide_true, decide_false, ne_eq, not_true_eq_false, not_false_eq_true, if_false, if_true, cond_true, cond_false, Bool.not_true, Bool.not_false, hc1, e0, hx0, hx, hxle, hxw, hx1, hx2, lim2, lim3, hcc, Bool.false_eq_true, Bool.true_eq_false]
          repeat' split
          all_goals first
            | exact fin L hL (Nat.le_succ_of_le hLn)
            | exact fin _ (by simp only [List.length_append, List.length_take, List.length_drop, List.length_cons, List.length_nil]; omega) (by simp only [List.length_append, List.length_take, List.length_drop, List.length_cons, List.length_nil]; omega)
            | exact fin _ (by rw [hcl]; omega) (by rw [hcl]; omega)
            | omega
        · have hxi : ¬ (0 ≤ (l.getD n law2_Step.z).X ∧ (l.getD n law2_Step.z).X < (L.length : Int)) := by omega
          rw [if_neg hxi] at hrem
          simp only [hpush, hlt, lim1, hpop, hhead, hrem, hclr, hsame, bind_some_eq, hp', hp1, decide_true, decide_false, ne_eq, not_true_eq_false, not_false_eq_true, if_false, if_true, cond_true, cond_false, Bool.not_true, Bool.not_false, hc1, e0, hx0, hx, Bool.false_eq_true, Bool.true_eq_false]
          repeat' split
          all_goals first
            | exact fin L hL (Nat.le_succ_of_le hLn)
            | exact fin _ (by simp only [List.length_append, List.length_take, List.length_drop, List.length_cons, List.length_nil]; omega) (by simp only [List.length_append, List.length_take, List.length_drop, List.length_cons, List.length_nil]; omega)
            | omega
      · have hxi : ¬ (0 ≤ (l.getD n law2_Step.z).X ∧ (l.getD n law2_Step.z).X < (L.length : Int)) := by omega
        rw [if_neg hxi] at hrem
        simp only [hpush, hlt, lim1, hpop, hhead, hrem, hclr, hsame, bind_some_eq, hp', hp1, decide_true, decide_false, ne_eq, not_true_eq_false, not_false_eq_true, if_false, if_true, cond_true, cond_false, Bool.not_true, Bool.not_false, hc1, e0, hx0, Bool.false_eq_true, Bool.true_eq_false]
        repeat' split
        all_goals first
          | exact fin L hL (Nat.le_succ_of_le hLn)
          | exact fin _ (by simp only [List.length_append, List.length_take, List.length_drop, List.length_cons, List.length_nil]; omega) (by simp only [List.length_append, List.length_take, List.length_drop, List.length_cons, List.length_nil]; omega)
          | omega
    · have hp' : ¬ (0 : Int) < (L.length : Int) := by omega
      rw [if_neg hp] at hpop hhead
      have hxi : ¬ (0 ≤ (l.getD n law2_Step.z).X ∧ (l.getD n law2_Step.z).X < (L.length : Int)) := by omega
      rw [if_neg hxi] at hrem
      by_cases hx0 : 0 ≤ (l.getD n law2_Step.z).X
      · have hx : ¬ (l.getD n law2_Step.z).X < (L.length : Int) := by omega
        simp only [hpush, hlt, lim1, hpop, hhead, hrem, hclr, hsame, bind_some_eq, hp', decide_true, decide_false, ne_eq, not_true_eq_false, not_false_eq_true, if_false, if_true, cond_true, cond_false, Bool.not_true, Bool.not_false, hc1, e0, hx0, hx, Bool.false_eq_true, Bool.true_eq_false]
        repeat' split
        all_goals first
          | exact fin L hL (Nat.le_succ_of_le hLn)
          | exact fin _ (by simp only [List.length_append, List.length_take, List.length_drop, List.length_cons, List.length_nil]; omega) (by simp only [List.length_append, List.length_take, List.length_drop, List.length_cons, List.length_nil]; omega)
          | omega
      · simp only [hpush, hlt, lim1, hpop, hhead, hrem, hclr, hsame, bind_some_eq, hp', decide_true, decide_false, ne_eq, not_true_eq_false, not_false_eq_true, if_false, if_true, cond_true, cond_false, Bool.not_true, Bool.not_false, hc1, e0, hx0, Bool.false_eq_true, Bool.true_eq_false]
        repeat' split
        all_goals first
          | exact fin L hL (Nat.le_succ_of_le hLn)
          | exact fin _ (by simp only [List.length_append, List.length_take, List.length_drop, List.length_cons, List.length_nil]; omega) (by simp only [List.length_append, List.length_take, List.length_drop, List.length_cons, List.length_nil]; omega)
          | omega
theorem plays_l (room : Int) (l : List law2_Step) (hr : 0 ≤ room ∧ room ≤ 65536) (hl : l.length ≤ 300) : ∀ m k n (L : List Int), n + m = l.length → 2 * m < k → (L.length : Int) ≤ room → L.length ≤ n → law2_RingPlays_l0 k room l L room L ((n : Nat) : Int) = some true := by
  intro m
  induction m with
  | zero =>
    intro k n L h hk _ _
    obtain ⟨k, rfl⟩ : ∃ j, k = j + 1 := ⟨k - 1, by omega⟩
    simp only [law2_RingPlays_l0]
    rw [if_neg (by omega), known_eq]; rfl
  | succ m ih =>
    intro k n L h hk h1 h2
    obtain ⟨k, rfl⟩ : ∃ j, k = j + 2 := ⟨k - 2, by omega⟩
    obtain ⟨L', g1, g2, g3⟩ := plays_step k room l L n hr hl (by omega) h1 h2
    rw [g3]
    exact ih k (n + 1) L' (by omega) (by omega) g1 g2
theorem Plays_true (room : Int) (l : List law2_Step) (hw : -9223372036854775808 ≤ room ∧ room ≤ 9223372036854775807) : law2_RingPlays room l = some true := by
  refine lim_eq (2 * l.length + 1) fun k hk => ?_
  show law2_RingPlays_f k room l = _
  unfold law2_RingPlays_f
  rw [New_eq, known_eq]
  by_cases hr : 0 ≤ room ∧ room ≤ 65536
  · rw [if_pos hr, bind_some_eq]
    dsimp only
    rw [if_neg (by omega), if_neg (by omega), if_neg (fun q => q rfl), if_pos rfl]
    split
    · rfl
    · exact plays_l room l hr (by omega) l.length k 0 [] (by omega) (by omega) (by simp; omega) (by simp)
  · rw [if_neg hr, bind_some_eq]
    dsimp only
    rw [if_pos rfl]
    by_cases h1 : room < 0
    · rw [if_pos h1]; rfl
    · rw [if_neg h1, if_pos (by omega)]; rfl
end Go.Sy.Ri
