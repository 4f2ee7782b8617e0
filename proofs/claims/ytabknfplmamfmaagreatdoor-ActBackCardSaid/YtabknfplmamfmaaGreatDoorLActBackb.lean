import Derived.Stop.LaidErr
import Derived.Shelf.Vars
import Derived.MakeChecks
import Derived.LaidHandle
import Derived.ChangeSame
import Derived.ChangeVars
import Derived.JoinedOf
import Derived.RowKit
import Derived.HandedShaped
import Derived.LaidMore
import Derived.LaidLaws
import Derived.Lay
import Derived.Lib.ItoaMem
import Derived.Lib.ParseIntB
import Derived.Test.YtabknfplmamfmaaGreatDoorRows
import Derived.Test.YtabknfplmamfmaaGreatDoorLActBacka
set_option linter.unusedVariables false
set_option linter.unusedSimpArgs false
set_option maxRecDepth 100000
namespace Go.Sy.Ex
open Go.Sy Go.Proofs
noncomputable def expr_shape_c1 : Nat → Int → Int → (List UInt8) → (List api_Expr) → Int → Option Bool
 | 0, _, _, _, _, _ => none
 | k + 1, e_Kind, e_N, e_Name, e_Kids, e_At => if e_N = 0 then some true else if e_Kind = 1 then some (decide (0 < e_N)) else some false
noncomputable def expr_shape_c0 : Nat → Int → Int → (List UInt8) → (List api_Expr) → Int → Bool → Option Bool
 | 0, _, _, _, _, _, _ => none
 | k + 1, e_Kind, e_N, e_Name, e_Kids, e_At, named => if named ≠ (decide (e_Name ≠ [])) then
  some false else
  bif named then
  (lex_Name e_Name).bind fun r3 =>
  bif !r3 then
  some false else
  expr_shape_c1 k e_Kind e_N e_Name e_Kids e_At else
  expr_shape_c1 k e_Kind e_N e_Name e_Kids e_At
noncomputable def expr_shape_f (k : Nat) (e : api_Expr) : Option Bool := if e.Kind = 2 then
 if e.Kind < 1 then
 some false else
 if 19 < e.Kind then
 some false else
 (expr_places e.Kind).bind fun r1 =>
 if (e.Kids.length : Int) ≠ (r1.length : Int) then
 some false else
 expr_shape_c0 k e.Kind e.N e.Name e.Kids e.At true else
 if e.Kind < 1 then
 some false else
 if 19 < e.Kind then
 some false else
 (expr_places e.Kind).bind fun r2 =>
 if (e.Kids.length : Int) ≠ (r2.length : Int) then
 some false else
 expr_shape_c0 k e.Kind e.N e.Name e.Kids e.At (decide (e.Kind = 4))
noncomputable def expr_shape  (e : api_Expr) : Option Bool := lim (fun k (x : api_Expr) => expr_shape_f k x) e
noncomputable abbrev expr_shape_T : Tab S := ⟨[⟨124, [.val (.data (.int .i64))], [.val (.data (.sl (.int .i64)))], fun x => expr_places x⟩, ⟨101, [.val (.data .str)], [.val (.data .bool)], fun x => lex_Name x⟩], [], false, false, none, []⟩
noncomputable def expr_shape_L (k : Nat) : Nat → List (Lab S Bool)
 | 0 => []
 | 1 => [⟨[1, 3], [.obj [.data (.int .i64), .data (.int .i64), .data .str, .data (.sl (.st 1)), .data (.int .i64)], .val (.data .bool)], fun x => expr_shape_c0 k x.1.1 x.1.2.1 x.1.2.2.1 x.1.2.2.2.1 x.1.2.2.2.2 x.2, false⟩]
 | 2 => []
 | 3 => [⟨[1], [.obj [.data (.int .i64), .data (.int .i64), .data .str, .data (.sl (.st 1)), .data (.int .i64)]], fun x => expr_shape_c1 k x.1 x.2.1 x.2.2.1 x.2.2.2.1 x.2.2.2.2, false⟩]
 | _ + 4 => []
theorem expr_shape_eq (k : Nat) (e : api_Expr) : expr_shape_f k e = exec S (expr_shape_T) byt (labs S (expr_shape_T) (expr_shape_L k)) (ac [2, 5] Tryz.f122) (frame0 S [.val (.data (.st 1))] e) (retK S (expr_shape_T) Tryz.f122 [.val (.data (.st 1))] [.val (.data .bool)]) := by kernel_rfl
theorem expr_shape_vc (k : Nat) : VC S (expr_shape_T) byt (expr_shape_L k) (expr_shape_L (k + 1)) (ac [2, 5] Tryz.f122) (retK S (expr_shape_T) Tryz.f122 [.val (.data (.st 1))] [.val (.data .bool)]) = [∀ x : (Int × Int × List UInt8 × List api_Expr × Int), expr_shape_c1 (k + 1) x.1 x.2.1 x.2.2.1 x.2.2.2.1 x.2.2.2.2 = expr_shape_c1 (k + 1) x.1 x.2.1 x.2.2.1 x.2.2.2.1 x.2.2.2.2, ∀ x : (Int × Int × List UInt8 × List api_Expr × Int) × Bool, expr_shape_c0 (k + 1) x.1.1 x.1.2.1 x.1.2.2.1 x.1.2.2.2.1 x.1.2.2.2.2 x.2 = expr_shape_c0 (k + 1) x.1.1 x.1.2.1 x.1.2.2.1 x.1.2.2.2.1 x.1.2.2.2.2 x.2] := by kernel_rfl
theorem expr_shape_sndk (k : Nat) : Snd Tryz.prog S ⟨122, [.val (.data (.st 1))], [.val (.data .bool)], fun x => expr_shape_f k x⟩ :=
 fn_ok progOk (T := (expr_shape_T)) (all_cons expr_places_snd (all_cons lex_Name_snd (all_nil))) (all_nil) (all_nil) mixed Tryz.func122 rfl (by kernel_rfl) (ac_code [2, 5] Tryz.f122 rfl) (L := expr_shape_L)
  (fun n l h x => by match n, h with
   | 0, h => cases h
   | 1, h =>
    rcases List.mem_cons.1 h with rfl | h
    · rfl
    cases h
   | 2, h => cases h
   | 3, h =>
    rcases List.mem_cons.1 h with rfl | h
    · rfl
    cases h
   | _ + 4, h => cases h) (fun k n l h => by match n, h with
   | 0, h => cases h
   | 1, h =>
    rcases List.mem_cons.1 h with rfl | h
    · rfl
    cases h
   | 2, h => cases h
   | 3, h =>
    rcases List.mem_cons.1 h with rfl | h
    · rfl
    cases h
   | _ + 4, h => cases h)
  (fun k => All.mem (expr_shape_vc k) ⟨fun _ => rfl, ⟨fun _ => rfl, trivial⟩⟩) (fun x r h => ⟨k, (expr_shape_eq k x).symm.trans h⟩) (by kernel_rfl) (by kernel_rfl) (Nat.le_of_ble_eq_true (by kernel_rfl)) (by kernel_rfl)
theorem expr_shape_snd : Snd Tryz.prog S ⟨122, [.val (.data (.st 1))], [.val (.data .bool)], fun x => expr_shape x⟩ := Snd.lim (expr_shape_sndk)
noncomputable def expr_right_l0 (self_expr_right : api_Expr → Int → Int → Option Bool) : Nat → Int → Int → Int → (List UInt8) → (List api_Expr) → Int → (List Int) → Int → Int → Option Bool
 | 0, _, _, _, _, _, _, _, _, _ => none
 | k + 1, v_open, e_Kind, e_N, e_Name, e_Kids, e_At, x29, x30, x31 => if x31 < x30 then
  if 0 ≤ x31 then
  if x31 < (x29.length : Int) then
  if 0 ≤ x31 then
  if x31 < (e_Kids.length : Int) then
  (self_expr_right (e_Kids.getD x31.toNat api_Expr.z) (x29.getD x31.toNat 0) v_open).bind fun r9 =>
  bif !r9 then
  some false else
  expr_right_l0 self_expr_right k v_open e_Kind e_N e_Name e_Kids e_At x29 x30 (w64 (x31 + 1)) else none else none else none else none else
  some true
noncomputable def expr_right_b (self_expr_right : api_Expr → Int → Int → Option Bool) (k : Nat) (e : api_Expr) (asked : Int) (v_open : Int) : Option Bool := (expr_shape (api_Expr.mk e.Kind e.N e.Name e.Kids e.At)).bind fun r1 =>
 bif !r1 then
 some false else
 (expr_level e.Kind).bind fun r2 =>
 if r2 < asked then
 (expr_level e.Kind).bind fun r3 =>
 if r3 = 6 then
 if 12 < (w64 ((w64 (v_open + 1)) + 1)) then
 some false else
 (expr_places e.Kind).bind fun r4 =>
 expr_right_l0 self_expr_right k (w64 ((w64 (v_open + 1)) + 1)) e.Kind e.N e.Name e.Kids e.At r4 (r4.length : Int) 0 else
 if 12 < (w64 (v_open + 1)) then
 some false else
 (expr_places e.Kind).bind fun r5 =>
 expr_right_l0 self_expr_right k (w64 (v_open + 1)) e.Kind e.N e.Name e.Kids e.At r5 (r5.length : Int) 0 else
 (expr_level e.Kind).bind fun r6 =>
 if r6 = 6 then
 if 12 < (w64 (v_open + 1)) then
 some false else
 (expr_places e.Kind).bind fun r7 =>
 expr_right_l0 self_expr_right k (w64 (v_open + 1)) e.Kind e.N e.Name e.Kids e.At r7 (r7.length : Int) 0 else
 if 12 < v_open then
 some false else
 (expr_places e.Kind).bind fun r8 =>
 expr_right_l0 self_expr_right k v_open e.Kind e.N e.Name e.Kids e.At r8 (r8.length : Int) 0
noncomputable def expr_right_f : Nat → api_Expr → Int → Int → Option Bool
 | 0, _, _, _ => none
 | k + 1, x0, x1, x2 => expr_right_b (expr_right_f k) k x0 x1 x2
noncomputable def expr_right  (e : api_Expr) (asked : Int) (v_open : Int) : Option Bool := lim (fun k (x : api_Expr × Int × Int) => expr_right_f k x.1 x.2.1 x.2.2) (e, asked, v_open)
noncomputable abbrev expr_right_T (self_expr_right : api_Expr → Int → Int → Option Bool) : Tab S := ⟨[⟨122, [.val (.data (.st 1))], [.val (.data .bool)], fun x => expr_shape x⟩, ⟨123, [.val (.data (.int .i64))], [.val (.data (.int .i64))], fun x => expr_level x⟩, ⟨124, [.val (.data (.int .i64))], [.val (.data (.sl (.int .i64)))], fun x => expr_places x⟩, ⟨103, [.val (.data (.st 1)), .val (.data (.int .i64)), .val (.data (.int .i64))], [.val (.data .bool)], fun x => self_expr_right x.1 x.2.1 x.2.2⟩], [], false, false, none, []⟩
noncomputable def expr_right_L (self_expr_right : api_Expr → Int → Int → Option Bool) (k : Nat) : Nat → List (Lab S Bool)
 | 0 => [⟨[2, 3, 29, 30, 31], [.val (.data (.int .i64)), .obj [.data (.int .i64), .data (.int .i64), .data .str, .data (.sl (.st 1)), .data (.int .i64)], .val (.data (.sl (.int .i64))), .val (.data (.int .i64)), .val (.data (.int .i64))], fun x => expr_right_l0 self_expr_right k x.1 x.2.1.1 x.2.1.2.1 x.2.1.2.2.1 x.2.1.2.2.2.1 x.2.1.2.2.2.2 x.2.2.1 x.2.2.2.1 x.2.2.2.2, false⟩]
 | _ + 1 => []
theorem expr_right_eq (self_expr_right : api_Expr → Int → Int → Option Bool) (k : Nat) (e : api_Expr) (asked : Int) (v_open : Int) : expr_right_b self_expr_right k e asked v_open = exec S (expr_right_T self_expr_right) byt (labs S (expr_right_T self_expr_right) (expr_right_L self_expr_right k)) (ac [] Tryz.f103) (frame0 S [.val (.data (.st 1)), .val (.data (.int .i64)), .val (.data (.int .i64))] (e, asked, v_open)) (retK S (expr_right_T self_expr_right) Tryz.f103 [.val (.data (.st 1)), .val (.data (.int .i64)), .val (.data (.int .i64))] [.val (.data .bool)]) := by kernel_rfl
theorem expr_right_vc (self_expr_right : api_Expr → Int → Int → Option Bool) (k : Nat) : VC S (expr_right_T self_expr_right) byt (expr_right_L self_expr_right k) (expr_right_L self_expr_right (k + 1)) (ac [] Tryz.f103) (retK S (expr_right_T self_expr_right) Tryz.f103 [.val (.data (.st 1)), .val (.data (.int .i64)), .val (.data (.int .i64))] [.val (.data .bool)]) = [∀ x : Int × (Int × Int × List UInt8 × List api_Expr × Int) × List Int × Int × Int, expr_right_l0 self_expr_right (k + 1) x.1 x.2.1.1 x.2.1.2.1 x.2.1.2.2.1 x.2.1.2.2.2.1 x.2.1.2.2.2.2 x.2.2.1 x.2.2.2.1 x.2.2.2.2 = expr_right_l0 self_expr_right (k + 1) x.1 x.2.1.1 x.2.1.2.1 x.2.1.2.2.1 x.2.1.2.2.2.1 x.2.1.2.2.2.2 x.2.2.1 x.2.2.2.1 x.2.2.2.2] := by kernel_rfl
theorem expr_right_sndk (self_expr_right : api_Expr → Int → Int → Option Bool) (hself : Snd Tryz.prog S ⟨103, [.val (.data (.st 1)), .val (.data (.int .i64)), .val (.data (.int .i64))], [.val (.data .bool)], fun x => self_expr_right x.1 x.2.1 x.2.2⟩) (k : Nat) : Snd Tryz.prog S ⟨103, [.val (.data (.st 1)), .val (.data (.int .i64)), .val (.data (.int .i64))], [.val (.data .bool)], fun x => expr_right_b self_expr_right k x.1 x.2.1 x.2.2⟩ :=
 fn_ok progOk (T := (expr_right_T self_expr_right)) (all_cons expr_shape_snd (all_cons expr_level_snd (all_cons expr_places_snd (all_cons hself (all_nil))))) (all_nil) (all_nil) mixed Tryz.func103 rfl (by kernel_rfl) (ac_code [] Tryz.f103 rfl) (L := expr_right_L self_expr_right)
  (fun n l h x => by match n, h with
   | 0, h =>
    rcases List.mem_cons.1 h with rfl | h
    · rfl
    cases h
   | _ + 1, h => cases h) (fun k n l h => by match n, h with
   | 0, h =>
    rcases List.mem_cons.1 h with rfl | h
    · rfl
    cases h
   | _ + 1, h => cases h)
  (fun k => All.mem (expr_right_vc self_expr_right k) ⟨fun _ => rfl, trivial⟩) (fun x r h => ⟨k, (expr_right_eq self_expr_right k x.1 x.2.1 x.2.2).symm.trans h⟩) (by kernel_rfl) (by kernel_rfl) (Nat.le_of_ble_eq_true (by kernel_rfl)) (by kernel_rfl)
theorem expr_right_sndf : ∀ k, Snd Tryz.prog S ⟨103, [.val (.data (.st 1)), .val (.data (.int .i64)), .val (.data (.int .i64))], [.val (.data .bool)], fun x => expr_right_f k x.1 x.2.1 x.2.2⟩
 | 0 => Snd.none ⟨_, Tryz.func103, by kernel_rfl, by kernel_rfl⟩ fun _ => rfl
 | k + 1 => expr_right_sndk (expr_right_f k) (expr_right_sndf k) k
theorem expr_right_snd : Snd Tryz.prog S ⟨103, [.val (.data (.st 1)), .val (.data (.int .i64)), .val (.data (.int .i64))], [.val (.data .bool)], fun x => expr_right x.1 x.2.1 x.2.2⟩ := Snd.lim (expr_right_sndf)
noncomputable def expr_Right  (e : api_Expr) : Option Bool := (expr_right (api_Expr.mk e.Kind e.N e.Name e.Kids e.At) 1 0).bind fun r1 => some r1
noncomputable abbrev expr_Right_T : Tab S := ⟨[⟨103, [.val (.data (.st 1)), .val (.data (.int .i64)), .val (.data (.int .i64))], [.val (.data .bool)], fun x => expr_right x.1 x.2.1 x.2.2⟩], [], false, false, none, []⟩
noncomputable def expr_Right_L (k : Nat) : Nat → List (Lab S Bool)
 | _ => []
theorem expr_Right_eq (k : Nat) (e : api_Expr) : expr_Right e = exec S (expr_Right_T) byt (labs S (expr_Right_T) (expr_Right_L k)) (ac [] Tryz.f77) (frame0 S [.val (.data (.st 1))] e) (retK S (expr_Right_T) Tryz.f77 [.val (.data (.st 1))] [.val (.data .bool)]) := by kernel_rfl
theorem expr_Right_vc (k : Nat) : VC S (expr_Right_T) byt (expr_Right_L k) (expr_Right_L (k + 1)) (ac [] Tryz.f77) (retK S (expr_Right_T) Tryz.f77 [.val (.data (.st 1))] [.val (.data .bool)]) = [] := by kernel_rfl
theorem expr_Right_snd : Snd Tryz.prog S ⟨77, [.val (.data (.st 1))], [.val (.data .bool)], fun x => expr_Right x⟩ :=
 fn_ok progOk (T := (expr_Right_T)) (all_cons expr_right_snd (all_nil)) (all_nil) (all_nil) mixed Tryz.func77 rfl (by kernel_rfl) (ac_code [] Tryz.f77 rfl) (L := expr_Right_L)
  (fun n l h x => by cases h) (fun k n l h => by cases h)
  (fun k => All.mem (expr_Right_vc k) trivial) (fun x r h => ⟨0, (expr_Right_eq 0 x).symm.trans h⟩) (by kernel_rfl) (by kernel_rfl) (Nat.le_of_ble_eq_true (by kernel_rfl)) (by kernel_rfl)
noncomputable def act_right_S1  (e : api_Expr) : Option Bool := (expr_Right (api_Expr.mk e.Kind e.N e.Name e.Kids e.At)).bind fun r1 => some (!r1)
noncomputable abbrev act_right_S1_T : Tab S := ⟨[⟨77, [.val (.data (.st 1))], [.val (.data .bool)], fun x => expr_Right x⟩], [], false, false, none, []⟩
noncomputable def act_right_S1_L (k : Nat) : Nat → List (Lab S Bool)
 | _ => []
theorem act_right_S1_eq (k : Nat) (e : api_Expr) : act_right_S1 e = exec S (act_right_S1_T) byt (labs S (act_right_S1_T) (act_right_S1_L k)) (ac [] Tryz.f76) (frame0 S [.val (.data (.st 1))] e) (retK S (act_right_S1_T) Tryz.f76 [.val (.data (.st 1))] [.val (.data .bool)]) := by kernel_rfl
theorem act_right_S1_vc (k : Nat) : VC S (act_right_S1_T) byt (act_right_S1_L k) (act_right_S1_L (k + 1)) (ac [] Tryz.f76) (retK S (act_right_S1_T) Tryz.f76 [.val (.data (.st 1))] [.val (.data .bool)]) = [] := by kernel_rfl
theorem act_right_S1_snd : Snd Tryz.prog S ⟨76, [.val (.data (.st 1))], [.val (.data .bool)], fun x => act_right_S1 x⟩ :=
 fn_ok progOk (T := (act_right_S1_T)) (all_cons expr_Right_snd (all_nil)) (all_nil) (all_nil) mixed Tryz.func76 rfl (by kernel_rfl) (ac_code [] Tryz.f76 rfl) (L := act_right_S1_L)
  (fun n l h x => by cases h) (fun k n l h => by cases h)
  (fun k => All.mem (act_right_S1_vc k) trivial) (fun x r h => ⟨0, (act_right_S1_eq 0 x).symm.trans h⟩) (by kernel_rfl) (by kernel_rfl) (Nat.le_of_ble_eq_true (by kernel_rfl)) (by kernel_rfl)
theorem act_right_S1_fsnd : FSnd Tryz.prog S ⟨76, [.st 1], [], [.bool], fun x c => act_right_S1 x⟩ := FSnd.of (a := [.st 1]) (c := []) (r := [.bool]) act_right_S1_snd (fun _ _ z h => ⟨z, h, rfl⟩)
noncomputable def slices_IndexFunc_api_Expr_api_Expr_l0 : Nat → (List api_Expr) → (api_Expr → Option Bool) → Int → Int → Option Int
 | 0, _, _, _, _ => none
 | k + 1, s, f, x7, x8 => if x8 < x7 then
  if 0 ≤ x8 then
  if x8 < (s.length : Int) then
  (f (s.getD x8.toNat api_Expr.z)).bind fun r1 =>
  bif r1 then
  some x8 else
  slices_IndexFunc_api_Expr_api_Expr_l0 k s f x7 (w64 (x8 + 1)) else none else none else
  some (-1)
noncomputable def slices_IndexFunc_api_Expr_api_Expr_f (k : Nat) (s : List api_Expr) (f : api_Expr → Option Bool) : Option Int := slices_IndexFunc_api_Expr_api_Expr_l0 k s f (s.length : Int) 0
noncomputable def slices_IndexFunc_api_Expr_api_Expr  (s : List api_Expr) (f : api_Expr → Option Bool) : Option Int := lim (fun k (x : List api_Expr × (api_Expr → Option Bool)) => slices_IndexFunc_api_Expr_api_Expr_f k x.1 x.2) (s, f)
noncomputable abbrev slices_IndexFunc_api_Expr_api_Expr_T : Tab S := ⟨[], [], false, false, none, []⟩
noncomputable def slices_IndexFunc_api_Expr_api_Expr_L (k : Nat) : Nat → List (Lab S Int)
 | 0 => [⟨[0, 1, 7, 8], [.val (.data (.sl (.st 1))), .fn [.st 1] [.bool], .val (.data (.int .i64)), .val (.data (.int .i64))], fun x => slices_IndexFunc_api_Expr_api_Expr_l0 k x.1 x.2.1 x.2.2.1 x.2.2.2, false⟩]
 | _ + 1 => []
theorem slices_IndexFunc_api_Expr_api_Expr_eq (k : Nat) (s : List api_Expr) (f : api_Expr → Option Bool) : slices_IndexFunc_api_Expr_api_Expr_f k s f = exec S (slices_IndexFunc_api_Expr_api_Expr_T) byt (labs S (slices_IndexFunc_api_Expr_api_Expr_T) (slices_IndexFunc_api_Expr_api_Expr_L k)) (ac [] Tryz.f102) (frame0 S [.val (.data (.sl (.st 1))), .fn [.st 1] [.bool]] (s, f)) (retK S (slices_IndexFunc_api_Expr_api_Expr_T) Tryz.f102 [.val (.data (.sl (.st 1))), .fn [.st 1] [.bool]] [.val (.data (.int .i64))]) := by kernel_rfl
theorem slices_IndexFunc_api_Expr_api_Expr_vc (k : Nat) : VC S (slices_IndexFunc_api_Expr_api_Expr_T) byt (slices_IndexFunc_api_Expr_api_Expr_L k) (slices_IndexFunc_api_Expr_api_Expr_L (k + 1)) (ac [] Tryz.f102) (retK S (slices_IndexFunc_api_Expr_api_Expr_T) Tryz.f102 [.val (.data (.sl (.st 1))), .fn [.st 1] [.bool]] [.val (.data (.int .i64))]) = [∀ x : List api_Expr × (api_Expr → Option Bool) × Int × Int, slices_IndexFunc_api_Expr_api_Expr_l0 (k + 1) x.1 x.2.1 x.2.2.1 x.2.2.2 = slices_IndexFunc_api_Expr_api_Expr_l0 (k + 1) x.1 x.2.1 x.2.2.1 x.2.2.2] := by kernel_rfl
theorem slices_IndexFunc_api_Expr_api_Expr_sndk (k : Nat) : Snd Tryz.prog S ⟨102, [.val (.data (.sl (.st 1))), .fn [.st 1] [.bool]], [.val (.data (.int .i64))], fun x => slices_IndexFunc_api_Expr_api_Expr_f k x.1 x.2⟩ :=
 fn_ok progOk (T := (slices_IndexFunc_api_Expr_api_Expr_T)) (all_nil) (all_nil) (all_nil) mixed Tryz.func102 rfl (by kernel_rfl) (ac_code [] Tryz.f102 rfl) (L := slices_IndexFunc_api_Expr_api_Expr_L)
  (fun n l h x => by match n, h with
   | 0, h =>
    rcases List.mem_cons.1 h with rfl | h
    · rfl
    cases h
   | _ + 1, h => cases h) (fun k n l h => by match n, h with
   | 0, h =>
    rcases List.mem_cons.1 h with rfl | h
    · rfl
    cases h
   | _ + 1, h => cases h)
  (fun k => All.mem (slices_IndexFunc_api_Expr_api_Expr_vc k) ⟨fun _ => rfl, trivial⟩) (fun x r h => ⟨k, (slices_IndexFunc_api_Expr_api_Expr_eq k x.1 x.2).symm.trans h⟩) (by kernel_rfl) (by kernel_rfl) (Nat.le_of_ble_eq_true (by kernel_rfl)) (by kernel_rfl)
theorem slices_IndexFunc_api_Expr_api_Expr_snd : Snd Tryz.prog S ⟨102, [.val (.data (.sl (.st 1))), .fn [.st 1] [.bool]], [.val (.data (.int .i64))], fun x => slices_IndexFunc_api_Expr_api_Expr x.1 x.2⟩ := Snd.lim (slices_IndexFunc_api_Expr_api_Expr_sndk)
noncomputable def slices_ContainsFunc_api_Expr_api_Expr  (s : List api_Expr) (f : api_Expr → Option Bool) : Option Bool := (slices_IndexFunc_api_Expr_api_Expr s f).bind fun r1 => some (decide (0 ≤ r1))
noncomputable abbrev slices_ContainsFunc_api_Expr_api_Expr_T : Tab S := ⟨[⟨102, [.val (.data (.sl (.st 1))), .fn [.st 1] [.bool]], [.val (.data (.int .i64))], fun x => slices_IndexFunc_api_Expr_api_Expr x.1 x.2⟩], [], false, false, none, []⟩
noncomputable def slices_ContainsFunc_api_Expr_api_Expr_L (k : Nat) : Nat → List (Lab S Bool)
 | _ => []
theorem slices_ContainsFunc_api_Expr_api_Expr_eq (k : Nat) (s : List api_Expr) (f : api_Expr → Option Bool) : slices_ContainsFunc_api_Expr_api_Expr s f = exec S (slices_ContainsFunc_api_Expr_api_Expr_T) byt (labs S (slices_ContainsFunc_api_Expr_api_Expr_T) (slices_ContainsFunc_api_Expr_api_Expr_L k)) (ac [] Tryz.f75) (frame0 S [.val (.data (.sl (.st 1))), .fn [.st 1] [.bool]] (s, f)) (retK S (slices_ContainsFunc_api_Expr_api_Expr_T) Tryz.f75 [.val (.data (.sl (.st 1))), .fn [.st 1] [.bool]] [.val (.data .bool)]) := by kernel_rfl
theorem slices_ContainsFunc_api_Expr_api_Expr_vc (k : Nat) : VC S (slices_ContainsFunc_api_Expr_api_Expr_T) byt (slices_ContainsFunc_api_Expr_api_Expr_L k) (slices_ContainsFunc_api_Expr_api_Expr_L (k + 1)) (ac [] Tryz.f75) (retK S (slices_ContainsFunc_api_Expr_api_Expr_T) Tryz.f75 [.val (.data (.sl (.st 1))), .fn [.st 1] [.bool]] [.val (.data .bool)]) = [] := by kernel_rfl
theorem slices_ContainsFunc_api_Expr_api_Expr_snd : Snd Tryz.prog S ⟨75, [.val (.data (.sl (.st 1))), .fn [.st 1] [.bool]], [.val (.data .bool)], fun x => slices_ContainsFunc_api_Expr_api_Expr x.1 x.2⟩ :=
 fn_ok progOk (T := (slices_ContainsFunc_api_Expr_api_Expr_T)) (all_cons slices_IndexFunc_api_Expr_api_Expr_snd (all_nil)) (all_nil) (all_nil) mixed Tryz.func75 rfl (by kernel_rfl) (ac_code [] Tryz.f75 rfl) (L := slices_ContainsFunc_api_Expr_api_Expr_L)
  (fun n l h x => by cases h) (fun k n l h => by cases h)
  (fun k => All.mem (slices_ContainsFunc_api_Expr_api_Expr_vc k) trivial) (fun x r h => ⟨0, (slices_ContainsFunc_api_Expr_api_Expr_eq 0 x.1 x.2).symm.trans h⟩) (by kernel_rfl) (by kernel_rfl) (Nat.le_of_ble_eq_true (by kernel_rfl)) (by kernel_rfl)
noncomputable def act_right_l0 (self_act_right : (List api_Act) → Int → Option Bool) : Nat → Int → (List api_Act) → Int → Int → Option Bool
 | 0, _, _, _, _ => none
 | k + 1, v_open, x10, x11, x12 => if x12 < x11 then
  if 0 ≤ x12 then
  if x12 < (x10.length : Int) then
  (act_shape (api_Act.mk ((x10.getD x12.toNat api_Act.z).Kind) ((x10.getD x12.toNat api_Act.z).Name) ((x10.getD x12.toNat api_Act.z).Event) ((x10.getD x12.toNat api_Act.z).X) ((x10.getD x12.toNat api_Act.z).N) ((x10.getD x12.toNat api_Act.z).Then) ((x10.getD x12.toNat api_Act.z).Else) ((x10.getD x12.toNat api_Act.z).At))).bind fun r1 =>
  bif !r1 then
  some false else
  (slices_ContainsFunc_api_Expr_api_Expr ((x10.getD x12.toNat api_Act.z).X) (fun y => act_right_S1 y)).bind fun r2 =>
  bif r2 then
  some false else
  if ((x10.getD x12.toNat api_Act.z).Kind) = 6 then
  (self_act_right ((x10.getD x12.toNat api_Act.z).Then) (w64 (v_open + 1))).bind fun r3 =>
  bif !r3 then
  some false else
  if 0 < (((x10.getD x12.toNat api_Act.z).Else).length : Int) then
  (self_act_right ((x10.getD x12.toNat api_Act.z).Else) (w64 (v_open + 1))).bind fun r4 =>
  bif !r4 then
  some false else
  act_right_l0 self_act_right k v_open x10 x11 (w64 (x12 + 1)) else
  act_right_l0 self_act_right k v_open x10 x11 (w64 (x12 + 1)) else
  if ((x10.getD x12.toNat api_Act.z).Kind) = 7 then
  (self_act_right ((x10.getD x12.toNat api_Act.z).Then) (w64 (v_open + 1))).bind fun r5 =>
  bif !r5 then
  some false else
  if 0 < (((x10.getD x12.toNat api_Act.z).Else).length : Int) then
  (self_act_right ((x10.getD x12.toNat api_Act.z).Else) (w64 (v_open + 1))).bind fun r6 =>
  bif !r6 then
  some false else
  act_right_l0 self_act_right k v_open x10 x11 (w64 (x12 + 1)) else
  act_right_l0 self_act_right k v_open x10 x11 (w64 (x12 + 1)) else
  if 0 < (((x10.getD x12.toNat api_Act.z).Else).length : Int) then
  (self_act_right ((x10.getD x12.toNat api_Act.z).Else) (w64 (v_open + 1))).bind fun r7 =>
  bif !r7 then
  some false else
  act_right_l0 self_act_right k v_open x10 x11 (w64 (x12 + 1)) else
  act_right_l0 self_act_right k v_open x10 x11 (w64 (x12 + 1)) else none else none else
  some true
noncomputable def act_right_b (self_act_right : (List api_Act) → Int → Option Bool) (k : Nat) (l : List api_Act) (v_open : Int) : Option Bool := if 4 < v_open then
 some false else
 act_right_l0 self_act_right k v_open l (l.length : Int) 0
noncomputable def act_right_f : Nat → (List api_Act) → Int → Option Bool
 | 0, _, _ => none
 | k + 1, x0, x1 => act_right_b (act_right_f k) k x0 x1
noncomputable def act_right  (l : List api_Act) (v_open : Int) : Option Bool := lim (fun k (x : List api_Act × Int) => act_right_f k x.1 x.2) (l, v_open)
noncomputable abbrev act_right_T (self_act_right : (List api_Act) → Int → Option Bool) : Tab S := ⟨[⟨74, [.val (.data (.st 0))], [.val (.data .bool)], fun x => act_shape x⟩, ⟨75, [.val (.data (.sl (.st 1))), .fn [.st 1] [.bool]], [.val (.data .bool)], fun x => slices_ContainsFunc_api_Expr_api_Expr x.1 x.2⟩, ⟨40, [.val (.data (.sl (.st 0))), .val (.data (.int .i64))], [.val (.data .bool)], fun x => self_act_right x.1 x.2⟩], [⟨76, [.st 1], [], [.bool], fun x c => act_right_S1 x⟩], false, false, none, []⟩
noncomputable def act_right_L (self_act_right : (List api_Act) → Int → Option Bool) (k : Nat) : Nat → List (Lab S Bool)
 | 0 => [⟨[1, 10, 11, 12], [.val (.data (.int .i64)), .val (.data (.sl (.st 0))), .val (.data (.int .i64)), .val (.data (.int .i64))], fun x => act_right_l0 self_act_right k x.1 x.2.1 x.2.2.1 x.2.2.2, false⟩]
 | _ + 1 => []
theorem act_right_eq (self_act_right : (List api_Act) → Int → Option Bool) (k : Nat) (l : List api_Act) (v_open : Int) : act_right_b self_act_right k l v_open = exec S (act_right_T self_act_right) byt (labs S (act_right_T self_act_right) (act_right_L self_act_right k)) (ac [] Tryz.f40) (frame0 S [.val (.data (.sl (.st 0))), .val (.data (.int .i64))] (l, v_open)) (retK S (act_right_T self_act_right) Tryz.f40 [.val (.data (.sl (.st 0))), .val (.data (.int .i64))] [.val (.data .bool)]) := by kernel_rfl
theorem act_right_vc (self_act_right : (List api_Act) → Int → Option Bool) (k : Nat) : VC S (act_right_T self_act_right) byt (act_right_L self_act_right k) (act_right_L self_act_right (k + 1)) (ac [] Tryz.f40) (retK S (act_right_T self_act_right) Tryz.f40 [.val (.data (.sl (.st 0))), .val (.data (.int .i64))] [.val (.data .bool)]) = [∀ x : Int × List api_Act × Int × Int, act_right_l0 self_act_right (k + 1) x.1 x.2.1 x.2.2.1 x.2.2.2 = act_right_l0 self_act_right (k + 1) x.1 x.2.1 x.2.2.1 x.2.2.2] := by kernel_rfl
theorem act_right_sndk (self_act_right : (List api_Act) → Int → Option Bool) (hself : Snd Tryz.prog S ⟨40, [.val (.data (.sl (.st 0))), .val (.data (.int .i64))], [.val (.data .bool)], fun x => self_act_right x.1 x.2⟩) (k : Nat) : Snd Tryz.prog S ⟨40, [.val (.data (.sl (.st 0))), .val (.data (.int .i64))], [.val (.data .bool)], fun x => act_right_b self_act_right k x.1 x.2⟩ :=
 fn_ok progOk (T := (act_right_T self_act_right)) (all_cons act_shape_snd (all_cons slices_ContainsFunc_api_Expr_api_Expr_snd (all_cons hself (all_nil)))) (all_nil) (all_cons act_right_S1_fsnd (all_nil)) mixed Tryz.func40 rfl (by kernel_rfl) (ac_code [] Tryz.f40 rfl) (L := act_right_L self_act_right)
  (fun n l h x => by match n, h with
   | 0, h =>
    rcases List.mem_cons.1 h with rfl | h
    · rfl
    cases h
   | _ + 1, h => cases h) (fun k n l h => by match n, h with
   | 0, h =>
    rcases List.mem_cons.1 h with rfl | h
    · rfl
    cases h
   | _ + 1, h => cases h)
  (fun k => All.mem (act_right_vc self_act_right k) ⟨fun _ => rfl, trivial⟩) (fun x r h => ⟨k, (act_right_eq self_act_right k x.1 x.2).symm.trans h⟩) (by kernel_rfl) (by kernel_rfl) (Nat.le_of_ble_eq_true (by kernel_rfl)) (by kernel_rfl)
theorem act_right_sndf : ∀ k, Snd Tryz.prog S ⟨40, [.val (.data (.sl (.st 0))), .val (.data (.int .i64))], [.val (.data .bool)], fun x => act_right_f k x.1 x.2⟩
 | 0 => Snd.none ⟨_, Tryz.func40, by kernel_rfl, by kernel_rfl⟩ fun _ => rfl
 | k + 1 => act_right_sndk (act_right_f k) (act_right_sndf k) k
theorem act_right_snd : Snd Tryz.prog S ⟨40, [.val (.data (.sl (.st 0))), .val (.data (.int .i64))], [.val (.data .bool)], fun x => act_right x.1 x.2⟩ := Snd.lim (act_right_sndf)
noncomputable def act_Right  (l : List api_Act) : Option Bool := (act_right l 1).bind fun r1 => some r1
noncomputable abbrev act_Right_T : Tab S := ⟨[⟨40, [.val (.data (.sl (.st 0))), .val (.data (.int .i64))], [.val (.data .bool)], fun x => act_right x.1 x.2⟩], [], false, false, none, []⟩
noncomputable def act_Right_L (k : Nat) : Nat → List (Lab S Bool)
 | _ => []
theorem act_Right_eq (k : Nat) (l : List api_Act) : act_Right l = exec S (act_Right_T) byt (labs S (act_Right_T) (act_Right_L k)) (ac [] Tryz.f19) (frame0 S [.val (.data (.sl (.st 0)))] l) (retK S (act_Right_T) Tryz.f19 [.val (.data (.sl (.st 0)))] [.val (.data .bool)]) := by kernel_rfl
theorem act_Right_vc (k : Nat) : VC S (act_Right_T) byt (act_Right_L k) (act_Right_L (k + 1)) (ac [] Tryz.f19) (retK S (act_Right_T) Tryz.f19 [.val (.data (.sl (.st 0)))] [.val (.data .bool)]) = [] := by kernel_rfl
theorem act_Right_snd : Snd Tryz.prog S ⟨19, [.val (.data (.sl (.st 0)))], [.val (.data .bool)], fun x => act_Right x⟩ :=
 fn_ok progOk (T := (act_Right_T)) (all_cons act_right_snd (all_nil)) (all_nil) (all_nil) mixed Tryz.func19 rfl (by kernel_rfl) (ac_code [] Tryz.f19 rfl) (L := act_Right_L)
  (fun n l h x => by cases h) (fun k n l h => by cases h)
  (fun k => All.mem (act_Right_vc k) trivial) (fun x r h => ⟨0, (act_Right_eq 0 x).symm.trans h⟩) (by kernel_rfl) (by kernel_rfl) (Nat.le_of_ble_eq_true (by kernel_rfl)) (by kernel_rfl)
noncomputable def law8_known  : Option Bool := (law8_read s_raise_e_1_loop_2_x9e436).bind fun r1 =>
 (law8_read s_x_1_x697a8).bind fun r2 =>
 bif r1.2 then
 bif !r2.2 then
 (act_Print r1.1 0).bind fun r3 =>
 if r3 = s_raise_e_1_loop_2_x18436 then
 (act_Right r1.1).bind fun r4 =>
 bif r4 then
 (act_Right [api_Act.mk 0 [] [] [] 0 [] [] 0]).bind fun r5 =>
 some (!r5) else
 some false else
 some false else
 some false else
 some false
noncomputable abbrev law8_known_T : Tab S := ⟨[⟨21, [.val (.data .str)], [.val (.town (.st 0)), .val (.data .bool)], fun x => law8_read x⟩, ⟨20, [.val (.data (.sl (.st 0))), .val (.data (.int .i64))], [.val (.data .str)], fun x => act_Print x.1 x.2⟩, ⟨19, [.val (.data (.sl (.st 0)))], [.val (.data .bool)], fun x => act_Right x⟩], [], false, false, none, []⟩
noncomputable def law8_known_L (k : Nat) : Nat → List (Lab S Bool)
 | _ => []
theorem law8_known_eq (k : Nat) : law8_known = exec S (law8_known_T) byt (labs S (law8_known_T) (law8_known_L k)) (ac [] Tryz.f9) (frame0 S [] ()) (retK S (law8_known_T) Tryz.f9 [] [.val (.data .bool)]) := by kernel_rfl
theorem law8_known_vc (k : Nat) : VC S (law8_known_T) byt (law8_known_L k) (law8_known_L (k + 1)) (ac [] Tryz.f9) (retK S (law8_known_T) Tryz.f9 [] [.val (.data .bool)]) = [] := by kernel_rfl
theorem law8_known_snd : Snd Tryz.prog S ⟨9, [], [.val (.data .bool)], fun x => law8_known⟩ :=
 fn_ok progOk (T := (law8_known_T)) (all_cons law8_read_snd (all_cons act_Print_snd (all_cons act_Right_snd (all_nil)))) (all_nil) (all_nil) mixed Tryz.func9 rfl (by kernel_rfl) (ac_code [] Tryz.f9 rfl) (L := law8_known_L)
  (fun n l h x => by cases h) (fun k n l h => by cases h)
  (fun k => All.mem (law8_known_vc k) trivial) (fun x r h => ⟨0, (law8_known_eq 0).symm.trans h⟩) (by kernel_rfl) (by kernel_rfl) (Nat.le_of_ble_eq_true (by kernel_rfl)) (by kernel_rfl)
noncomputable def law8_scope  : Option ref37_Scope := some (ref37_Scope.mk [s_x, s_y] [s_p] [s_t] [s_idle])
noncomputable abbrev law8_scope_T : Tab S := ⟨[], [], false, false, none, []⟩
noncomputable def law8_scope_L (k : Nat) : Nat → List (Lab S ref37_Scope)
 | _ => []
theorem law8_scope_eq (k : Nat) : law8_scope = exec S (law8_scope_T) byt (labs S (law8_scope_T) (law8_scope_L k)) (ac [] Tryz.f17) (frame0 S [] ()) (retK S (law8_scope_T) Tryz.f17 [] [.val (.data (.st 10))]) := by kernel_rfl
theorem law8_scope_vc (k : Nat) : VC S (law8_scope_T) byt (law8_scope_L k) (law8_scope_L (k + 1)) (ac [] Tryz.f17) (retK S (law8_scope_T) Tryz.f17 [] [.val (.data (.st 10))]) = [] := by kernel_rfl
theorem law8_scope_snd : Snd Tryz.prog S ⟨17, [], [.val (.data (.st 10))], fun x => law8_scope⟩ :=
 fn_ok progOk (T := (law8_scope_T)) (all_nil) (all_nil) (all_nil) mixed Tryz.func17 rfl (by kernel_rfl) (ac_code [] Tryz.f17 rfl) (L := law8_scope_L)
  (fun n l h x => by cases h) (fun k n l h => by cases h)
  (fun k => All.mem (law8_scope_vc k) trivial) (fun x r h => ⟨0, (law8_scope_eq 0).symm.trans h⟩) (by kernel_rfl) (by kernel_rfl) (Nat.le_of_ble_eq_true (by kernel_rfl)) (by kernel_rfl)
noncomputable def ref37_Place  (v : Int) (n : Int) : Option Int := if ¬ n = 0 then
 if (v.tmod n) < 0 then
 some (w64 ((v.tmod n) + n)) else
 some (v.tmod n) else none
noncomputable abbrev ref37_Place_T : Tab S := ⟨[], [], false, false, none, []⟩
noncomputable def ref37_Place_L (k : Nat) : Nat → List (Lab S Int)
 | _ => []
theorem ref37_Place_eq (k : Nat) (v : Int) (n : Int) : ref37_Place v n = exec S (ref37_Place_T) byt (labs S (ref37_Place_T) (ref37_Place_L k)) (ac [] Tryz.f10) (frame0 S [.val (.data (.int .i64)), .val (.data (.int .i64))] (v, n)) (retK S (ref37_Place_T) Tryz.f10 [.val (.data (.int .i64)), .val (.data (.int .i64))] [.val (.data (.int .i64))]) := by kernel_rfl
theorem ref37_Place_vc (k : Nat) : VC S (ref37_Place_T) byt (ref37_Place_L k) (ref37_Place_L (k + 1)) (ac [] Tryz.f10) (retK S (ref37_Place_T) Tryz.f10 [.val (.data (.int .i64)), .val (.data (.int .i64))] [.val (.data (.int .i64))]) = [] := by kernel_rfl
theorem ref37_Place_snd : Snd Tryz.prog S ⟨10, [.val (.data (.int .i64)), .val (.data (.int .i64))], [.val (.data (.int .i64))], fun x => ref37_Place x.1 x.2⟩ :=
 fn_ok progOk (T := (ref37_Place_T)) (all_nil) (all_nil) (all_nil) mixed Tryz.func10 rfl (by kernel_rfl) (ac_code [] Tryz.f10 rfl) (L := ref37_Place_L)
  (fun n l h x => by cases h) (fun k n l h => by cases h)
  (fun k => All.mem (ref37_Place_vc k) trivial) (fun x r h => ⟨0, (ref37_Place_eq 0 x.1 x.2).symm.trans h⟩) (by kernel_rfl) (by kernel_rfl) (Nat.le_of_ble_eq_true (by kernel_rfl)) (by kernel_rfl)
noncomputable def ref37_Row_Next  (r_ : ref37_Row) (n : Int) : Option (Int × ref37_Row) := if (r_.L.length : Int) ≤ r_.At then
 some (0, r_) else
 if 0 ≤ (w64 ((w64 (r_.At + 1)) - 1)) then
 if (w64 ((w64 (r_.At + 1)) - 1)) < (r_.L.length : Int) then
 (ref37_Place (r_.L.getD (w64 ((w64 (r_.At + 1)) - 1)).toNat 0) n).bind fun r1 =>
 some (r1, ref37_Row.mk r_.L (w64 (r_.At + 1))) else none else none
noncomputable abbrev ref37_Row_Next_T : Tab S := ⟨[⟨10, [.val (.data (.int .i64)), .val (.data (.int .i64))], [.val (.data (.int .i64))], fun x => ref37_Place x.1 x.2⟩], [], false, false, none, []⟩
noncomputable def ref37_Row_Next_L (k : Nat) : Nat → List (Lab S (Int × ref37_Row))
 | _ => []
theorem ref37_Row_Next_eq (k : Nat) (r_ : ref37_Row) (n : Int) : ref37_Row_Next r_ n = exec S (ref37_Row_Next_T) byt (labs S (ref37_Row_Next_T) (ref37_Row_Next_L k)) (ac [] Tryz.f34) (frame0 S [.obj [.data (.st 9)], .val (.data (.int .i64))] (r_, n)) (retK S (ref37_Row_Next_T) Tryz.f34 [.obj [.data (.st 9)], .val (.data (.int .i64))] [.val (.data (.int .i64))]) := by kernel_rfl
theorem ref37_Row_Next_vc (k : Nat) : VC S (ref37_Row_Next_T) byt (ref37_Row_Next_L k) (ref37_Row_Next_L (k + 1)) (ac [] Tryz.f34) (retK S (ref37_Row_Next_T) Tryz.f34 [.obj [.data (.st 9)], .val (.data (.int .i64))] [.val (.data (.int .i64))]) = [] := by kernel_rfl
theorem ref37_Row_Next_snd : Snd Tryz.prog S ⟨34, [.obj [.data (.st 9)], .val (.data (.int .i64))], [.val (.data (.int .i64))], fun x => ref37_Row_Next x.1 x.2⟩ :=
 fn_ok progOk (T := (ref37_Row_Next_T)) (all_cons ref37_Place_snd (all_nil)) (all_nil) (all_nil) mixed Tryz.func34 rfl (by kernel_rfl) (ac_code [] Tryz.f34 rfl) (L := ref37_Row_Next_L)
  (fun n l h x => by cases h) (fun k n l h => by cases h)
  (fun k => All.mem (ref37_Row_Next_vc k) trivial) (fun x r h => ⟨0, (ref37_Row_Next_eq 0 x.1 x.2).symm.trans h⟩) (by kernel_rfl) (by kernel_rfl) (Nat.le_of_ble_eq_true (by kernel_rfl)) (by kernel_rfl)
noncomputable def ref37_pick  (r_ : ref37_Row) (l : List (List UInt8)) (or : List UInt8) : Option (List UInt8 × ref37_Row) := if (l.length : Int) = 0 then
 some (or, r_) else
 (ref37_Row_Next r_ (l.length : Int)).bind fun r1 =>
 if 0 ≤ r1.1 then
 if r1.1 < (l.length : Int) then
 some (l.getD r1.1.toNat [], r1.2) else none else none
noncomputable abbrev ref37_pick_T : Tab S := ⟨[⟨34, [.obj [.data (.st 9)], .val (.data (.int .i64))], [.val (.data (.int .i64))], fun x => ref37_Row_Next x.1 x.2⟩], [], false, false, none, []⟩
noncomputable def ref37_pick_L (k : Nat) : Nat → List (Lab S (List UInt8 × ref37_Row))
 | _ => []
theorem ref37_pick_eq (k : Nat) (r_ : ref37_Row) (l : List (List UInt8)) (or : List UInt8) : ref37_pick r_ l or = exec S (ref37_pick_T) byt (labs S (ref37_pick_T) (ref37_pick_L k)) (ac [] Tryz.f36) (frame0 S [.obj [.data (.st 9)], .val (.data (.sl .str)), .val (.data .str)] (r_, l, or)) (retK S (ref37_pick_T) Tryz.f36 [.obj [.data (.st 9)], .val (.data (.sl .str)), .val (.data .str)] [.val (.data .str)]) := by kernel_rfl
theorem ref37_pick_vc (k : Nat) : VC S (ref37_pick_T) byt (ref37_pick_L k) (ref37_pick_L (k + 1)) (ac [] Tryz.f36) (retK S (ref37_pick_T) Tryz.f36 [.obj [.data (.st 9)], .val (.data (.sl .str)), .val (.data .str)] [.val (.data .str)]) = [] := by kernel_rfl
theorem ref37_pick_snd : Snd Tryz.prog S ⟨36, [.obj [.data (.st 9)], .val (.data (.sl .str)), .val (.data .str)], [.val (.data .str)], fun x => ref37_pick x.1 x.2.1 x.2.2⟩ :=
 fn_ok progOk (T := (ref37_pick_T)) (all_cons ref37_Row_Next_snd (all_nil)) (all_nil) (all_nil) mixed Tryz.func36 rfl (by kernel_rfl) (ac_code [] Tryz.f36 rfl) (L := ref37_pick_L)
  (fun n l h x => by cases h) (fun k n l h => by cases h)
  (fun k => All.mem (ref37_pick_vc k) trivial) (fun x r h => ⟨0, (ref37_pick_eq 0 x.1 x.2.1 x.2.2).symm.trans h⟩) (by kernel_rfl) (by kernel_rfl) (Nat.le_of_ble_eq_true (by kernel_rfl)) (by kernel_rfl)
noncomputable def ref37_Expr_c1 (self_ref37_Expr : ref37_Row → ref37_Scope → Int → Option (api_Expr × ref37_Row)) : Nat → (List Int) → Int → Int → (List (List UInt8)) → (List (List UInt8)) → (List (List UInt8)) → (List (List UInt8)) → Int → Int → (List UInt8) → (List api_Expr) → Int → Option (api_Expr × ref37_Row)
 | 0, _, _, _, _, _, _, _, _, _, _, _, _ => none
 | k + 1, r__L, r__At, deep, s_Vars, s_Ports, s_Timers, s_States, x6_Kind, x6_N, x6_Name, x6_Kids, x6_At => (self_ref37_Expr (ref37_Row.mk r__L r__At) (ref37_Scope.mk s_Vars s_Ports s_Timers s_States) (w64 (deep - 1))).bind fun r14 =>
  (ref37_Row_Next r14.2 13).bind fun r15 =>
  (self_ref37_Expr r15.2 (ref37_Scope.mk s_Vars s_Ports s_Timers s_States) (w64 (deep - 1))).bind fun r16 =>
  some (api_Expr.mk (w64 (7 + r15.1)) 0 [] [api_Expr.mk r14.1.Kind r14.1.N r14.1.Name r14.1.Kids r14.1.At, r16.1] 0, r16.2)
noncomputable def ref37_Expr_c0 (self_ref37_Expr : ref37_Row → ref37_Scope → Int → Option (api_Expr × ref37_Row)) : Nat → (List Int) → Int → Int → (List (List UInt8)) → (List (List UInt8)) → (List (List UInt8)) → (List (List UInt8)) → Int → Int → (List UInt8) → (List api_Expr) → Int → Int → Option (api_Expr × ref37_Row)
 | 0, _, _, _, _, _, _, _, _, _, _, _, _, _ => none
 | k + 1, r__L, r__At, deep, s_Vars, s_Ports, s_Timers, s_States, x6_Kind, x6_N, x6_Name, x6_Kids, x6_At, k_ => if k_ < 2 then
  (ref37_Row_Next (ref37_Row.mk r__L r__At) 6).bind fun r2 =>
  if 0 ≤ r2.1 then
  if r2.1 < (row_xe3552.length : Int) then
  some (api_Expr.mk 1 (row_xe3552.getD r2.1.toNat 0) [] [] 0, r2.2) else none else none else
  if k_ = 2 then
  if 0 < (s_Vars.length : Int) then
  (ref37_pick (ref37_Row.mk r__L r__At) s_Vars []).bind fun r3 =>
  some (api_Expr.mk 2 0 r3.1 [] 0, r3.2) else
  if k_ = 3 then
  if 0 < (s_States.length : Int) then
  (ref37_pick (ref37_Row.mk r__L r__At) s_States []).bind fun r4 =>
  some (api_Expr.mk 4 0 r4.1 [] 0, r4.2) else
  if k_ < 6 then
  some (api_Expr.mk 3 0 [] [] 0, ref37_Row.mk r__L r__At) else
  if k_ = 6 then
  (ref37_Row_Next (ref37_Row.mk r__L r__At) 2).bind fun r5 =>
  (self_ref37_Expr r5.2 (ref37_Scope.mk s_Vars s_Ports s_Timers s_States) (w64 (deep - 1))).bind fun r6 =>
  some (api_Expr.mk (w64 (5 + r5.1)) 0 [] [r6.1] 0, r6.2) else
  ref37_Expr_c1 self_ref37_Expr k r__L r__At deep s_Vars s_Ports s_Timers s_States x6_Kind x6_N x6_Name x6_Kids x6_At else
  if k_ < 6 then
  some (api_Expr.mk 3 0 [] [] 0, ref37_Row.mk r__L r__At) else
  if k_ = 6 then
  (ref37_Row_Next (ref37_Row.mk r__L r__At) 2).bind fun r7 =>
  (self_ref37_Expr r7.2 (ref37_Scope.mk s_Vars s_Ports s_Timers s_States) (w64 (deep - 1))).bind fun r8 =>
  some (api_Expr.mk (w64 (5 + r7.1)) 0 [] [r8.1] 0, r8.2) else
  ref37_Expr_c1 self_ref37_Expr k r__L r__At deep s_Vars s_Ports s_Timers s_States x6_Kind x6_N x6_Name x6_Kids x6_At else
  if k_ = 3 then
  if 0 < (s_States.length : Int) then
  (ref37_pick (ref37_Row.mk r__L r__At) s_States []).bind fun r9 =>
  some (api_Expr.mk 4 0 r9.1 [] 0, r9.2) else
  if k_ < 6 then
  some (api_Expr.mk 3 0 [] [] 0, ref37_Row.mk r__L r__At) else
  if k_ = 6 then
  (ref37_Row_Next (ref37_Row.mk r__L r__At) 2).bind fun r10 =>
  (self_ref37_Expr r10.2 (ref37_Scope.mk s_Vars s_Ports s_Timers s_States) (w64 (deep - 1))).bind fun r11 =>
  some (api_Expr.mk (w64 (5 + r10.1)) 0 [] [r11.1] 0, r11.2) else
  ref37_Expr_c1 self_ref37_Expr k r__L r__At deep s_Vars s_Ports s_Timers s_States x6_Kind x6_N x6_Name x6_Kids x6_At else
  if k_ < 6 then
  some (api_Expr.mk 3 0 [] [] 0, ref37_Row.mk r__L r__At) else
  if k_ = 6 then
  (ref37_Row_Next (ref37_Row.mk r__L r__At) 2).bind fun r12 =>
  (self_ref37_Expr r12.2 (ref37_Scope.mk s_Vars s_Ports s_Timers s_States) (w64 (deep - 1))).bind fun r13 =>
  some (api_Expr.mk (w64 (5 + r12.1)) 0 [] [r13.1] 0, r13.2) else
  ref37_Expr_c1 self_ref37_Expr k r__L r__At deep s_Vars s_Ports s_Timers s_States x6_Kind x6_N x6_Name x6_Kids x6_At
noncomputable def ref37_Expr_b (self_ref37_Expr : ref37_Row → ref37_Scope → Int → Option (api_Expr × ref37_Row)) (k : Nat) (r_ : ref37_Row) (s : ref37_Scope) (deep : Int) : Option (api_Expr × ref37_Row) := (ref37_Row_Next r_ 14).bind fun r1 =>
 if deep = 0 then
 if 5 < r1.1 then
 if ¬ (6 : Int) = 0 then
 ref37_Expr_c0 self_ref37_Expr k r1.2.L r1.2.At deep s.Vars s.Ports s.Timers s.States 0 0 [] [] 0 (r1.1.tmod 6) else none else
 ref37_Expr_c0 self_ref37_Expr k r1.2.L r1.2.At deep s.Vars s.Ports s.Timers s.States 0 0 [] [] 0 r1.1 else
 ref37_Expr_c0 self_ref37_Expr k r1.2.L r1.2.At deep s.Vars s.Ports s.Timers s.States 0 0 [] [] 0 r1.1
noncomputable def ref37_Expr_f : Nat → ref37_Row → ref37_Scope → Int → Option (api_Expr × ref37_Row)
 | 0, _, _, _ => none
 | k + 1, x0, x1, x2 => ref37_Expr_b (ref37_Expr_f k) k x0 x1 x2
noncomputable def ref37_Expr  (r_ : ref37_Row) (s : ref37_Scope) (deep : Int) : Option (api_Expr × ref37_Row) := lim (fun k (x : ref37_Row × ref37_Scope × Int) => ref37_Expr_f k x.1 x.2.1 x.2.2) (r_, s, deep)
noncomputable abbrev ref37_Expr_T (self_ref37_Expr : ref37_Row → ref37_Scope → Int → Option (api_Expr × ref37_Row)) : Tab S := ⟨[⟨34, [.obj [.data (.st 9)], .val (.data (.int .i64))], [.val (.data (.int .i64))], fun x => ref37_Row_Next x.1 x.2⟩, ⟨36, [.obj [.data (.st 9)], .val (.data (.sl .str)), .val (.data .str)], [.val (.data .str)], fun x => ref37_pick x.1 x.2.1 x.2.2⟩, ⟨35, [.obj [.data (.st 9)], .val (.data (.st 10)), .val (.data (.int .i64))], [.val (.data (.st 1))], fun x => self_ref37_Expr x.1 x.2.1 x.2.2⟩], [], false, false, none, []⟩
noncomputable def ref37_Expr_L (self_ref37_Expr : ref37_Row → ref37_Scope → Int → Option (api_Expr × ref37_Row)) (k : Nat) : Nat → List (Lab S (api_Expr × ref37_Row))
 | 0 => []
 | 1 => [⟨[0, 2, 4, 6, 7], [.obj [.data (.sl (.int .i64)), .data (.int .i64)], .val (.data (.int .i64)), .obj [.data (.sl .str), .data (.sl .str), .data (.sl .str), .data (.sl .str)], .obj [.data (.int .i64), .data (.int .i64), .data .str, .marr (.st 1), .data (.int .i64)], .val (.data (.int .i64))], fun x => ref37_Expr_c0 self_ref37_Expr k x.1.1 x.1.2 x.2.1 x.2.2.1.1 x.2.2.1.2.1 x.2.2.1.2.2.1 x.2.2.1.2.2.2 x.2.2.2.1.1 x.2.2.2.1.2.1 x.2.2.2.1.2.2.1 x.2.2.2.1.2.2.2.1 x.2.2.2.1.2.2.2.2 x.2.2.2.2, false⟩]
 | 2 => []
 | 3 => [⟨[0, 2, 4, 6], [.obj [.data (.sl (.int .i64)), .data (.int .i64)], .val (.data (.int .i64)), .obj [.data (.sl .str), .data (.sl .str), .data (.sl .str), .data (.sl .str)], .obj [.data (.int .i64), .data (.int .i64), .data .str, .marr (.st 1), .data (.int .i64)]], fun x => ref37_Expr_c1 self_ref37_Expr k x.1.1 x.1.2 x.2.1 x.2.2.1.1 x.2.2.1.2.1 x.2.2.1.2.2.1 x.2.2.1.2.2.2 x.2.2.2.1 x.2.2.2.2.1 x.2.2.2.2.2.1 x.2.2.2.2.2.2.1 x.2.2.2.2.2.2.2, false⟩]
 | _ + 4 => []
theorem ref37_Expr_eq (self_ref37_Expr : ref37_Row → ref37_Scope → Int → Option (api_Expr × ref37_Row)) (k : Nat) (r_ : ref37_Row) (s : ref37_Scope) (deep : Int) : ref37_Expr_b self_ref37_Expr k r_ s deep = exec S (ref37_Expr_T self_ref37_Expr) byt (labs S (ref37_Expr_T self_ref37_Expr) (ref37_Expr_L self_ref37_Expr k)) (ac [2, 4] Tryz.f35) (frame0 S [.obj [.data (.st 9)], .val (.data (.st 10)), .val (.data (.int .i64))] (r_, s, deep)) (retK S (ref37_Expr_T self_ref37_Expr) Tryz.f35 [.obj [.data (.st 9)], .val (.data (.st 10)), .val (.data (.int .i64))] [.val (.data (.st 1))]) := by kernel_rfl
theorem ref37_Expr_vc (self_ref37_Expr : ref37_Row → ref37_Scope → Int → Option (api_Expr × ref37_Row)) (k : Nat) : VC S (ref37_Expr_T self_ref37_Expr) byt (ref37_Expr_L self_ref37_Expr k) (ref37_Expr_L self_ref37_Expr (k + 1)) (ac [2, 4] Tryz.f35) (retK S (ref37_Expr_T self_ref37_Expr) Tryz.f35 [.obj [.data (.st 9)], .val (.data (.st 10)), .val (.data (.int .i64))] [.val (.data (.st 1))]) = [∀ x : (List Int × Int) × Int × (List (List UInt8) × List (List UInt8) × List (List UInt8) × List (List UInt8)) × (Int × Int × List UInt8 × List api_Expr × Int), ref37_Expr_c1 self_ref37_Expr (k + 1) x.1.1 x.1.2 x.2.1 x.2.2.1.1 x.2.2.1.2.1 x.2.2.1.2.2.1 x.2.2.1.2.2.2 x.2.2.2.1 x.2.2.2.2.1 x.2.2.2.2.2.1 x.2.2.2.2.2.2.1 x.2.2.2.2.2.2.2 = ref37_Expr_c1 self_ref37_Expr (k + 1) x.1.1 x.1.2 x.2.1 x.2.2.1.1 x.2.2.1.2.1 x.2.2.1.2.2.1 x.2.2.1.2.2.2 x.2.2.2.1 x.2.2.2.2.1 x.2.2.2.2.2.1 x.2.2.2.2.2.2.1 x.2.2.2.2.2.2.2, ∀ x : (List Int × Int) × Int × (List (List UInt8) × List (List UInt8) × List (List UInt8) × List (List UInt8)) × (Int × Int × List UInt8 × List api_Expr × Int) × Int, ref37_Expr_c0 self_ref37_Expr (k + 1) x.1.1 x.1.2 x.2.1 x.2.2.1.1 x.2.2.1.2.1 x.2.2.1.2.2.1 x.2.2.1.2.2.2 x.2.2.2.1.1 x.2.2.2.1.2.1 x.2.2.2.1.2.2.1 x.2.2.2.1.2.2.2.1 x.2.2.2.1.2.2.2.2 x.2.2.2.2 = ref37_Expr_c0 self_ref37_Expr (k + 1) x.1.1 x.1.2 x.2.1 x.2.2.1.1 x.2.2.1.2.1 x.2.2.1.2.2.1 x.2.2.1.2.2.2 x.2.2.2.1.1 x.2.2.2.1.2.1 x.2.2.2.1.2.2.1 x.2.2.2.1.2.2.2.1 x.2.2.2.1.2.2.2.2 x.2.2.2.2] := by kernel_rfl
theorem ref37_Expr_sndk (self_ref37_Expr : ref37_Row → ref37_Scope → Int → Option (api_Expr × ref37_Row)) (hself : Snd Tryz.prog S ⟨35, [.obj [.data (.st 9)], .val (.data (.st 10)), .val (.data (.int .i64))], [.val (.data (.st 1))], fun x => self_ref37_Expr x.1 x.2.1 x.2.2⟩) (k : Nat) : Snd Tryz.prog S ⟨35, [.obj [.data (.st 9)], .val (.data (.st 10)), .val (.data (.int .i64))], [.val (.data (.st 1))], fun x => ref37_Expr_b self_ref37_Expr k x.1 x.2.1 x.2.2⟩ :=
 fn_ok progOk (T := (ref37_Expr_T self_ref37_Expr)) (all_cons ref37_Row_Next_snd (all_cons ref37_pick_snd (all_cons hself (all_nil)))) (all_nil) (all_nil) mixed Tryz.func35 rfl (by kernel_rfl) (ac_code [2, 4] Tryz.f35 rfl) (L := ref37_Expr_L self_ref37_Expr)
  (fun n l h x => by match n, h with
   | 0, h => cases h
   | 1, h =>
    rcases List.mem_cons.1 h with rfl | h
    · rfl
    cases h
   | 2, h => cases h
   | 3, h =>
    rcases List.mem_cons.1 h with rfl | h
    · rfl
    cases h
   | _ + 4, h => cases h) (fun k n l h => by match n, h with
   | 0, h => cases h
   | 1, h =>
    rcases List.mem_cons.1 h with rfl | h
    · rfl
    cases h
   | 2, h => cases h
   | 3, h =>
    rcases List.mem_cons.1 h with rfl | h
    · rfl
    cases h
   | _ + 4, h => cases h)
  (fun k => All.mem (ref37_Expr_vc self_ref37_Expr k) ⟨fun _ => rfl, ⟨fun _ => rfl, trivial⟩⟩) (fun x r h => ⟨k, (ref37_Expr_eq self_ref37_Expr k x.1 x.2.1 x.2.2).symm.trans h⟩) (by kernel_rfl) (by kernel_rfl) (Nat.le_of_ble_eq_true (by kernel_rfl)) (by kernel_rfl)
theorem ref37_Expr_sndf : ∀ k, Snd Tryz.prog S ⟨35, [.obj [.data (.st 9)], .val (.data (.st 10)), .val (.data (.int .i64))], [.val (.data (.st 1))], fun x => ref37_Expr_f k x.1 x.2.1 x.2.2⟩
 | 0 => Snd.none ⟨_, Tryz.func35, by kernel_rfl, by kernel_rfl⟩ fun _ => rfl
 | k + 1 => ref37_Expr_sndk (ref37_Expr_f k) (ref37_Expr_sndf k) k
theorem ref37_Expr_snd : Snd Tryz.prog S ⟨35, [.obj [.data (.st 9)], .val (.data (.st 10)), .val (.data (.int .i64))], [.val (.data (.st 1))], fun x => ref37_Expr x.1 x.2.1 x.2.2⟩ := Snd.lim (ref37_Expr_sndf)
noncomputable def ref37_Event  (k_ : Int) : Option (List UInt8) := (ref37_Place k_ 8).bind fun r1 =>
 if 0 ≤ r1 then
 if r1 < (row_x81587.length : Int) then
 some (row_x81587.getD r1.toNat []) else none else none
noncomputable abbrev ref37_Event_T : Tab S := ⟨[⟨10, [.val (.data (.int .i64)), .val (.data (.int .i64))], [.val (.data (.int .i64))], fun x => ref37_Place x.1 x.2⟩], [], false, false, none, []⟩
noncomputable def ref37_Event_L (k : Nat) : Nat → List (Lab S (List UInt8))
 | _ => []
theorem ref37_Event_eq (k : Nat) (k_ : Int) : ref37_Event k_ = exec S (ref37_Event_T) byt (labs S (ref37_Event_T) (ref37_Event_L k)) (ac [] Tryz.f37) (frame0 S [.val (.data (.int .i64))] k_) (retK S (ref37_Event_T) Tryz.f37 [.val (.data (.int .i64))] [.val (.data .str)]) := by kernel_rfl
theorem ref37_Event_vc (k : Nat) : VC S (ref37_Event_T) byt (ref37_Event_L k) (ref37_Event_L (k + 1)) (ac [] Tryz.f37) (retK S (ref37_Event_T) Tryz.f37 [.val (.data (.int .i64))] [.val (.data .str)]) = [] := by kernel_rfl
theorem ref37_Event_snd : Snd Tryz.prog S ⟨37, [.val (.data (.int .i64))], [.val (.data .str)], fun x => ref37_Event x⟩ :=
 fn_ok progOk (T := (ref37_Event_T)) (all_cons ref37_Place_snd (all_nil)) (all_nil) (all_nil) mixed Tryz.func37 rfl (by kernel_rfl) (ac_code [] Tryz.f37 rfl) (L := ref37_Event_L)
  (fun n l h x => by cases h) (fun k n l h => by cases h)
  (fun k => All.mem (ref37_Event_vc k) trivial) (fun x r h => ⟨0, (ref37_Event_eq 0 x).symm.trans h⟩) (by kernel_rfl) (by kernel_rfl) (Nat.le_of_ble_eq_true (by kernel_rfl)) (by kernel_rfl)
noncomputable def ref37_Block_l0 (self_ref37_Block : ref37_Row → ref37_Scope → Int → Option (List api_Act × ref37_Row)) : Nat → (List Int) → Int → Int → (List (List UInt8)) → (List (List UInt8)) → (List (List UInt8)) → (List (List UInt8)) → (List api_Act) → Int → Option (List api_Act × ref37_Row)
 | 0, _, _, _, _, _, _, _, _, _ => none
 | k + 1, r__L, r__At, deep, s_Vars, s_Ports, s_Timers, s_States, out, n => if 0 < n then
  (ref37_Row_Next (ref37_Row.mk r__L r__At) 10).bind fun r2 =>
  (ref37_Expr r2.2 (ref37_Scope.mk s_Vars s_Ports s_Timers s_States) 2).bind fun r3 =>
  if r2.1 < 3 then
  if 0 < (s_Vars.length : Int) then
  (ref37_pick r3.2 s_Vars []).bind fun r4 =>
  if (out.length + [api_Act.mk 1 r4.1 [] [r3.1] 0 [] [] 0].length) * 128 ≤ 140737488355328 then
  ref37_Block_l0 self_ref37_Block k r4.2.L r4.2.At deep s_Vars s_Ports s_Timers s_States (out ++ [api_Act.mk 1 r4.1 [] [r3.1] 0 [] [] 0]) (w64 (n - 1)) else none else
  if r2.1 = 3 then
  (ref37_Row_Next r3.2 8).bind fun r5 =>
  (ref37_Event r5.1).bind fun r6 =>
  (ref37_Row_Next r5.2 2).bind fun r7 =>
  if 0 ≤ r7.1 then
  if r7.1 ≤ ([r3.1].length : Int) then
  if (out.length + [api_Act.mk 2 [] r6 (cut [r3.1] 0 r7.1) 0 [] [] 0].length) * 128 ≤ 140737488355328 then
  ref37_Block_l0 self_ref37_Block k r7.2.L r7.2.At deep s_Vars s_Ports s_Timers s_States (out ++ [api_Act.mk 2 [] r6 (cut [r3.1] 0 r7.1) 0 [] [] 0]) (w64 (n - 1)) else none else none else none else
  if r2.1 < 7 then
  if 0 < (s_Ports.length : Int) then
  (ref37_pick r3.2 s_Ports []).bind fun r8 =>
  (ref37_Row_Next r8.2 3).bind fun r9 =>
  (ref37_Event r9.1).bind fun r10 =>
  (ref37_Row_Next r9.2 2).bind fun r11 =>
  if 0 ≤ r11.1 then
  if r11.1 ≤ ([r3.1].length : Int) then
  if (out.length + [api_Act.mk 3 r8.1 r10 (cut [r3.1] 0 r11.1) 0 [] [] 0].length) * 128 ≤ 140737488355328 then
  ref37_Block_l0 self_ref37_Block k r11.2.L r11.2.At deep s_Vars s_Ports s_Timers s_States (out ++ [api_Act.mk 3 r8.1 r10 (cut [r3.1] 0 r11.1) 0 [] [] 0]) (w64 (n - 1)) else none else none else none else
  if r2.1 = 7 then
  if 0 < (s_Timers.length : Int) then
  (ref37_pick r3.2 s_Timers []).bind fun r12 =>
  (ref37_Row_Next r12.2 3).bind fun r13 =>
  if (out.length + [api_Act.mk 4 r12.1 [] [api_Expr.mk 1 (w64 (1 + r13.1)) [] [] 0] 0 [] [] 0].length) * 128 ≤ 140737488355328 then
  ref37_Block_l0 self_ref37_Block k r13.2.L r13.2.At deep s_Vars s_Ports s_Timers s_States (out ++ [api_Act.mk 4 r12.1 [] [api_Expr.mk 1 (w64 (1 + r13.1)) [] [] 0] 0 [] [] 0]) (w64 (n - 1)) else none else
  if r2.1 = 8 then
  if 0 < (s_Timers.length : Int) then
  (ref37_pick r3.2 s_Timers []).bind fun r14 =>
  if (out.length + [api_Act.mk 5 r14.1 [] [] 0 [] [] 0].length) * 128 ≤ 140737488355328 then
  ref37_Block_l0 self_ref37_Block k r14.2.L r14.2.At deep s_Vars s_Ports s_Timers s_States (out ++ [api_Act.mk 5 r14.1 [] [] 0 [] [] 0]) (w64 (n - 1)) else none else
  if 0 < deep then
  if ¬ (2 : Int) = 0 then
  if (r2.1.tmod 2) = 0 then
  (self_ref37_Block r3.2 (ref37_Scope.mk s_Vars s_Ports s_Timers s_States) (w64 (deep - 1))).bind fun r15 =>
  (self_ref37_Block r15.2 (ref37_Scope.mk s_Vars s_Ports s_Timers s_States) (w64 (deep - 1))).bind fun r16 =>
  if (out.length + [api_Act.mk 6 [] [] [r3.1] 0 r15.1 r16.1 0].length) * 128 ≤ 140737488355328 then
  ref37_Block_l0 self_ref37_Block k r16.2.L r16.2.At deep s_Vars s_Ports s_Timers s_States (out ++ [api_Act.mk 6 [] [] [r3.1] 0 r15.1 r16.1 0]) (w64 (n - 1)) else none else
  if 0 < deep then
  (ref37_Row_Next r3.2 4).bind fun r17 =>
  (self_ref37_Block r17.2 (ref37_Scope.mk s_Vars s_Ports s_Timers s_States) (w64 (deep - 1))).bind fun r18 =>
  if (out.length + [api_Act.mk 7 [] [] [] (w64 (1 + r17.1)) r18.1 [] 0].length) * 128 ≤ 140737488355328 then
  ref37_Block_l0 self_ref37_Block k r18.2.L r18.2.At deep s_Vars s_Ports s_Timers s_States (out ++ [api_Act.mk 7 [] [] [] (w64 (1 + r17.1)) r18.1 [] 0]) (w64 (n - 1)) else none else
  ref37_Block_l0 self_ref37_Block k r3.2.L r3.2.At deep s_Vars s_Ports s_Timers s_States out (w64 (n - 1)) else none else
  if 0 < deep then
  (ref37_Row_Next r3.2 4).bind fun r19 =>
  (self_ref37_Block r19.2 (ref37_Scope.mk s_Vars s_Ports s_Timers s_States) (w64 (deep - 1))).bind fun r20 =>
  if (out.length + [api_Act.mk 7 [] [] [] (w64 (1 + r19.1)) r20.1 [] 0].length) * 128 ≤ 140737488355328 then
  ref37_Block_l0 self_ref37_Block k r20.2.L r20.2.At deep s_Vars s_Ports s_Timers s_States (out ++ [api_Act.mk 7 [] [] [] (w64 (1 + r19.1)) r20.1 [] 0]) (w64 (n - 1)) else none else
  ref37_Block_l0 self_ref37_Block k r3.2.L r3.2.At deep s_Vars s_Ports s_Timers s_States out (w64 (n - 1)) else
  if 0 < deep then
  if ¬ (2 : Int) = 0 then
  if (r2.1.tmod 2) = 0 then
  (self_ref37_Block r3.2 (ref37_Scope.mk s_Vars s_Ports s_Timers s_States) (w64 (deep - 1))).bind fun r21 =>
  (self_ref37_Block r21.2 (ref37_Scope.mk s_Vars s_Ports s_Timers s_States) (w64 (deep - 1))).bind fun r22 =>
  if (out.length + [api_Act.mk 6 [] [] [r3.1] 0 r21.1 r22.1 0].length) * 128 ≤ 140737488355328 then
  ref37_Block_l0 self_ref37_Block k r22.2.L r22.2.At deep s_Vars s_Ports s_Timers s_States (out ++ [api_Act.mk 6 [] [] [r3.1] 0 r21.1 r22.1 0]) (w64 (n - 1)) else none else
  if 0 < deep then
  (ref37_Row_Next r3.2 4).bind fun r23 =>
  (self_ref37_Block r23.2 (ref37_Scope.mk s_Vars s_Ports s_Timers s_States) (w64 (deep - 1))).bind fun r24 =>
  if (out.length + [api_Act.mk 7 [] [] [] (w64 (1 + r23.1)) r24.1 [] 0].length) * 128 ≤ 140737488355328 then
  ref37_Block_l0 self_ref37_Block k r24.2.L r24.2.At deep s_Vars s_Ports s_Timers s_States (out ++ [api_Act.mk 7 [] [] [] (w64 (1 + r23.1)) r24.1 [] 0]) (w64 (n - 1)) else none else
  ref37_Block_l0 self_ref37_Block k r3.2.L r3.2.At deep s_Vars s_Ports s_Timers s_States out (w64 (n - 1)) else none else
  if 0 < deep then
  (ref37_Row_Next r3.2 4).bind fun r25 =>
  (self_ref37_Block r25.2 (ref37_Scope.mk s_Vars s_Ports s_Timers s_States) (w64 (deep - 1))).bind fun r26 =>
  if (out.length + [api_Act.mk 7 [] [] [] (w64 (1 + r25.1)) r26.1 [] 0].length) * 128 ≤ 140737488355328 then
  ref37_Block_l0 self_ref37_Block k r26.2.L r26.2.At deep s_Vars s_Ports s_Timers s_States (out ++ [api_Act.mk 7 [] [] [] (w64 (1 + r25.1)) r26.1 [] 0]) (w64 (n - 1)) else none else
  ref37_Block_l0 self_ref37_Block k r3.2.L r3.2.At deep s_Vars s_Ports s_Timers s_States out (w64 (n - 1)) else
  if r2.1 = 8 then
  if 0 < (s_Timers.length : Int) then
  (ref37_pick r3.2 s_Timers []).bind fun r27 =>
  if (out.length + [api_Act.mk 5 r27.1 [] [] 0 [] [] 0].length) * 128 ≤ 140737488355328 then
  ref37_Block_l0 self_ref37_Block k r27.2.L r27.2.At deep s_Vars s_Ports s_Timers s_States (out ++ [api_Act.mk 5 r27.1 [] [] 0 [] [] 0]) (w64 (n - 1)) else none else
  if 0 < deep then
  if ¬ (2 : Int) = 0 then
  if (r2.1.tmod 2) = 0 then
  (self_ref37_Block r3.2 (ref37_Scope.mk s_Vars s_Ports s_Timers s_States) (w64 (deep - 1))).bind fun r28 =>
  (self_ref37_Block r28.2 (ref37_Scope.mk s_Vars s_Ports s_Timers s_States) (w64 (deep - 1))).bind fun r29 =>
  if (out.length + [api_Act.mk 6 [] [] [r3.1] 0 r28.1 r29.1 0].length) * 128 ≤ 140737488355328 then
  ref37_Block_l0 self_ref37_Block k r29.2.L r29.2.At deep s_Vars s_Ports s_Timers s_States (out ++ [api_Act.mk 6 [] [] [r3.1] 0 r28.1 r29.1 0]) (w64 (n - 1)) else none else
  if 0 < deep then
  (ref37_Row_Next r3.2 4).bind fun r30 =>
  (self_ref37_Block r30.2 (ref37_Scope.mk s_Vars s_Ports s_Timers s_States) (w64 (deep - 1))).bind fun r31 =>
  if (out.length + [api_Act.mk 7 [] [] [] (w64 (1 + r30.1)) r31.1 [] 0].length) * 128 ≤ 140737488355328 then
  ref37_Block_l0 self_ref37_Block k r31.2.L r31.2.At deep s_Vars s_Ports s_Timers s_States (out ++ [api_Act.mk 7 [] [] [] (w64 (1 + r30.1)) r31.1 [] 0]) (w64 (n - 1)) else none else
  ref37_Block_l0 self_ref37_Block k r3.2.L r3.2.At deep s_Vars s_Ports s_Timers s_States out (w64 (n - 1)) else none else
  if 0 < deep then
  (ref37_Row_Next r3.2 4).bind fun r32 =>
  (self_ref37_Block r32.2 (ref37_Scope.mk s_Vars s_Ports s_Timers s_States) (w64 (deep - 1))).bind fun r33 =>
  if (out.length + [api_Act.mk 7 [] [] [] (w64 (1 + r32.1)) r33.1 [] 0].length) * 128 ≤ 140737488355328 then
  ref37_Block_l0 self_ref37_Block k r33.2.L r33.2.At deep s_Vars s_Ports s_Timers s_States (out ++ [api_Act.mk 7 [] [] [] (w64 (1 + r32.1)) r33.1 [] 0]) (w64 (n - 1)) else none else
  ref37_Block_l0 self_ref37_Block k r3.2.L r3.2.At deep s_Vars s_Ports s_Timers s_States out (w64 (n - 1)) else
  if 0 < deep then
  if ¬ (2 : Int) = 0 then
  if (r2.1.tmod 2) = 0 then
  (self_ref37_Block r3.2 (ref37_Scope.mk s_Vars s_Ports s_Timers s_States) (w64 (deep - 1))).bind fun r34 =>
  (self_ref37_Block r34.2 (ref37_Scope.mk s_Vars s_Ports s_Timers s_States) (w64 (deep - 1))).bind fun r35 =>
  if (out.length + [api_Act.mk 6 [] [] [r3.1] 0 r34.1 r35.1 0].length) * 128 ≤ 140737488355328 then
  ref37_Block_l0 self_ref37_Block k r35.2.L r35.2.At deep s_Vars s_Ports s_Timers s_States (out ++ [api_Act.mk 6 [] [] [r3.1] 0 r34.1 r35.1 0]) (w64 (n - 1)) else none else
  if 0 < deep then
  (ref37_Row_Next r3.2 4).bind fun r36 =>
  (self_ref37_Block r36.2 (ref37_Scope.mk s_Vars s_Ports s_Timers s_States) (w64 (deep - 1))).bind fun r37 =>
  if (out.length + [api_Act.mk 7 [] [] [] (w64 (1 + r36.1)) r37.1 [] 0].length) * 128 ≤ 140737488355328 then
  ref37_Block_l0 self_ref37_Block k r37.2.L r37.2.At deep s_Vars s_Ports s_Timers s_States (out ++ [api_Act.mk 7 [] [] [] (w64 (1 + r36.1)) r37.1 [] 0]) (w64 (n - 1)) else none else
  ref37_Block_l0 self_ref37_Block k r3.2.L r3.2.At deep s_Vars s_Ports s_Timers s_States out (w64 (n - 1)) else none else
  if 0 < deep then
  (ref37_Row_Next r3.2 4).bind fun r38 =>
  (self_ref37_Block r38.2 (ref37_Scope.mk s_Vars s_Ports s_Timers s_States) (w64 (deep - 1))).bind fun r39 =>
  if (out.length + [api_Act.mk 7 [] [] [] (w64 (1 + r38.1)) r39.1 [] 0].length) * 128 ≤ 140737488355328 then
  ref37_Block_l0 self_ref37_Block k r39.2.L r39.2.At deep s_Vars s_Ports s_Timers s_States (out ++ [api_Act.mk 7 [] [] [] (w64 (1 + r38.1)) r39.1 [] 0]) (w64 (n - 1)) else none else
  ref37_Block_l0 self_ref37_Block k r3.2.L r3.2.At deep s_Vars s_Ports s_Timers s_States out (w64 (n - 1)) else
  if r2.1 = 7 then
  if 0 < (s_Timers.length : Int) then
  (ref37_pick r3.2 s_Timers []).bind fun r40 =>
  (ref37_Row_Next r40.2 3).bind fun r41 =>
  if (out.length + [api_Act.mk 4 r40.1 [] [api_Expr.mk 1 (w64 (1 + r41.1)) [] [] 0] 0 [] [] 0].length) * 128 ≤ 140737488355328 then
  ref37_Block_l0 self_ref37_Block k r41.2.L r41.2.At deep s_Vars s_Ports s_Timers s_States (out ++ [api_Act.mk 4 r40.1 [] [api_Expr.mk 1 (w64 (1 + r41.1)) [] [] 0] 0 [] [] 0]) (w64 (n - 1)) else none else
  if r2.1 = 8 then
  if 0 < (s_Timers.length : Int) then
  (ref37_pick r3.2 s_Timers []).bind fun r42 =>
  if (out.length + [api_Act.mk 5 r42.1 [] [] 0 [] [] 0].length) * 128 ≤ 140737488355328 then
  ref37_Block_l0 self_ref37_Block k r42.2.L r42.2.At deep s_Vars s_Ports s_Timers s_States (out ++ [api_Act.mk 5 r42.1 [] [] 0 [] [] 0]) (w64 (n - 1)) else none else
  if 0 < deep then
  if ¬ (2 : Int) = 0 then
  if (r2.1.tmod 2) = 0 then
  (self_ref37_Block r3.2 (ref37_Scope.mk s_Vars s_Ports s_Timers s_States) (w64 (deep - 1))).bind fun r43 =>
  (self_ref37_Block r43.2 (ref37_Scope.mk s_Vars s_Ports s_Timers s_States) (w64 (deep - 1))).bind fun r44 =>
  if (out.length + [api_Act.mk 6 [] [] [r3.1] 0 r43.1 r44.1 0].length) * 128 ≤ 140737488355328 then
  ref37_Block_l0 self_ref37_Block k r44.2.L r44.2.At deep s_Vars s_Ports s_Timers s_States (out ++ [api_Act.mk 6 [] [] [r3.1] 0 r43.1 r44.1 0]) (w64 (n - 1)) else none else
  if 0 < deep then
  (ref37_Row_Next r3.2 4).bind fun r45 =>
  (self_ref37_Block r45.2 (ref37_Scope.mk s_Vars s_Ports s_Timers s_States) (w64 (deep - 1))).bind fun r46 =>
  if (out.length + [api_Act.mk 7 [] [] [] (w64 (1 + r45.1)) r46.1 [] 0].length) * 128 ≤ 140737488355328 then
  ref37_Block_l0 self_ref37_Block k r46.2.L r46.2.At deep s_Vars s_Ports s_Timers s_States (out ++ [api_Act.mk 7 [] [] [] (w64 (1 + r45.1)) r46.1 [] 0]) (w64 (n - 1)) else none else
  ref37_Block_l0 self_ref37_Block k r3.2.L r3.2.At deep s_Vars s_Ports s_Timers s_States out (w64 (n - 1)) else none else
  if 0 < deep then
  (ref37_Row_Next r3.2 4).bind fun r47 =>
  (self_ref37_Block r47.2 (ref37_Scope.mk s_Vars s_Ports s_Timers s_States) (w64 (deep - 1))).bind fun r48 =>
  if (out.length + [api_Act.mk 7 [] [] [] (w64 (1 + r47.1)) r48.1 [] 0].length) * 128 ≤ 140737488355328 then
  ref37_Block_l0 self_ref37_Block k r48.2.L r48.2.At deep s_Vars s_Ports s_Timers s_States (out ++ [api_Act.mk 7 [] [] [] (w64 (1 + r47.1)) r48.1 [] 0]) (w64 (n - 1)) else none else
  ref37_Block_l0 self_ref37_Block k r3.2.L r3.2.At deep s_Vars s_Ports s_Timers s_States out (w64 (n - 1)) else
  if 0 < deep then
  if ¬ (2 : Int) = 0 then
  if (r2.1.tmod 2) = 0 then
  (self_ref37_Block r3.2 (ref37_Scope.mk s_Vars s_Ports s_Timers s_States) (w64 (deep - 1))).bind fun r49 =>
  (self_ref37_Block r49.2 (ref37_Scope.mk s_Vars s_Ports s_Timers s_States) (w64 (deep - 1))).bind fun r50 =>
  if (out.length + [api_Act.mk 6 [] [] [r3.1] 0 r49.1 r50.1 0].length) * 128 ≤ 140737488355328 then
  ref37_Block_l0 self_ref37_Block k r50.2.L r50.2.At deep s_Vars s_Ports s_Timers s_States (out ++ [api_Act.mk 6 [] [] [r3.1] 0 r49.1 r50.1 0]) (w64 (n - 1)) else none else
  if 0 < deep then
  (ref37_Row_Next r3.2 4).bind fun r51 =>
  (self_ref37_Block r51.2 (ref37_Scope.mk s_Vars s_Ports s_Timers s_States) (w64 (deep - 1))).bind fun r52 =>
  if (out.length + [api_Act.mk 7 [] [] [] (w64 (1 + r51.1)) r52.1 [] 0].length) * 128 ≤ 140737488355328 then
  ref37_Block_l0 self_ref37_Block k r52.2.L r52.2.At deep s_Vars s_Ports s_Timers s_States (out ++ [api_Act.mk 7 [] [] [] (w64 (1 + r51.1)) r52.1 [] 0]) (w64 (n - 1)) else none else
  ref37_Block_l0 self_ref37_Block k r3.2.L r3.2.At deep s_Vars s_Ports s_Timers s_States out (w64 (n - 1)) else none else
  if 0 < deep then
  (ref37_Row_Next r3.2 4).bind fun r53 =>
  (self_ref37_Block r53.2 (ref37_Scope.mk s_Vars s_Ports s_Timers s_States) (w64 (deep - 1))).bind fun r54 =>
  if (out.length + [api_Act.mk 7 [] [] [] (w64 (1 + r53.1)) r54.1 [] 0].length) * 128 ≤ 140737488355328 then
  ref37_Block_l0 self_ref37_Block k r54.2.L r54.2.At deep s_Vars s_Ports s_Timers s_States (out ++ [api_Act.mk 7 [] [] [] (w64 (1 + r53.1)) r54.1 [] 0]) (w64 (n - 1)) else none else
  ref37_Block_l0 self_ref37_Block k r3.2.L r3.2.At deep s_Vars s_Ports s_Timers s_States out (w64 (n - 1)) else
  if r2.1 = 8 then
  if 0 < (s_Timers.length : Int) then
  (ref37_pick r3.2 s_Timers []).bind fun r55 =>
  if (out.length + [api_Act.mk 5 r55.1 [] [] 0 [] [] 0].length) * 128 ≤ 140737488355328 then
  ref37_Block_l0 self_ref37_Block k r55.2.L r55.2.At deep s_Vars s_Ports s_Timers s_States (out ++ [api_Act.mk 5 r55.1 [] [] 0 [] [] 0]) (w64 (n - 1)) else none else
  if 0 < deep then
  if ¬ (2 : Int) = 0 then
  if (r2.1.tmod 2) = 0 then
  (self_ref37_Block r3.2 (ref37_Scope.mk s_Vars s_Ports s_Timers s_States) (w64 (deep - 1))).bind fun r56 =>
  (self_ref37_Block r56.2 (ref37_Scope.mk s_Vars s_Ports s_Timers s_States) (w64 (deep - 1))).bind fun r57 =>
  if (out.length + [api_Act.mk 6 [] [] [r3.1] 0 r56.1 r57.1 0].length) * 128 ≤ 140737488355328 then
  ref37_Block_l0 self_ref37_Block k r57.2.L r57.2.At deep s_Vars s_Ports s_Timers s_States (out ++ [api_Act.mk 6 [] [] [r3.1] 0 r56.1 r57.1 0]) (w64 (n - 1)) else none else
  if 0 < deep then
  (ref37_Row_Next r3.2 4).bind fun r58 =>
  (self_ref37_Block r58.2 (ref37_Scope.mk s_Vars s_Ports s_Timers s_States) (w64 (deep - 1))).bind fun r59 =>
  if (out.length + [api_Act.mk 7 [] [] [] (w64 (1 + r58.1)) r59.1 [] 0].length) * 128 ≤ 140737488355328 then
  ref37_Block_l0 self_ref37_Block k r59.2.L r59.2.At deep s_Vars s_Ports s_Timers s_States (out ++ [api_Act.mk 7 [] [] [] (w64 (1 + r58.1)) r59.1 [] 0]) (w64 (n - 1)) else none else
  ref37_Block_l0 self_ref37_Block k r3.2.L r3.2.At deep s_Vars s_Ports s_Timers s_States out (w64 (n - 1)) else none else
  if 0 < deep then
  (ref37_Row_Next r3.2 4).bind fun r60 =>
  (self_ref37_Block r60.2 (ref37_Scope.mk s_Vars s_Ports s_Timers s_States) (w64 (deep - 1))).bind fun r61 =>
  if (out.length + [api_Act.mk 7 [] [] [] (w64 (1 + r60.1)) r61.1 [] 0].length) * 128 ≤ 140737488355328 then
  ref37_Block_l0 self_ref37_Block k r61.2.L r61.2.At deep s_Vars s_Ports s_Timers s_States (out ++ [api_Act.mk 7 [] [] [] (w64 (1 + r60.1)) r61.1 [] 0]) (w64 (n - 1)) else none else
  ref37_Block_l0 self_ref37_Block k r3.2.L r3.2.At deep s_Vars s_Ports s_Timers s_States out (w64 (n - 1)) else
  if 0 < deep then
  if ¬ (2 : Int) = 0 then
  if (r2.1.tmod 2) = 0 then
  (self_ref37_Block r3.2 (ref37_Scope.mk s_Vars s_Ports s_Timers s_States) (w64 (deep - 1))).bind fun r62 =>
  (self_ref37_Block r62.2 (ref37_Scope.mk s_Vars s_Ports s_Timers s_States) (w64 (deep - 1))).bind fun r63 =>
  if (out.length + [api_Act.mk 6 [] [] [r3.1] 0 r62.1 r63.1 0].length) * 128 ≤ 140737488355328 then
  ref37_Block_l0 self_ref37_Block k r63.2.L r63.2.At deep s_Vars s_Ports s_Timers s_States (out ++ [api_Act.mk 6 [] [] [r3.1] 0 r62.1 r63.1 0]) (w64 (n - 1)) else none else
  if 0 < deep then
  (ref37_Row_Next r3.2 4).bind fun r64 =>
  (self_ref37_Block r64.2 (ref37_Scope.mk s_Vars s_Ports s_Timers s_States) (w64 (deep - 1))).bind fun r65 =>
  if (out.length + [api_Act.mk 7 [] [] [] (w64 (1 + r64.1)) r65.1 [] 0].length) * 128 ≤ 140737488355328 then
  ref37_Block_l0 self_ref37_Block k r65.2.L r65.2.At deep s_Vars s_Ports s_Timers s_States (out ++ [api_Act.mk 7 [] [] [] (w64 (1 + r64.1)) r65.1 [] 0]) (w64 (n - 1)) else none else
  ref37_Block_l0 self_ref37_Block k r3.2.L r3.2.At deep s_Vars s_Ports s_Timers s_States out (w64 (n - 1)) else none else
  if 0 < deep then
  (ref37_Row_Next r3.2 4).bind fun r66 =>
  (self_ref37_Block r66.2 (ref37_Scope.mk s_Vars s_Ports s_Timers s_States) (w64 (deep - 1))).bind fun r67 =>
  if (out.length + [api_Act.mk 7 [] [] [] (w64 (1 + r66.1)) r67.1 [] 0].length) * 128 ≤ 140737488355328 then
  ref37_Block_l0 self_ref37_Block k r67.2.L r67.2.At deep s_Vars s_Ports s_Timers s_States (out ++ [api_Act.mk 7 [] [] [] (w64 (1 + r66.1)) r67.1 [] 0]) (w64 (n - 1)) else none else
  ref37_Block_l0 self_ref37_Block k r3.2.L r3.2.At deep s_Vars s_Ports s_Timers s_States out (w64 (n - 1)) else
  if r2.1 = 3 then
  (ref37_Row_Next r3.2 8).bind fun r68 =>
  (ref37_Event r68.1).bind fun r69 =>
  (ref37_Row_Next r68.2 2).bind fun r70 =>
  if 0 ≤ r70.1 then
  if r70.1 ≤ ([r3.1].length : Int) then
  if (out.length + [api_Act.mk 2 [] r69 (cut [r3.1] 0 r70.1) 0 [] [] 0].length) * 128 ≤ 140737488355328 then
  ref37_Block_l0 self_ref37_Block k r70.2.L r70.2.At deep s_Vars s_Ports s_Timers s_States (out ++ [api_Act.mk 2 [] r69 (cut [r3.1] 0 r70.1) 0 [] [] 0]) (w64 (n - 1)) else none else none else none else
  if r2.1 < 7 then
  if 0 < (s_Ports.length : Int) then
  (ref37_pick r3.2 s_Ports []).bind fun r71 =>
  (ref37_Row_Next r71.2 3).bind fun r72 =>
  (ref37_Event r72.1).bind fun r73 =>
  (ref37_Row_Next r72.2 2).bind fun r74 =>
  if 0 ≤ r74.1 then
  if r74.1 ≤ ([r3.1].length : Int) then
  if (out.length + [api_Act.mk 3 r71.1 r73 (cut [r3.1] 0 r74.1) 0 [] [] 0].length) * 128 ≤ 140737488355328 then
  ref37_Block_l0 self_ref37_Block k r74.2.L r74.2.At deep s_Vars s_Ports s_Timers s_States (out ++ [api_Act.mk 3 r71.1 r73 (cut [r3.1] 0 r74.1) 0 [] [] 0]) (w64 (n - 1)) else none else none else none else
  if r2.1 = 7 then
  if 0 < (s_Timers.length : Int) then
  (ref37_pick r3.2 s_Timers []).bind fun r75 =>
  (ref37_Row_Next r75.2 3).bind fun r76 =>
  if (out.length + [api_Act.mk 4 r75.1 [] [api_Expr.mk 1 (w64 (1 + r76.1)) [] [] 0] 0 [] [] 0].length) * 128 ≤ 140737488355328 then
  ref37_Block_l0 self_ref37_Block k r76.2.L r76.2.At deep s_Vars s_Ports s_Timers s_States (out ++ [api_Act.mk 4 r75.1 [] [api_Expr.mk 1 (w64 (1 + r76.1)) [] [] 0] 0 [] [] 0]) (w64 (n - 1)) else none else
  if r2.1 = 8 then
  if 0 < (s_Timers.length : Int) then
  (ref37_pick r3.2 s_Timers []).bind fun r77 =>
  if (out.length + [api_Act.mk 5 r77.1 [] [] 0 [] [] 0].length) * 128 ≤ 140737488355328 then
  ref37_Block_l0 self_ref37_Block k r77.2.L r77.2.At deep s_Vars s_Ports s_Timers s_States (out ++ [api_Act.mk 5 r77.1 [] [] 0 [] [] 0]) (w64 (n - 1)) else none else
  if 0 < deep then
  if ¬ (2 : Int) = 0 then
  if (r2.1.tmod 2) = 0 then
  (self_ref37_Block r3.2 (ref37_Scope.mk s_Vars s_Ports s_Timers s_States) (w64 (deep - 1))).bind fun r78 =>
  (self_ref37_Block r78.2 (ref37_Scope.mk s_Vars s_Ports s_Timers s_States) (w64 (deep - 1))).bind fun r79 =>
  if (out.length + [api_Act.mk 6 [] [] [r3.1] 0 r78.1 r79.1 0].length) * 128 ≤ 140737488355328 then
  ref37_Block_l0 self_ref37_Block k r79.2.L r79.2.At deep s_Vars s_Ports s_Timers s_States (out ++ [api_Act.mk 6 [] [] [r3.1] 0 r78.1 r79.1 0]) (w64 (n - 1)) else none else
  if 0 < deep then
  (ref37_Row_Next r3.2 4).bind fun r80 =>
  (self_ref37_Block r80.2 (ref37_Scope.mk s_Vars s_Ports s_Timers s_States) (w64 (deep - 1))).bind fun r81 =>
  if (out.length + [api_Act.mk 7 [] [] [] (w64 (1 + r80.1)) r81.1 [] 0].length) * 128 ≤ 140737488355328 then
  ref37_Block_l0 self_ref37_Block k r81.2.L r81.2.At deep s_Vars s_Ports s_Timers s_States (out ++ [api_Act.mk 7 [] [] [] (w64 (1 + r80.1)) r81.1 [] 0]) (w64 (n - 1)) else none else
  ref37_Block_l0 self_ref37_Block k r3.2.L r3.2.At deep s_Vars s_Ports s_Timers s_States out (w64 (n - 1)) else none else
  if 0 < deep then
  (ref37_Row_Next r3.2 4).bind fun r82 =>
  (self_ref37_Block r82.2 (ref37_Scope.mk s_Vars s_Ports s_Timers s_States) (w64 (deep - 1))).bind fun r83 =>
  if (out.length + [api_Act.mk 7 [] [] [] (w64 (1 + r82.1)) r83.1 [] 0].length) * 128 ≤ 140737488355328 then
  ref37_Block_l0 self_ref37_Block k r83.2.L r83.2.At deep s_Vars s_Ports s_Timers s_States (out ++ [api_Act.mk 7 [] [] [] (w64 (1 + r82.1)) r83.1 [] 0]) (w64 (n - 1)) else none else
  ref37_Block_l0 self_ref37_Block k r3.2.L r3.2.At deep s_Vars s_Ports s_Timers s_States out (w64 (n - 1)) else
  if 0 < deep then
  if ¬ (2 : Int) = 0 then
  if (r2.1.tmod 2) = 0 then
  (self_ref37_Block r3.2 (ref37_Scope.mk s_Vars s_Ports s_Timers s_States) (w64 (deep - 1))).bind fun r84 =>
  (self_ref37_Block r84.2 (ref37_Scope.mk s_Vars s_Ports s_Timers s_States) (w64 (deep - 1))).bind fun r85 =>
  if (out.length + [api_Act.mk 6 [] [] [r3.1] 0 r84.1 r85.1 0].length) * 128 ≤ 140737488355328 then
  ref37_Block_l0 self_ref37_Block k r85.2.L r85.2.At deep s_Vars s_Ports s_Timers s_States (out ++ [api_Act.mk 6 [] [] [r3.1] 0 r84.1 r85.1 0]) (w64 (n - 1)) else none else
  if 0 < deep then
  (ref37_Row_Next r3.2 4).bind fun r86 =>
  (self_ref37_Block r86.2 (ref37_Scope.mk s_Vars s_Ports s_Timers s_States) (w64 (deep - 1))).bind fun r87 =>
  if (out.length + [api_Act.mk 7 [] [] [] (w64 (1 + r86.1)) r87.1 [] 0].length) * 128 ≤ 140737488355328 then
  ref37_Block_l0 self_ref37_Block k r87.2.L r87.2.At deep s_Vars s_Ports s_Timers s_States (out ++ [api_Act.mk 7 [] [] [] (w64 (1 + r86.1)) r87.1 [] 0]) (w64 (n - 1)) else none else
  ref37_Block_l0 self_ref37_Block k r3.2.L r3.2.At deep s_Vars s_Ports s_Timers s_States out (w64 (n - 1)) else none else
  if 0 < deep then
  (ref37_Row_Next r3.2 4).bind fun r88 =>
  (self_ref37_Block r88.2 (ref37_Scope.mk s_Vars s_Ports s_Timers s_States) (w64 (deep - 1))).bind fun r89 =>
  if (out.length + [api_Act.mk 7 [] [] [] (w64 (1 + r88.1)) r89.1 [] 0].length) * 128 ≤ 140737488355328 then
  ref37_Block_l0 self_ref37_Block k r89.2.L r89.2.At deep s_Vars s_Ports s_Timers s_States (out ++ [api_Act.mk 7 [] [] [] (w64 (1 + r88.1)) r89.1 [] 0]) (w64 (n - 1)) else none else
  ref37_Block_l0 self_ref37_Block k r3.2.L r3.2.At deep s_Vars s_Ports s_Timers s_States out (w64 (n - 1)) else
  if r2.1 = 8 then
  if 0 < (s_Timers.length : Int) then
  (ref37_pick r3.2 s_Timers []).bind fun r90 =>
  if (out.length + [api_Act.mk 5 r90.1 [] [] 0 [] [] 0].length) * 128 ≤ 140737488355328 then
  ref37_Block_l0 self_ref37_Block k r90.2.L r90.2.At deep s_Vars s_Ports s_Timers s_States (out ++ [api_Act.mk 5 r90.1 [] [] 0 [] [] 0]) (w64 (n - 1)) else none else
  if 0 < deep then
  if ¬ (2 : Int) = 0 then
  if (r2.1.tmod 2) = 0 then
  (self_ref37_Block r3.2 (ref37_Scope.mk s_Vars s_Ports s_Timers s_States) (w64 (deep - 1))).bind fun r91 =>
  (self_ref37_Block r91.2 (ref37_Scope.mk s_Vars s_Ports s_Timers s_States) (w64 (deep - 1))).bind fun r92 =>
  if (out.length + [api_Act.mk 6 [] [] [r3.1] 0 r91.1 r92.1 0].length) * 128 ≤ 140737488355328 then
  ref37_Block_l0 self_ref37_Block k r92.2.L r92.2.At deep s_Vars s_Ports s_Timers s_States (out ++ [api_Act.mk 6 [] [] [r3.1] 0 r91.1 r92.1 0]) (w64 (n - 1)) else none else
  if 0 < deep then
  (ref37_Row_Next r3.2 4).bind fun r93 =>
  (self_ref37_Block r93.2 (ref37_Scope.mk s_Vars s_Ports s_Timers s_States) (w64 (deep - 1))).bind fun r94 =>
  if (out.length + [api_Act.mk 7 [] [] [] (w64 (1 + r93.1)) r94.1 [] 0].length) * 128 ≤ 140737488355328 then
  ref37_Block_l0 self_ref37_Block k r94.2.L r94.2.At deep s_Vars s_Ports s_Timers s_States (out ++ [api_Act.mk 7 [] [] [] (w64 (1 + r93.1)) r94.1 [] 0]) (w64 (n - 1)) else none else
  ref37_Block_l0 self_ref37_Block k r3.2.L r3.2.At deep s_Vars s_Ports s_Timers s_States out (w64 (n - 1)) else none else
  if 0 < deep then
  (ref37_Row_Next r3.2 4).bind fun r95 =>
  (self_ref37_Block r95.2 (ref37_Scope.mk s_Vars s_Ports s_Timers s_States) (w64 (deep - 1))).bind fun r96 =>
  if (out.length + [api_Act.mk 7 [] [] [] (w64 (1 + r95.1)) r96.1 [] 0].length) * 128 ≤ 140737488355328 then
  ref37_Block_l0 self_ref37_Block k r96.2.L r96.2.At deep s_Vars s_Ports s_Timers s_States (out ++ [api_Act.mk 7 [] [] [] (w64 (1 + r95.1)) r96.1 [] 0]) (w64 (n - 1)) else none else
  ref37_Block_l0 self_ref37_Block k r3.2.L r3.2.At deep s_Vars s_Ports s_Timers s_States out (w64 (n - 1)) else
  if 0 < deep then
  if ¬ (2 : Int) = 0 then
  if (r2.1.tmod 2) = 0 then
  (self_ref37_Block r3.2 (ref37_Scope.mk s_Vars s_Ports s_Timers s_States) (w64 (deep - 1))).bind fun r97 =>
  (self_ref37_Block r97.2 (ref37_Scope.mk s_Vars s_Ports s_Timers s_States) (w64 (deep - 1))).bind fun r98 =>
  if (out.length + [api_Act.mk 6 [] [] [r3.1] 0 r97.1 r98.1 0].length) * 128 ≤ 140737488355328 then
  ref37_Block_l0 self_ref37_Block k r98.2.L r98.2.At deep s_Vars s_Ports s_Timers s_States (out ++ [api_Act.mk 6 [] [] [r3.1] 0 r97.1 r98.1 0]) (w64 (n - 1)) else none else
  if 0 < deep then
  (ref37_Row_Next r3.2 4).bind fun r99 =>
  (self_ref37_Block r99.2 (ref37_Scope.mk s_Vars s_Ports s_Timers s_States) (w64 (deep - 1))).bind fun r100 =>
  if (out.length + [api_Act.mk 7 [] [] [] (w64 (1 + r99.1)) r100.1 [] 0].length) * 128 ≤ 140737488355328 then
  ref37_Block_l0 self_ref37_Block k r100.2.L r100.2.At deep s_Vars s_Ports s_Timers s_States (out ++ [api_Act.mk 7 [] [] [] (w64 (1 + r99.1)) r100.1 [] 0]) (w64 (n - 1)) else none else
  ref37_Block_l0 self_ref37_Block k r3.2.L r3.2.At deep s_Vars s_Ports s_Timers s_States out (w64 (n - 1)) else none else
  if 0 < deep then
  (ref37_Row_Next r3.2 4).bind fun r101 =>
  (self_ref37_Block r101.2 (ref37_Scope.mk s_Vars s_Ports s_Timers s_States) (w64 (deep - 1))).bind fun r102 =>
  if (out.length + [api_Act.mk 7 [] [] [] (w64 (1 + r101.1)) r102.1 [] 0].length) * 128 ≤ 140737488355328 then
  ref37_Block_l0 self_ref37_Block k r102.2.L r102.2.At deep s_Vars s_Ports s_Timers s_States (out ++ [api_Act.mk 7 [] [] [] (w64 (1 + r101.1)) r102.1 [] 0]) (w64 (n - 1)) else none else
  ref37_Block_l0 self_ref37_Block k r3.2.L r3.2.At deep s_Vars s_Ports s_Timers s_States out (w64 (n - 1)) else
  if r2.1 = 7 then
  if 0 < (s_Timers.length : Int) then
  (ref37_pick r3.2 s_Timers []).bind fun r103 =>
  (ref37_Row_Next r103.2 3).bind fun r104 =>
  if (out.length + [api_Act.mk 4 r103.1 [] [api_Expr.mk 1 (w64 (1 + r104.1)) [] [] 0] 0 [] [] 0].length) * 128 ≤ 140737488355328 then
  ref37_Block_l0 self_ref37_Block k r104.2.L r104.2.At deep s_Vars s_Ports s_Timers s_States (out ++ [api_Act.mk 4 r103.1 [] [api_Expr.mk 1 (w64 (1 + r104.1)) [] [] 0] 0 [] [] 0]) (w64 (n - 1)) else none else
  if r2.1 = 8 then
  if 0 < (s_Timers.length : Int) then
  (ref37_pick r3.2 s_Timers []).bind fun r105 =>
  if (out.length + [api_Act.mk 5 r105.1 [] [] 0 [] [] 0].length) * 128 ≤ 140737488355328 then
  ref37_Block_l0 self_ref37_Block k r105.2.L r105.2.At deep s_Vars s_Ports s_Timers s_States (out ++ [api_Act.mk 5 r105.1 [] [] 0 [] [] 0]) (w64 (n - 1)) else none else
  if 0 < deep then
  if ¬ (2 : Int) = 0 then
  if (r2.1.tmod 2) = 0 then
  (self_ref37_Block r3.2 (ref37_Scope.mk s_Vars s_Ports s_Timers s_States) (w64 (deep - 1))).bind fun r106 =>
  (self_ref37_Block r106.2 (ref37_Scope.mk s_Vars s_Ports s_Timers s_States) (w64 (deep - 1))).bind fun r107 =>
  if (out.length + [api_Act.mk 6 [] [] [r3.1] 0 r106.1 r107.1 0].length) * 128 ≤ 140737488355328 then
  ref37_Block_l0 self_ref37_Block k r107.2.L r107.2.At deep s_Vars s_Ports s_Timers s_States (out ++ [api_Act.mk 6 [] [] [r3.1] 0 r106.1 r107.1 0]) (w64 (n - 1)) else none else
  if 0 < deep then
  (ref37_Row_Next r3.2 4).bind fun r108 =>
  (self_ref37_Block r108.2 (ref37_Scope.mk s_Vars s_Ports s_Timers s_States) (w64 (deep - 1))).bind fun r109 =>
  if (out.length + [api_Act.mk 7 [] [] [] (w64 (1 + r108.1)) r109.1 [] 0].length) * 128 ≤ 140737488355328 then
  ref37_Block_l0 self_ref37_Block k r109.2.L r109.2.At deep s_Vars s_Ports s_Timers s_States (out ++ [api_Act.mk 7 [] [] [] (w64 (1 + r108.1)) r109.1 [] 0]) (w64 (n - 1)) else none else
  ref37_Block_l0 self_ref37_Block k r3.2.L r3.2.At deep s_Vars s_Ports s_Timers s_States out (w64 (n - 1)) else none else
  if 0 < deep then
  (ref37_Row_Next r3.2 4).bind fun r110 =>
  (self_ref37_Block r110.2 (ref37_Scope.mk s_Vars s_Ports s_Timers s_States) (w64 (deep - 1))).bind fun r111 =>
  if (out.length + [api_Act.mk 7 [] [] [] (w64 (1 + r110.1)) r111.1 [] 0].length) * 128 ≤ 140737488355328 then
  ref37_Block_l0 self_ref37_Block k r111.2.L r111.2.At deep s_Vars s_Ports s_Timers s_States (out ++ [api_Act.mk 7 [] [] [] (w64 (1 + r110.1)) r111.1 [] 0]) (w64 (n - 1)) else none else
  ref37_Block_l0 self_ref37_Block k r3.2.L r3.2.At deep s_Vars s_Ports s_Timers s_States out (w64 (n - 1)) else
  if 0 < deep then
  if ¬ (2 : Int) = 0 then
  if (r2.1.tmod 2) = 0 then
  (self_ref37_Block r3.2 (ref37_Scope.mk s_Vars s_Ports s_Timers s_States) (w64 (deep - 1))).bind fun r112 =>
  (self_ref37_Block r112.2 (ref37_Scope.mk s_Vars s_Ports s_Timers s_States) (w64 (deep - 1))).bind fun r113 =>
  if (out.length + [api_Act.mk 6 [] [] [r3.1] 0 r112.1 r113.1 0].length) * 128 ≤ 140737488355328 then
  ref37_Block_l0 self_ref37_Block k r113.2.L r113.2.At deep s_Vars s_Ports s_Timers s_States (out ++ [api_Act.mk 6 [] [] [r3.1] 0 r112.1 r113.1 0]) (w64 (n - 1)) else none else
  if 0 < deep then
  (ref37_Row_Next r3.2 4).bind fun r114 =>
  (self_ref37_Block r114.2 (ref37_Scope.mk s_Vars s_Ports s_Timers s_States) (w64 (deep - 1))).bind fun r115 =>
  if (out.length + [api_Act.mk 7 [] [] [] (w64 (1 + r114.1)) r115.1 [] 0].length) * 128 ≤ 140737488355328 then
  ref37_Block_l0 self_ref37_Block k r115.2.L r115.2.At deep s_Vars s_Ports s_Timers s_States (out ++ [api_Act.mk 7 [] [] [] (w64 (1 + r114.1)) r115.1 [] 0]) (w64 (n - 1)) else none else
  ref37_Block_l0 self_ref37_Block k r3.2.L r3.2.At deep s_Vars s_Ports s_Timers s_States out (w64 (n - 1)) else none else
  if 0 < deep then
  (ref37_Row_Next r3.2 4).bind fun r116 =>
  (self_ref37_Block r116.2 (ref37_Scope.mk s_Vars s_Ports s_Timers s_States) (w64 (deep - 1))).bind fun r117 =>
  if (out.length + [api_Act.mk 7 [] [] [] (w64 (1 + r116.1)) r117.1 [] 0].length) * 128 ≤ 140737488355328 then
  ref37_Block_l0 self_ref37_Block k r117.2.L r117.2.At deep s_Vars s_Ports s_Timers s_States (out ++ [api_Act.mk 7 [] [] [] (w64 (1 + r116.1)) r117.1 [] 0]) (w64 (n - 1)) else none else
  ref37_Block_l0 self_ref37_Block k r3.2.L r3.2.At deep s_Vars s_Ports s_Timers s_States out (w64 (n - 1)) else
  if r2.1 = 8 then
  if 0 < (s_Timers.length : Int) then
  (ref37_pick r3.2 s_Timers []).bind fun r118 =>
  if (out.length + [api_Act.mk 5 r118.1 [] [] 0 [] [] 0].length) * 128 ≤ 140737488355328 then
  ref37_Block_l0 self_ref37_Block k r118.2.L r118.2.At deep s_Vars s_Ports s_Timers s_States (out ++ [api_Act.mk 5 r118.1 [] [] 0 [] [] 0]) (w64 (n - 1)) else none else
  if 0 < deep then
  if ¬ (2 : Int) = 0 then
  if (r2.1.tmod 2) = 0 then
  (self_ref37_Block r3.2 (ref37_Scope.mk s_Vars s_Ports s_Timers s_States) (w64 (deep - 1))).bind fun r119 =>
  (self_ref37_Block r119.2 (ref37_Scope.mk s_Vars s_Ports s_Timers s_States) (w64 (deep - 1))).bind fun r120 =>
  if (out.length + [api_Act.mk 6 [] [] [r3.1] 0 r119.1 r120.1 0].length) * 128 ≤ 140737488355328 then
  ref37_Block_l0 self_ref37_Block k r120.2.L r120.2.At deep s_Vars s_Ports s_Timers s_States (out ++ [api_Act.mk 6 [] [] [r3.1] 0 r119.1 r120.1 0]) (w64 (n - 1)) else none else
  if 0 < deep then
  (ref37_Row_Next r3.2 4).bind fun r121 =>
  (self_ref37_Block r121.2 (ref37_Scope.mk s_Vars s_Ports s_Timers s_States) (w64 (deep - 1))).bind fun r122 =>
  if (out.length + [api_Act.mk 7 [] [] [] (w64 (1 + r121.1)) r122.1 [] 0].length) * 128 ≤ 140737488355328 then
  ref37_Block_l0 self_ref37_Block k r122.2.L r122.2.At deep s_Vars s_Ports s_Timers s_States (out ++ [api_Act.mk 7 [] [] [] (w64 (1 + r121.1)) r122.1 [] 0]) (w64 (n - 1)) else none else
  ref37_Block_l0 self_ref37_Block k r3.2.L r3.2.At deep s_Vars s_Ports s_Timers s_States out (w64 (n - 1)) else none else
  if 0 < deep then
  (ref37_Row_Next r3.2 4).bind fun r123 =>
  (self_ref37_Block r123.2 (ref37_Scope.mk s_Vars s_Ports s_Timers s_States) (w64 (deep - 1))).bind fun r124 =>
  if (out.length + [api_Act.mk 7 [] [] [] (w64 (1 + r123.1)) r124.1 [] 0].length) * 128 ≤ 140737488355328 then
  ref37_Block_l0 self_ref37_Block k r124.2.L r124.2.At deep s_Vars s_Ports s_Timers s_States (out ++ [api_Act.mk 7 [] [] [] (w64 (1 + r123.1)) r124.1 [] 0]) (w64 (n - 1)) else none else
  ref37_Block_l0 self_ref37_Block k r3.2.L r3.2.At deep s_Vars s_Ports s_Timers s_States out (w64 (n - 1)) else
  if 0 < deep then
  if ¬ (2 : Int) = 0 then
  if (r2.1.tmod 2) = 0 then
  (self_ref37_Block r3.2 (ref37_Scope.mk s_Vars s_Ports s_Timers s_States) (w64 (deep - 1))).bind fun r125 =>
  (self_ref37_Block r125.2 (ref37_Scope.mk s_Vars s_Ports s_Timers s_States) (w64 (deep - 1))).bind fun r126 =>
  if (out.length + [api_Act.mk 6 [] [] [r3.1] 0 r125.1 r126.1 0].length) * 128 ≤ 140737488355328 then
  ref37_Block_l0 self_ref37_Block k r126.2.L r126.2.At deep s_Vars s_Ports s_Timers s_States (out ++ [api_Act.mk 6 [] [] [r3.1] 0 r125.1 r126.1 0]) (w64 (n - 1)) else none else
  if 0 < deep then
  (ref37_Row_Next r3.2 4).bind fun r127 =>
  (self_ref37_Block r127.2 (ref37_Scope.mk s_Vars s_Ports s_Timers s_States) (w64 (deep - 1))).bind fun r128 =>
  if (out.length + [api_Act.mk 7 [] [] [] (w64 (1 + r127.1)) r128.1 [] 0].length) * 128 ≤ 140737488355328 then
  ref37_Block_l0 self_ref37_Block k r128.2.L r128.2.At deep s_Vars s_Ports s_Timers s_States (out ++ [api_Act.mk 7 [] [] [] (w64 (1 + r127.1)) r128.1 [] 0]) (w64 (n - 1)) else none else
  ref37_Block_l0 self_ref37_Block k r3.2.L r3.2.At deep s_Vars s_Ports s_Timers s_States out (w64 (n - 1)) else none else
  if 0 < deep then
  (ref37_Row_Next r3.2 4).bind fun r129 =>
  (self_ref37_Block r129.2 (ref37_Scope.mk s_Vars s_Ports s_Timers s_States) (w64 (deep - 1))).bind fun r130 =>
  if (out.length + [api_Act.mk 7 [] [] [] (w64 (1 + r129.1)) r130.1 [] 0].length) * 128 ≤ 140737488355328 then
  ref37_Block_l0 self_ref37_Block k r130.2.L r130.2.At deep s_Vars s_Ports s_Timers s_States (out ++ [api_Act.mk 7 [] [] [] (w64 (1 + r129.1)) r130.1 [] 0]) (w64 (n - 1)) else none else
  ref37_Block_l0 self_ref37_Block k r3.2.L r3.2.At deep s_Vars s_Ports s_Timers s_States out (w64 (n - 1)) else
  some (out, ref37_Row.mk r__L r__At)
noncomputable def ref37_Block_b (self_ref37_Block : ref37_Row → ref37_Scope → Int → Option (List api_Act × ref37_Row)) (k : Nat) (r_ : ref37_Row) (s : ref37_Scope) (deep : Int) : Option (List api_Act × ref37_Row) := (ref37_Row_Next r_ 3).bind fun r1 =>
 ref37_Block_l0 self_ref37_Block k r1.2.L r1.2.At deep s.Vars s.Ports s.Timers s.States [] r1.1
noncomputable def ref37_Block_f : Nat → ref37_Row → ref37_Scope → Int → Option (List api_Act × ref37_Row)
 | 0, _, _, _ => none
 | k + 1, x0, x1, x2 => ref37_Block_b (ref37_Block_f k) k x0 x1 x2
noncomputable def ref37_Block  (r_ : ref37_Row) (s : ref37_Scope) (deep : Int) : Option (List api_Act × ref37_Row) := lim (fun k (x : ref37_Row × ref37_Scope × Int) => ref37_Block_f k x.1 x.2.1 x.2.2) (r_, s, deep)
noncomputable abbrev ref37_Block_T (self_ref37_Block : ref37_Row → ref37_Scope → Int → Option (List api_Act × ref37_Row)) : Tab S := ⟨[⟨34, [.obj [.data (.st 9)], .val (.data (.int .i64))], [.val (.data (.int .i64))], fun x => ref37_Row_Next x.1 x.2⟩, ⟨35, [.obj [.data (.st 9)], .val (.data (.st 10)), .val (.data (.int .i64))], [.val (.data (.st 1))], fun x => ref37_Expr x.1 x.2.1 x.2.2⟩, ⟨36, [.obj [.data (.st 9)], .val (.data (.sl .str)), .val (.data .str)], [.val (.data .str)], fun x => ref37_pick x.1 x.2.1 x.2.2⟩, ⟨37, [.val (.data (.int .i64))], [.val (.data .str)], fun x => ref37_Event x⟩, ⟨16, [.obj [.data (.st 9)], .val (.data (.st 10)), .val (.data (.int .i64))], [.val (.town (.st 0))], fun x => self_ref37_Block x.1 x.2.1 x.2.2⟩], [], false, false, none, []⟩
noncomputable def ref37_Block_L (self_ref37_Block : ref37_Row → ref37_Scope → Int → Option (List api_Act × ref37_Row)) (k : Nat) : Nat → List (Lab S (List api_Act × ref37_Row))
 | 0 => [⟨[0, 2, 4, 7, 8], [.obj [.data (.sl (.int .i64)), .data (.int .i64)], .val (.data (.int .i64)), .obj [.data (.sl .str), .data (.sl .str), .data (.sl .str), .data (.sl .str)], .val (.town (.st 0)), .val (.data (.int .i64))], fun x => ref37_Block_l0 self_ref37_Block k x.1.1 x.1.2 x.2.1 x.2.2.1.1 x.2.2.1.2.1 x.2.2.1.2.2.1 x.2.2.1.2.2.2 x.2.2.2.1 x.2.2.2.2, false⟩]
 | _ + 1 => []
theorem ref37_Block_eq (self_ref37_Block : ref37_Row → ref37_Scope → Int → Option (List api_Act × ref37_Row)) (k : Nat) (r_ : ref37_Row) (s : ref37_Scope) (deep : Int) : ref37_Block_b self_ref37_Block k r_ s deep = exec S (ref37_Block_T self_ref37_Block) byt (labs S (ref37_Block_T self_ref37_Block) (ref37_Block_L self_ref37_Block k)) (ac [] Tryz.f16) (frame0 S [.obj [.data (.st 9)], .val (.data (.st 10)), .val (.data (.int .i64))] (r_, s, deep)) (retK S (ref37_Block_T self_ref37_Block) Tryz.f16 [.obj [.data (.st 9)], .val (.data (.st 10)), .val (.data (.int .i64))] [.val (.town (.st 0))]) := by kernel_rfl
theorem ref37_Block_vc (self_ref37_Block : ref37_Row → ref37_Scope → Int → Option (List api_Act × ref37_Row)) (k : Nat) : VC S (ref37_Block_T self_ref37_Block) byt (ref37_Block_L self_ref37_Block k) (ref37_Block_L self_ref37_Block (k + 1)) (ac [] Tryz.f16) (retK S (ref37_Block_T self_ref37_Block) Tryz.f16 [.obj [.data (.st 9)], .val (.data (.st 10)), .val (.data (.int .i64))] [.val (.town (.st 0))]) = [∀ x : (List Int × Int) × Int × (List (List UInt8) × List (List UInt8) × List (List UInt8) × List (List UInt8)) × List api_Act × Int, ref37_Block_l0 self_ref37_Block (k + 1) x.1.1 x.1.2 x.2.1 x.2.2.1.1 x.2.2.1.2.1 x.2.2.1.2.2.1 x.2.2.1.2.2.2 x.2.2.2.1 x.2.2.2.2 = ref37_Block_l0 self_ref37_Block (k + 1) x.1.1 x.1.2 x.2.1 x.2.2.1.1 x.2.2.1.2.1 x.2.2.1.2.2.1 x.2.2.1.2.2.2 x.2.2.2.1 x.2.2.2.2] := by kernel_rfl
theorem ref37_Block_sndk (self_ref37_Block : ref37_Row → ref37_Scope → Int → Option (List api_Act × ref37_Row)) (hself : Snd Tryz.prog S ⟨16, [.obj [.data (.st 9)], .val (.data (.st 10)), .val (.data (.int .i64))], [.val (.town (.st 0))], fun x => self_ref37_Block x.1 x.2.1 x.2.2⟩) (k : Nat) : Snd Tryz.prog S ⟨16, [.obj [.data (.st 9)], .val (.data (.st 10)), .val (.data (.int .i64))], [.val (.town (.st 0))], fun x => ref37_Block_b self_ref37_Block k x.1 x.2.1 x.2.2⟩ :=
 fn_ok progOk (T := (ref37_Block_T self_ref37_Block)) (all_cons ref37_Row_Next_snd (all_cons ref37_Expr_snd (all_cons ref37_pick_snd (all_cons ref37_Event_snd (all_cons hself (all_nil)))))) (all_nil) (all_nil) mixed Tryz.func16 rfl (by kernel_rfl) (ac_code [] Tryz.f16 rfl) (L := ref37_Block_L self_ref37_Block)
  (fun n l h x => by match n, h with
   | 0, h =>
    rcases List.mem_cons.1 h with rfl | h
    · rfl
    cases h
   | _ + 1, h => cases h) (fun k n l h => by match n, h with
   | 0, h =>
    rcases List.mem_cons.1 h with rfl | h
    · rfl
    cases h
   | _ + 1, h => cases h)
  (fun k => All.mem (ref37_Block_vc self_ref37_Block k) ⟨fun _ => rfl, trivial⟩) (fun x r h => ⟨k, (ref37_Block_eq self_ref37_Block k x.1 x.2.1 x.2.2).symm.trans h⟩) (by kernel_rfl) (by kernel_rfl) (Nat.le_of_ble_eq_true (by kernel_rfl)) (by kernel_rfl)
theorem ref37_Block_sndf : ∀ k, Snd Tryz.prog S ⟨16, [.obj [.data (.st 9)], .val (.data (.st 10)), .val (.data (.int .i64))], [.val (.town (.st 0))], fun x => ref37_Block_f k x.1 x.2.1 x.2.2⟩
 | 0 => Snd.none ⟨_, Tryz.func16, by kernel_rfl, by kernel_rfl⟩ fun _ => rfl
 | k + 1 => ref37_Block_sndk (ref37_Block_f k) (ref37_Block_sndf k) k
theorem ref37_Block_snd : Snd Tryz.prog S ⟨16, [.obj [.data (.st 9)], .val (.data (.st 10)), .val (.data (.int .i64))], [.val (.town (.st 0))], fun x => ref37_Block x.1 x.2.1 x.2.2⟩ := Snd.lim (ref37_Block_sndf)
noncomputable def ref8_Blanks_l0 : Nat → Int → (List UInt8) → Int → Option (List UInt8)
 | 0, _, _, _ => none
 | k + 1, n, s, i => if i < n then
  if s.length + s_sp_sp.length ≤ 9223372036854775807 then
  ref8_Blanks_l0 k n (s ++ s_sp_sp) (w64 (i + 1)) else none else
  some s
noncomputable def ref8_Blanks_f (k : Nat) (n : Int) : Option (List UInt8) := ref8_Blanks_l0 k n [] 0
noncomputable def ref8_Blanks  (n : Int) : Option (List UInt8) := lim (fun k (x : Int) => ref8_Blanks_f k x) n
noncomputable abbrev ref8_Blanks_T : Tab S := ⟨[], [], false, false, none, []⟩
noncomputable def ref8_Blanks_L (k : Nat) : Nat → List (Lab S (List UInt8))
 | 0 => [⟨[0, 3, 4], [.val (.data (.int .i64)), .val (.data .str), .val (.data (.int .i64))], fun x => ref8_Blanks_l0 k x.1 x.2.1 x.2.2, false⟩]
 | _ + 1 => []
theorem ref8_Blanks_eq (k : Nat) (n : Int) : ref8_Blanks_f k n = exec S (ref8_Blanks_T) byt (labs S (ref8_Blanks_T) (ref8_Blanks_L k)) (ac [] Tryz.f32) (frame0 S [.val (.data (.int .i64))] n) (retK S (ref8_Blanks_T) Tryz.f32 [.val (.data (.int .i64))] [.val (.data .str)]) := by kernel_rfl
theorem ref8_Blanks_vc (k : Nat) : VC S (ref8_Blanks_T) byt (ref8_Blanks_L k) (ref8_Blanks_L (k + 1)) (ac [] Tryz.f32) (retK S (ref8_Blanks_T) Tryz.f32 [.val (.data (.int .i64))] [.val (.data .str)]) = [∀ x : Int × List UInt8 × Int, ref8_Blanks_l0 (k + 1) x.1 x.2.1 x.2.2 = ref8_Blanks_l0 (k + 1) x.1 x.2.1 x.2.2] := by kernel_rfl
theorem ref8_Blanks_sndk (k : Nat) : Snd Tryz.prog S ⟨32, [.val (.data (.int .i64))], [.val (.data .str)], fun x => ref8_Blanks_f k x⟩ :=
 fn_ok progOk (T := (ref8_Blanks_T)) (all_nil) (all_nil) (all_nil) mixed Tryz.func32 rfl (by kernel_rfl) (ac_code [] Tryz.f32 rfl) (L := ref8_Blanks_L)
  (fun n l h x => by match n, h with
   | 0, h =>
    rcases List.mem_cons.1 h with rfl | h
    · rfl
    cases h
   | _ + 1, h => cases h) (fun k n l h => by match n, h with
   | 0, h =>
    rcases List.mem_cons.1 h with rfl | h
    · rfl
    cases h
   | _ + 1, h => cases h)
  (fun k => All.mem (ref8_Blanks_vc k) ⟨fun _ => rfl, trivial⟩) (fun x r h => ⟨k, (ref8_Blanks_eq k x).symm.trans h⟩) (by kernel_rfl) (by kernel_rfl) (Nat.le_of_ble_eq_true (by kernel_rfl)) (by kernel_rfl)
theorem ref8_Blanks_snd : Snd Tryz.prog S ⟨32, [.val (.data (.int .i64))], [.val (.data .str)], fun x => ref8_Blanks x⟩ := Snd.lim (ref8_Blanks_sndk)
noncomputable def ref7_level  (k_ : Int) : Option Int := if k_ = 19 then
 some 1 else
 if k_ = 18 then
 some 2 else
 if 12 ≤ k_ then
 if k_ ≤ 17 then
 some 3 else
 if k_ = 10 then
 some 4 else
 if k_ = 11 then
 some 4 else
 if k_ = 7 then
 some 5 else
 if k_ = 8 then
 some 5 else
 if k_ = 9 then
 some 5 else
 if k_ = 5 then
 some 6 else
 if k_ = 6 then
 some 6 else
 some 7 else
 if k_ = 10 then
 some 4 else
 if k_ = 11 then
 some 4 else
 if k_ = 7 then
 some 5 else
 if k_ = 8 then
 some 5 else
 if k_ = 9 then
 some 5 else
 if k_ = 5 then
 some 6 else
 if k_ = 6 then
 some 6 else
 some 7
noncomputable abbrev ref7_level_T : Tab S := ⟨[], [], false, false, none, []⟩
noncomputable def ref7_level_L (k : Nat) : Nat → List (Lab S Int)
 | _ => []
theorem ref7_level_eq (k : Nat) (k_ : Int) : ref7_level k_ = exec S (ref7_level_T) byt (labs S (ref7_level_T) (ref7_level_L k)) (ac [] Tryz.f95) (frame0 S [.val (.data (.int .i64))] k_) (retK S (ref7_level_T) Tryz.f95 [.val (.data (.int .i64))] [.val (.data (.int .i64))]) := by kernel_rfl
theorem ref7_level_vc (k : Nat) : VC S (ref7_level_T) byt (ref7_level_L k) (ref7_level_L (k + 1)) (ac [] Tryz.f95) (retK S (ref7_level_T) Tryz.f95 [.val (.data (.int .i64))] [.val (.data (.int .i64))]) = [] := by kernel_rfl
theorem ref7_level_snd : Snd Tryz.prog S ⟨95, [.val (.data (.int .i64))], [.val (.data (.int .i64))], fun x => ref7_level x⟩ :=
 fn_ok progOk (T := (ref7_level_T)) (all_nil) (all_nil) (all_nil) mixed Tryz.func95 rfl (by kernel_rfl) (ac_code [] Tryz.f95 rfl) (L := ref7_level_L)
  (fun n l h x => by cases h) (fun k n l h => by cases h)
  (fun k => All.mem (ref7_level_vc k) trivial) (fun x r h => ⟨0, (ref7_level_eq 0 x).symm.trans h⟩) (by kernel_rfl) (by kernel_rfl) (Nat.le_of_ble_eq_true (by kernel_rfl)) (by kernel_rfl)
noncomputable def ref7_Dec_b (self_ref7_Dec : Int → Option (List UInt8)) (k : Nat) (n : Int) : Option (List UInt8) := if n ≤ (-10) then
 if ¬ (10 : Int) = 0 then
 if ¬ (10 : Int) = 0 then
 (self_ref7_Dec (w64 (n.tdiv 10))).bind fun r1 =>
 if 0 ≤ (w64 ((w64 (0 - (n.tmod 10))) + 1)) then
 if (w64 ((w64 (0 - (n.tmod 10))) + 1)) ≤ (s_0123456789.length : Int) then
 if 0 ≤ (w64 (0 - (n.tmod 10))) then
 if (w64 (0 - (n.tmod 10))) ≤ (w64 ((w64 (0 - (n.tmod 10))) + 1)) then
 if r1.length + (cut s_0123456789 (w64 (0 - (n.tmod 10))) (w64 ((w64 (0 - (n.tmod 10))) + 1))).length ≤ 9223372036854775807 then
 some (r1 ++ (cut s_0123456789 (w64 (0 - (n.tmod 10))) (w64 ((w64 (0 - (n.tmod 10))) + 1)))) else none else none else none else none else none else none else none else
 if n < 0 then
 if 0 ≤ (w64 ((w64 (0 - n)) + 1)) then
 if (w64 ((w64 (0 - n)) + 1)) ≤ (s_0123456789.length : Int) then
 if 0 ≤ (w64 (0 - n)) then
 if (w64 (0 - n)) ≤ (w64 ((w64 (0 - n)) + 1)) then
 if s_minus.length + (cut s_0123456789 (w64 (0 - n)) (w64 ((w64 (0 - n)) + 1))).length ≤ 9223372036854775807 then
 some (s_minus ++ (cut s_0123456789 (w64 (0 - n)) (w64 ((w64 (0 - n)) + 1)))) else none else none else none else none else none else
 if n < 10 then
 if 0 ≤ (w64 (n + 1)) then
 if (w64 (n + 1)) ≤ (s_0123456789.length : Int) then
 if 0 ≤ n then
 if n ≤ (w64 (n + 1)) then
 some (cut s_0123456789 n (w64 (n + 1))) else none else none else none else none else
 if ¬ (10 : Int) = 0 then
 (self_ref7_Dec (w64 (n.tdiv 10))).bind fun r2 =>
 if ¬ (10 : Int) = 0 then
 if ¬ (10 : Int) = 0 then
 if 0 ≤ (w64 ((n.tmod 10) + 1)) then
 if (w64 ((n.tmod 10) + 1)) ≤ (s_0123456789.length : Int) then
 if 0 ≤ (n.tmod 10) then
 if (n.tmod 10) ≤ (w64 ((n.tmod 10) + 1)) then
 if r2.length + (cut s_0123456789 (n.tmod 10) (w64 ((n.tmod 10) + 1))).length ≤ 9223372036854775807 then
 some (r2 ++ (cut s_0123456789 (n.tmod 10) (w64 ((n.tmod 10) + 1)))) else none else none else none else none else none else none else none else none
noncomputable def ref7_Dec_f : Nat → Int → Option (List UInt8)
 | 0, _ => none
 | k + 1, x0 => ref7_Dec_b (ref7_Dec_f k) k x0
noncomputable def ref7_Dec  (n : Int) : Option (List UInt8) := lim (fun k (x : Int) => ref7_Dec_f k x) n
noncomputable abbrev ref7_Dec_T (self_ref7_Dec : Int → Option (List UInt8)) : Tab S := ⟨[⟨68, [.val (.data (.int .i64))], [.val (.data .str)], fun x => self_ref7_Dec x⟩], [], false, false, none, []⟩
noncomputable def ref7_Dec_L (self_ref7_Dec : Int → Option (List UInt8)) (k : Nat) : Nat → List (Lab S (List UInt8))
 | _ => []
theorem ref7_Dec_eq (self_ref7_Dec : Int → Option (List UInt8)) (k : Nat) (n : Int) : ref7_Dec_b self_ref7_Dec k n = exec S (ref7_Dec_T self_ref7_Dec) byt (labs S (ref7_Dec_T self_ref7_Dec) (ref7_Dec_L self_ref7_Dec k)) (ac [] Tryz.f68) (frame0 S [.val (.data (.int .i64))] n) (retK S (ref7_Dec_T self_ref7_Dec) Tryz.f68 [.val (.data (.int .i64))] [.val (.data .str)]) := by kernel_rfl
theorem ref7_Dec_vc (self_ref7_Dec : Int → Option (List UInt8)) (k : Nat) : VC S (ref7_Dec_T self_ref7_Dec) byt (ref7_Dec_L self_ref7_Dec k) (ref7_Dec_L self_ref7_Dec (k + 1)) (ac [] Tryz.f68) (retK S (ref7_Dec_T self_ref7_Dec) Tryz.f68 [.val (.data (.int .i64))] [.val (.data .str)]) = [] := by kernel_rfl
theorem ref7_Dec_sndk (self_ref7_Dec : Int → Option (List UInt8)) (hself : Snd Tryz.prog S ⟨68, [.val (.data (.int .i64))], [.val (.data .str)], fun x => self_ref7_Dec x⟩) (k : Nat) : Snd Tryz.prog S ⟨68, [.val (.data (.int .i64))], [.val (.data .str)], fun x => ref7_Dec_b self_ref7_Dec k x⟩ :=
 fn_ok progOk (T := (ref7_Dec_T self_ref7_Dec)) (all_cons hself (all_nil)) (all_nil) (all_nil) mixed Tryz.func68 rfl (by kernel_rfl) (ac_code [] Tryz.f68 rfl) (L := ref7_Dec_L self_ref7_Dec)
  (fun n l h x => by cases h) (fun k n l h => by cases h)
  (fun k => All.mem (ref7_Dec_vc self_ref7_Dec k) trivial) (fun x r h => ⟨k, (ref7_Dec_eq self_ref7_Dec k x).symm.trans h⟩) (by kernel_rfl) (by kernel_rfl) (Nat.le_of_ble_eq_true (by kernel_rfl)) (by kernel_rfl)
theorem ref7_Dec_sndf : ∀ k, Snd Tryz.prog S ⟨68, [.val (.data (.int .i64))], [.val (.data .str)], fun x => ref7_Dec_f k x⟩
 | 0 => Snd.none ⟨_, Tryz.func68, by kernel_rfl, by kernel_rfl⟩ fun _ => rfl
 | k + 1 => ref7_Dec_sndk (ref7_Dec_f k) (ref7_Dec_sndf k) k
theorem ref7_Dec_snd : Snd Tryz.prog S ⟨68, [.val (.data (.int .i64))], [.val (.data .str)], fun x => ref7_Dec x⟩ := Snd.lim (ref7_Dec_sndf)
noncomputable def ref7_text  (k_ : Int) : Option (List UInt8) := if 0 ≤ k_ then
 if k_ < (row_x5f300.length : Int) then
 some (row_x5f300.getD k_.toNat []) else none else none
noncomputable abbrev ref7_text_T : Tab S := ⟨[], [], false, false, none, []⟩
noncomputable def ref7_text_L (k : Nat) : Nat → List (Lab S (List UInt8))
 | _ => []
theorem ref7_text_eq (k : Nat) (k_ : Int) : ref7_text k_ = exec S (ref7_text_T) byt (labs S (ref7_text_T) (ref7_text_L k)) (ac [] Tryz.f96) (frame0 S [.val (.data (.int .i64))] k_) (retK S (ref7_text_T) Tryz.f96 [.val (.data (.int .i64))] [.val (.data .str)]) := by kernel_rfl
theorem ref7_text_vc (k : Nat) : VC S (ref7_text_T) byt (ref7_text_L k) (ref7_text_L (k + 1)) (ac [] Tryz.f96) (retK S (ref7_text_T) Tryz.f96 [.val (.data (.int .i64))] [.val (.data .str)]) = [] := by kernel_rfl
theorem ref7_text_snd : Snd Tryz.prog S ⟨96, [.val (.data (.int .i64))], [.val (.data .str)], fun x => ref7_text x⟩ :=
 fn_ok progOk (T := (ref7_text_T)) (all_nil) (all_nil) (all_nil) mixed Tryz.func96 rfl (by kernel_rfl) (ac_code [] Tryz.f96 rfl) (L := ref7_text_L)
  (fun n l h x => by cases h) (fun k n l h => by cases h)
  (fun k => All.mem (ref7_text_vc k) trivial) (fun x r h => ⟨0, (ref7_text_eq 0 x).symm.trans h⟩) (by kernel_rfl) (by kernel_rfl) (Nat.le_of_ble_eq_true (by kernel_rfl)) (by kernel_rfl)
noncomputable def ref7_kid (self_ref7_Print : api_Expr → Option (List UInt8))  (e : api_Expr) (asks : Int) : Option (List UInt8) := (ref7_level e.Kind).bind fun r1 =>
 if r1 < asks then
 (self_ref7_Print (api_Expr.mk e.Kind e.N e.Name e.Kids e.At)).bind fun r2 =>
 if s_lp.length + r2.length ≤ 9223372036854775807 then
 if (s_lp ++ r2).length + s_rp.length ≤ 9223372036854775807 then
 some ((s_lp ++ r2) ++ s_rp) else none else none else
 (self_ref7_Print (api_Expr.mk e.Kind e.N e.Name e.Kids e.At)).bind fun r3 =>
 some r3
noncomputable abbrev ref7_kid_T (self_ref7_Print : api_Expr → Option (List UInt8)) : Tab S := ⟨[⟨95, [.val (.data (.int .i64))], [.val (.data (.int .i64))], fun x => ref7_level x⟩, ⟨66, [.val (.data (.st 1))], [.val (.data .str)], fun x => self_ref7_Print x⟩], [], false, false, none, []⟩
noncomputable def ref7_kid_L (self_ref7_Print : api_Expr → Option (List UInt8)) (k : Nat) : Nat → List (Lab S (List UInt8))
 | _ => []
theorem ref7_kid_eq (self_ref7_Print : api_Expr → Option (List UInt8)) (k : Nat) (e : api_Expr) (asks : Int) : ref7_kid self_ref7_Print e asks = exec S (ref7_kid_T self_ref7_Print) byt (labs S (ref7_kid_T self_ref7_Print) (ref7_kid_L self_ref7_Print k)) (ac [] Tryz.f97) (frame0 S [.val (.data (.st 1)), .val (.data (.int .i64))] (e, asks)) (retK S (ref7_kid_T self_ref7_Print) Tryz.f97 [.val (.data (.st 1)), .val (.data (.int .i64))] [.val (.data .str)]) := by kernel_rfl
theorem ref7_kid_vc (self_ref7_Print : api_Expr → Option (List UInt8)) (k : Nat) : VC S (ref7_kid_T self_ref7_Print) byt (ref7_kid_L self_ref7_Print k) (ref7_kid_L self_ref7_Print (k + 1)) (ac [] Tryz.f97) (retK S (ref7_kid_T self_ref7_Print) Tryz.f97 [.val (.data (.st 1)), .val (.data (.int .i64))] [.val (.data .str)]) = [] := by kernel_rfl
theorem ref7_kid_snd (self_ref7_Print : api_Expr → Option (List UInt8)) (hself_ref7_Print : Snd Tryz.prog S ⟨66, [.val (.data (.st 1))], [.val (.data .str)], fun x => self_ref7_Print x⟩) : Snd Tryz.prog S ⟨97, [.val (.data (.st 1)), .val (.data (.int .i64))], [.val (.data .str)], fun x => ref7_kid self_ref7_Print x.1 x.2⟩ :=
 fn_ok progOk (T := (ref7_kid_T self_ref7_Print)) (all_cons ref7_level_snd (all_cons hself_ref7_Print (all_nil))) (all_nil) (all_nil) mixed Tryz.func97 rfl (by kernel_rfl) (ac_code [] Tryz.f97 rfl) (L := ref7_kid_L self_ref7_Print)
  (fun n l h x => by cases h) (fun k n l h => by cases h)
  (fun k => All.mem (ref7_kid_vc self_ref7_Print k) trivial) (fun x r h => ⟨0, (ref7_kid_eq self_ref7_Print 0 x.1 x.2).symm.trans h⟩) (by kernel_rfl) (by kernel_rfl) (Nat.le_of_ble_eq_true (by kernel_rfl)) (by kernel_rfl)
noncomputable def ref7_Print_b (self_ref7_Print : api_Expr → Option (List UInt8)) (k : Nat) (e : api_Expr) : Option (List UInt8) := (ref7_level e.Kind).bind fun r1 =>
 if e.Kind = 1 then
 (ref7_Dec e.N).bind fun r2 =>
 some r2 else
 if e.Kind = 2 then
 some e.Name else
 if e.Kind = 3 then
 some s_dollar else
 if e.Kind = 4 then
 if s_in_xcc76e.length + e.Name.length ≤ 9223372036854775807 then
 if (s_in_xcc76e ++ e.Name).length + s_rp.length ≤ 9223372036854775807 then
 some ((s_in_xcc76e ++ e.Name) ++ s_rp) else none else none else
 if e.Kind = 5 then
 if e.Kind = 5 then
 (ref7_text e.Kind).bind fun r3 =>
 if (0 : Int) ≤ 0 then
 if 0 < (e.Kids.length : Int) then
 (ref7_kid self_ref7_Print (e.Kids.getD (0 : Int).toNat api_Expr.z) 6).bind fun r4 =>
 if r3.length + r4.length ≤ 9223372036854775807 then
 some (r3 ++ r4) else none else none else none else
 if r1 = 3 then
 if (0 : Int) ≤ 0 then
 if 0 < (e.Kids.length : Int) then
 (ref7_kid self_ref7_Print (e.Kids.getD (0 : Int).toNat api_Expr.z) 4).bind fun r5 =>
 if r5.length + s_sp.length ≤ 9223372036854775807 then
 (ref7_text e.Kind).bind fun r6 =>
 if (r5 ++ s_sp).length + r6.length ≤ 9223372036854775807 then
 if ((r5 ++ s_sp) ++ r6).length + s_sp.length ≤ 9223372036854775807 then
 if (0 : Int) ≤ 1 then
 if 1 < (e.Kids.length : Int) then
 (ref7_kid self_ref7_Print (e.Kids.getD (1 : Int).toNat api_Expr.z) (w64 (r1 + 1))).bind fun r7 =>
 if (((r5 ++ s_sp) ++ r6) ++ s_sp).length + r7.length ≤ 9223372036854775807 then
 some ((((r5 ++ s_sp) ++ r6) ++ s_sp) ++ r7) else none else none else none else none else none else none else none else none else
 if (0 : Int) ≤ 0 then
 if 0 < (e.Kids.length : Int) then
 (ref7_kid self_ref7_Print (e.Kids.getD (0 : Int).toNat api_Expr.z) r1).bind fun r8 =>
 if r8.length + s_sp.length ≤ 9223372036854775807 then
 (ref7_text e.Kind).bind fun r9 =>
 if (r8 ++ s_sp).length + r9.length ≤ 9223372036854775807 then
 if ((r8 ++ s_sp) ++ r9).length + s_sp.length ≤ 9223372036854775807 then
 if (0 : Int) ≤ 1 then
 if 1 < (e.Kids.length : Int) then
 (ref7_kid self_ref7_Print (e.Kids.getD (1 : Int).toNat api_Expr.z) (w64 (r1 + 1))).bind fun r10 =>
 if (((r8 ++ s_sp) ++ r9) ++ s_sp).length + r10.length ≤ 9223372036854775807 then
 some ((((r8 ++ s_sp) ++ r9) ++ s_sp) ++ r10) else none else none else none else none else none else none else none else none else
 if e.Kind = 6 then
 (ref7_text e.Kind).bind fun r11 =>
 if (0 : Int) ≤ 0 then
 if 0 < (e.Kids.length : Int) then
 (ref7_kid self_ref7_Print (e.Kids.getD (0 : Int).toNat api_Expr.z) 6).bind fun r12 =>
 if r11.length + r12.length ≤ 9223372036854775807 then
 some (r11 ++ r12) else none else none else none else
 if r1 = 3 then
 if (0 : Int) ≤ 0 then
 if 0 < (e.Kids.length : Int) then
 (ref7_kid self_ref7_Print (e.Kids.getD (0 : Int).toNat api_Expr.z) 4).bind fun r13 =>
 if r13.length + s_sp.length ≤ 9223372036854775807 then
 (ref7_text e.Kind).bind fun r14 =>
 if (r13 ++ s_sp).length + r14.length ≤ 9223372036854775807 then
 if ((r13 ++ s_sp) ++ r14).length + s_sp.length ≤ 9223372036854775807 then
 if (0 : Int) ≤ 1 then
 if 1 < (e.Kids.length : Int) then
 (ref7_kid self_ref7_Print (e.Kids.getD (1 : Int).toNat api_Expr.z) (w64 (r1 + 1))).bind fun r15 =>
 if (((r13 ++ s_sp) ++ r14) ++ s_sp).length + r15.length ≤ 9223372036854775807 then
 some ((((r13 ++ s_sp) ++ r14) ++ s_sp) ++ r15) else none else none else none else none else none else none else none else none else
 if (0 : Int) ≤ 0 then
 if 0 < (e.Kids.length : Int) then
 (ref7_kid self_ref7_Print (e.Kids.getD (0 : Int).toNat api_Expr.z) r1).bind fun r16 =>
 if r16.length + s_sp.length ≤ 9223372036854775807 then
 (ref7_text e.Kind).bind fun r17 =>
 if (r16 ++ s_sp).length + r17.length ≤ 9223372036854775807 then
 if ((r16 ++ s_sp) ++ r17).length + s_sp.length ≤ 9223372036854775807 then
 if (0 : Int) ≤ 1 then
 if 1 < (e.Kids.length : Int) then
 (ref7_kid self_ref7_Print (e.Kids.getD (1 : Int).toNat api_Expr.z) (w64 (r1 + 1))).bind fun r18 =>
 if (((r16 ++ s_sp) ++ r17) ++ s_sp).length + r18.length ≤ 9223372036854775807 then
 some ((((r16 ++ s_sp) ++ r17) ++ s_sp) ++ r18) else none else none else none else none else none else none else none else none
noncomputable def ref7_Print_f : Nat → api_Expr → Option (List UInt8)
 | 0, _ => none
 | k + 1, x0 => ref7_Print_b (ref7_Print_f k) k x0
noncomputable def ref7_Print  (e : api_Expr) : Option (List UInt8) := lim (fun k (x : api_Expr) => ref7_Print_f k x) e
noncomputable abbrev ref7_Print_T (self_ref7_Print : api_Expr → Option (List UInt8)) : Tab S := ⟨[⟨95, [.val (.data (.int .i64))], [.val (.data (.int .i64))], fun x => ref7_level x⟩, ⟨68, [.val (.data (.int .i64))], [.val (.data .str)], fun x => ref7_Dec x⟩, ⟨96, [.val (.data (.int .i64))], [.val (.data .str)], fun x => ref7_text x⟩, ⟨97, [.val (.data (.st 1)), .val (.data (.int .i64))], [.val (.data .str)], fun x => ref7_kid self_ref7_Print x.1 x.2⟩], [], false, false, none, []⟩
noncomputable def ref7_Print_L (self_ref7_Print : api_Expr → Option (List UInt8)) (k : Nat) : Nat → List (Lab S (List UInt8))
 | _ => []
theorem ref7_Print_eq (self_ref7_Print : api_Expr → Option (List UInt8)) (k : Nat) (e : api_Expr) : ref7_Print_b self_ref7_Print k e = exec S (ref7_Print_T self_ref7_Print) byt (labs S (ref7_Print_T self_ref7_Print) (ref7_Print_L self_ref7_Print k)) (ac [] Tryz.f66) (frame0 S [.val (.data (.st 1))] e) (retK S (ref7_Print_T self_ref7_Print) Tryz.f66 [.val (.data (.st 1))] [.val (.data .str)]) := by kernel_rfl
theorem ref7_Print_vc (self_ref7_Print : api_Expr → Option (List UInt8)) (k : Nat) : VC S (ref7_Print_T self_ref7_Print) byt (ref7_Print_L self_ref7_Print k) (ref7_Print_L self_ref7_Print (k + 1)) (ac [] Tryz.f66) (retK S (ref7_Print_T self_ref7_Print) Tryz.f66 [.val (.data (.st 1))] [.val (.data .str)]) = [] := by kernel_rfl
theorem ref7_Print_sndk (self_ref7_Print : api_Expr → Option (List UInt8)) (hself : Snd Tryz.prog S ⟨66, [.val (.data (.st 1))], [.val (.data .str)], fun x => self_ref7_Print x⟩) (k : Nat) : Snd Tryz.prog S ⟨66, [.val (.data (.st 1))], [.val (.data .str)], fun x => ref7_Print_b self_ref7_Print k x⟩ :=
 fn_ok progOk (T := (ref7_Print_T self_ref7_Print)) (all_cons ref7_level_snd (all_cons ref7_Dec_snd (all_cons ref7_text_snd (all_cons (ref7_kid_snd self_ref7_Print hself) (all_nil))))) (all_nil) (all_nil) mixed Tryz.func66 rfl (by kernel_rfl) (ac_code [] Tryz.f66 rfl) (L := ref7_Print_L self_ref7_Print)
  (fun n l h x => by cases h) (fun k n l h => by cases h)
  (fun k => All.mem (ref7_Print_vc self_ref7_Print k) trivial) (fun x r h => ⟨k, (ref7_Print_eq self_ref7_Print k x).symm.trans h⟩) (by kernel_rfl) (by kernel_rfl) (Nat.le_of_ble_eq_true (by kernel_rfl)) (by kernel_rfl)
theorem ref7_Print_sndf : ∀ k, Snd Tryz.prog S ⟨66, [.val (.data (.st 1))], [.val (.data .str)], fun x => ref7_Print_f k x⟩
 | 0 => Snd.none ⟨_, Tryz.func66, by kernel_rfl, by kernel_rfl⟩ fun _ => rfl
 | k + 1 => ref7_Print_sndk (ref7_Print_f k) (ref7_Print_sndf k) k
theorem ref7_Print_snd : Snd Tryz.prog S ⟨66, [.val (.data (.st 1))], [.val (.data .str)], fun x => ref7_Print x⟩ := Snd.lim (ref7_Print_sndf)
noncomputable def ref8_arg  (x : List api_Expr) : Option (List UInt8) := if (x.length : Int) = 0 then
 some [] else
 if (0 : Int) ≤ 0 then
 if 0 < (x.length : Int) then
 (ref7_Print (x.getD (0 : Int).toNat api_Expr.z)).bind fun r1 =>
 if s_lp.length + r1.length ≤ 9223372036854775807 then
 if (s_lp ++ r1).length + s_rp.length ≤ 9223372036854775807 then
 some ((s_lp ++ r1) ++ s_rp) else none else none else none else none
noncomputable abbrev ref8_arg_T : Tab S := ⟨[⟨66, [.val (.data (.st 1))], [.val (.data .str)], fun x => ref7_Print x⟩], [], false, false, none, []⟩
noncomputable def ref8_arg_L (k : Nat) : Nat → List (Lab S (List UInt8))
 | _ => []
theorem ref8_arg_eq (k : Nat) (x : List api_Expr) : ref8_arg x = exec S (ref8_arg_T) byt (labs S (ref8_arg_T) (ref8_arg_L k)) (ac [] Tryz.f67) (frame0 S [.val (.data (.sl (.st 1)))] x) (retK S (ref8_arg_T) Tryz.f67 [.val (.data (.sl (.st 1)))] [.val (.data .str)]) := by kernel_rfl
theorem ref8_arg_vc (k : Nat) : VC S (ref8_arg_T) byt (ref8_arg_L k) (ref8_arg_L (k + 1)) (ac [] Tryz.f67) (retK S (ref8_arg_T) Tryz.f67 [.val (.data (.sl (.st 1)))] [.val (.data .str)]) = [] := by kernel_rfl
theorem ref8_arg_snd : Snd Tryz.prog S ⟨67, [.val (.data (.sl (.st 1)))], [.val (.data .str)], fun x => ref8_arg x⟩ :=
 fn_ok progOk (T := (ref8_arg_T)) (all_cons ref7_Print_snd (all_nil)) (all_nil) (all_nil) mixed Tryz.func67 rfl (by kernel_rfl) (ac_code [] Tryz.f67 rfl) (L := ref8_arg_L)
  (fun n l h x => by cases h) (fun k n l h => by cases h)
  (fun k => All.mem (ref8_arg_vc k) trivial) (fun x r h => ⟨0, (ref8_arg_eq 0 x).symm.trans h⟩) (by kernel_rfl) (by kernel_rfl) (Nat.le_of_ble_eq_true (by kernel_rfl)) (by kernel_rfl)
noncomputable def ref8_one (self_ref8_Print : (List api_Act) → Int → Option (List UInt8))  (a : api_Act) (v_in : Int) : Option (List UInt8) := if a.Kind = 1 then
 if a.Name.length + s_sp_eq_sp.length ≤ 9223372036854775807 then
 if (0 : Int) ≤ 0 then
 if 0 < (a.X.length : Int) then
 (ref7_Print (a.X.getD (0 : Int).toNat api_Expr.z)).bind fun r1 =>
 if (a.Name ++ s_sp_eq_sp).length + r1.length ≤ 9223372036854775807 then
 if ((a.Name ++ s_sp_eq_sp) ++ r1).length + s_semi.length ≤ 9223372036854775807 then
 some (((a.Name ++ s_sp_eq_sp) ++ r1) ++ s_semi) else none else none else none else none else none else
 if a.Kind = 2 then
 if s_raise_x7823e.length + a.Event.length ≤ 9223372036854775807 then
 (ref8_arg a.X).bind fun r2 =>
 if (s_raise_x7823e ++ a.Event).length + r2.length ≤ 9223372036854775807 then
 if ((s_raise_x7823e ++ a.Event) ++ r2).length + s_semi.length ≤ 9223372036854775807 then
 some (((s_raise_x7823e ++ a.Event) ++ r2) ++ s_semi) else none else none else none else
 if a.Kind = 3 then
 if s_send_xe0272.length + a.Name.length ≤ 9223372036854775807 then
 if (s_send_xe0272 ++ a.Name).length + s_sp.length ≤ 9223372036854775807 then
 if ((s_send_xe0272 ++ a.Name) ++ s_sp).length + a.Event.length ≤ 9223372036854775807 then
 (ref8_arg a.X).bind fun r3 =>
 if (((s_send_xe0272 ++ a.Name) ++ s_sp) ++ a.Event).length + r3.length ≤ 9223372036854775807 then
 if ((((s_send_xe0272 ++ a.Name) ++ s_sp) ++ a.Event) ++ r3).length + s_semi.length ≤ 9223372036854775807 then
 some (((((s_send_xe0272 ++ a.Name) ++ s_sp) ++ a.Event) ++ r3) ++ s_semi) else none else none else none else none else none else
 if a.Kind = 4 then
 if s_arm_x6c666.length + a.Name.length ≤ 9223372036854775807 then
 (ref8_arg a.X).bind fun r4 =>
 if (s_arm_x6c666 ++ a.Name).length + r4.length ≤ 9223372036854775807 then
 if ((s_arm_x6c666 ++ a.Name) ++ r4).length + s_semi.length ≤ 9223372036854775807 then
 some (((s_arm_x6c666 ++ a.Name) ++ r4) ++ s_semi) else none else none else none else
 if a.Kind = 5 then
 if s_cancel_x1c990.length + a.Name.length ≤ 9223372036854775807 then
 if (s_cancel_x1c990 ++ a.Name).length + s_semi.length ≤ 9223372036854775807 then
 some ((s_cancel_x1c990 ++ a.Name) ++ s_semi) else none else none else
 if a.Kind = 7 then
 (ref7_Dec a.N).bind fun r5 =>
 if s_loop_xf5f27.length + r5.length ≤ 9223372036854775807 then
 if (s_loop_xf5f27 ++ r5).length + s_sp.length ≤ 9223372036854775807 then
 (self_ref8_Print a.Then v_in).bind fun r6 =>
 if ((s_loop_xf5f27 ++ r5) ++ s_sp).length + r6.length ≤ 9223372036854775807 then
 some (((s_loop_xf5f27 ++ r5) ++ s_sp) ++ r6) else none else none else none else
 (ref8_arg a.X).bind fun r7 =>
 if s_if_xec554.length + r7.length ≤ 9223372036854775807 then
 if (s_if_xec554 ++ r7).length + s_sp.length ≤ 9223372036854775807 then
 (self_ref8_Print a.Then v_in).bind fun r8 =>
 if ((s_if_xec554 ++ r7) ++ s_sp).length + r8.length ≤ 9223372036854775807 then
 if 0 < (a.Else.length : Int) then
 if (((s_if_xec554 ++ r7) ++ s_sp) ++ r8).length + s_else_xf7d30.length ≤ 9223372036854775807 then
 (self_ref8_Print a.Else v_in).bind fun r9 =>
 if ((((s_if_xec554 ++ r7) ++ s_sp) ++ r8) ++ s_else_xf7d30).length + r9.length ≤ 9223372036854775807 then
 some (((((s_if_xec554 ++ r7) ++ s_sp) ++ r8) ++ s_else_xf7d30) ++ r9) else none else none else
 some (((s_if_xec554 ++ r7) ++ s_sp) ++ r8) else none else none else none
noncomputable abbrev ref8_one_T (self_ref8_Print : (List api_Act) → Int → Option (List UInt8)) : Tab S := ⟨[⟨66, [.val (.data (.st 1))], [.val (.data .str)], fun x => ref7_Print x⟩, ⟨67, [.val (.data (.sl (.st 1)))], [.val (.data .str)], fun x => ref8_arg x⟩, ⟨68, [.val (.data (.int .i64))], [.val (.data .str)], fun x => ref7_Dec x⟩, ⟨15, [.val (.data (.sl (.st 0))), .val (.data (.int .i64))], [.val (.data .str)], fun x => self_ref8_Print x.1 x.2⟩], [], false, false, none, []⟩
noncomputable def ref8_one_L (self_ref8_Print : (List api_Act) → Int → Option (List UInt8)) (k : Nat) : Nat → List (Lab S (List UInt8))
 | _ => []
theorem ref8_one_eq (self_ref8_Print : (List api_Act) → Int → Option (List UInt8)) (k : Nat) (a : api_Act) (v_in : Int) : ref8_one self_ref8_Print a v_in = exec S (ref8_one_T self_ref8_Print) byt (labs S (ref8_one_T self_ref8_Print) (ref8_one_L self_ref8_Print k)) (ac [] Tryz.f33) (frame0 S [.val (.data (.st 0)), .val (.data (.int .i64))] (a, v_in)) (retK S (ref8_one_T self_ref8_Print) Tryz.f33 [.val (.data (.st 0)), .val (.data (.int .i64))] [.val (.data .str)]) := by kernel_rfl
theorem ref8_one_vc (self_ref8_Print : (List api_Act) → Int → Option (List UInt8)) (k : Nat) : VC S (ref8_one_T self_ref8_Print) byt (ref8_one_L self_ref8_Print k) (ref8_one_L self_ref8_Print (k + 1)) (ac [] Tryz.f33) (retK S (ref8_one_T self_ref8_Print) Tryz.f33 [.val (.data (.st 0)), .val (.data (.int .i64))] [.val (.data .str)]) = [] := by kernel_rfl
theorem ref8_one_snd (self_ref8_Print : (List api_Act) → Int → Option (List UInt8)) (hself_ref8_Print : Snd Tryz.prog S ⟨15, [.val (.data (.sl (.st 0))), .val (.data (.int .i64))], [.val (.data .str)], fun x => self_ref8_Print x.1 x.2⟩) : Snd Tryz.prog S ⟨33, [.val (.data (.st 0)), .val (.data (.int .i64))], [.val (.data .str)], fun x => ref8_one self_ref8_Print x.1 x.2⟩ :=
 fn_ok progOk (T := (ref8_one_T self_ref8_Print)) (all_cons ref7_Print_snd (all_cons ref8_arg_snd (all_cons ref7_Dec_snd (all_cons hself_ref8_Print (all_nil))))) (all_nil) (all_nil) mixed Tryz.func33 rfl (by kernel_rfl) (ac_code [] Tryz.f33 rfl) (L := ref8_one_L self_ref8_Print)
  (fun n l h x => by cases h) (fun k n l h => by cases h)
  (fun k => All.mem (ref8_one_vc self_ref8_Print k) trivial) (fun x r h => ⟨0, (ref8_one_eq self_ref8_Print 0 x.1 x.2).symm.trans h⟩) (by kernel_rfl) (by kernel_rfl) (Nat.le_of_ble_eq_true (by kernel_rfl)) (by kernel_rfl)
noncomputable def ref8_Print_l0 (self_ref8_Print : (List api_Act) → Int → Option (List UInt8)) : Nat → (List api_Act) → Int → (List UInt8) → Int → Option (List UInt8)
 | 0, _, _, _, _ => none
 | k + 1, l, n, s, i => if i < (l.length : Int) then
  (ref8_Blanks (w64 (n + 1))).bind fun r1 =>
  if s.length + r1.length ≤ 9223372036854775807 then
  if 0 ≤ i then
  if i < (l.length : Int) then
  (ref8_one self_ref8_Print (l.getD i.toNat api_Act.z) (w64 (n + 1))).bind fun r2 =>
  if (s ++ r1).length + r2.length ≤ 9223372036854775807 then
  if ((s ++ r1) ++ r2).length + s_nl.length ≤ 9223372036854775807 then
  ref8_Print_l0 self_ref8_Print k l n (((s ++ r1) ++ r2) ++ s_nl) (w64 (i + 1)) else none else none else none else none else none else
  (ref8_Blanks n).bind fun r3 =>
  if s.length + r3.length ≤ 9223372036854775807 then
  if (s ++ r3).length + s_rb.length ≤ 9223372036854775807 then
  some ((s ++ r3) ++ s_rb) else none else none
noncomputable def ref8_Print_b (self_ref8_Print : (List api_Act) → Int → Option (List UInt8)) (k : Nat) (l : List api_Act) (v_in : Int) : Option (List UInt8) := if (l.length : Int) = 0 then
 some s_lb_rb else
 ref8_Print_l0 self_ref8_Print k l (max v_in 0) s_lb_nl 0
noncomputable def ref8_Print_f : Nat → (List api_Act) → Int → Option (List UInt8)
 | 0, _, _ => none
 | k + 1, x0, x1 => ref8_Print_b (ref8_Print_f k) k x0 x1
noncomputable def ref8_Print  (l : List api_Act) (v_in : Int) : Option (List UInt8) := lim (fun k (x : List api_Act × Int) => ref8_Print_f k x.1 x.2) (l, v_in)
noncomputable abbrev ref8_Print_T (self_ref8_Print : (List api_Act) → Int → Option (List UInt8)) : Tab S := ⟨[⟨32, [.val (.data (.int .i64))], [.val (.data .str)], fun x => ref8_Blanks x⟩, ⟨33, [.val (.data (.st 0)), .val (.data (.int .i64))], [.val (.data .str)], fun x => ref8_one self_ref8_Print x.1 x.2⟩], [], false, false, none, []⟩
noncomputable def ref8_Print_L (self_ref8_Print : (List api_Act) → Int → Option (List UInt8)) (k : Nat) : Nat → List (Lab S (List UInt8))
 | 0 => [⟨[0, 5, 6, 7], [.val (.data (.sl (.st 0))), .val (.data (.int .i64)), .val (.data .str), .val (.data (.int .i64))], fun x => ref8_Print_l0 self_ref8_Print k x.1 x.2.1 x.2.2.1 x.2.2.2, false⟩]
 | _ + 1 => []
theorem ref8_Print_eq (self_ref8_Print : (List api_Act) → Int → Option (List UInt8)) (k : Nat) (l : List api_Act) (v_in : Int) : ref8_Print_b self_ref8_Print k l v_in = exec S (ref8_Print_T self_ref8_Print) byt (labs S (ref8_Print_T self_ref8_Print) (ref8_Print_L self_ref8_Print k)) (ac [] Tryz.f15) (frame0 S [.val (.data (.sl (.st 0))), .val (.data (.int .i64))] (l, v_in)) (retK S (ref8_Print_T self_ref8_Print) Tryz.f15 [.val (.data (.sl (.st 0))), .val (.data (.int .i64))] [.val (.data .str)]) := by kernel_rfl
theorem ref8_Print_vc (self_ref8_Print : (List api_Act) → Int → Option (List UInt8)) (k : Nat) : VC S (ref8_Print_T self_ref8_Print) byt (ref8_Print_L self_ref8_Print k) (ref8_Print_L self_ref8_Print (k + 1)) (ac [] Tryz.f15) (retK S (ref8_Print_T self_ref8_Print) Tryz.f15 [.val (.data (.sl (.st 0))), .val (.data (.int .i64))] [.val (.data .str)]) = [∀ x : List api_Act × Int × List UInt8 × Int, ref8_Print_l0 self_ref8_Print (k + 1) x.1 x.2.1 x.2.2.1 x.2.2.2 = ref8_Print_l0 self_ref8_Print (k + 1) x.1 x.2.1 x.2.2.1 x.2.2.2] := by kernel_rfl
theorem ref8_Print_sndk (self_ref8_Print : (List api_Act) → Int → Option (List UInt8)) (hself : Snd Tryz.prog S ⟨15, [.val (.data (.sl (.st 0))), .val (.data (.int .i64))], [.val (.data .str)], fun x => self_ref8_Print x.1 x.2⟩) (k : Nat) : Snd Tryz.prog S ⟨15, [.val (.data (.sl (.st 0))), .val (.data (.int .i64))], [.val (.data .str)], fun x => ref8_Print_b self_ref8_Print k x.1 x.2⟩ :=
 fn_ok progOk (T := (ref8_Print_T self_ref8_Print)) (all_cons ref8_Blanks_snd (all_cons (ref8_one_snd self_ref8_Print hself) (all_nil))) (all_nil) (all_nil) mixed Tryz.func15 rfl (by kernel_rfl) (ac_code [] Tryz.f15 rfl) (L := ref8_Print_L self_ref8_Print)
  (fun n l h x => by match n, h with
   | 0, h =>
    rcases List.mem_cons.1 h with rfl | h
    · rfl
    cases h
   | _ + 1, h => cases h) (fun k n l h => by match n, h with
   | 0, h =>
    rcases List.mem_cons.1 h with rfl | h
    · rfl
    cases h
   | _ + 1, h => cases h)
  (fun k => All.mem (ref8_Print_vc self_ref8_Print k) ⟨fun _ => rfl, trivial⟩) (fun x r h => ⟨k, (ref8_Print_eq self_ref8_Print k x.1 x.2).symm.trans h⟩) (by kernel_rfl) (by kernel_rfl) (Nat.le_of_ble_eq_true (by kernel_rfl)) (by kernel_rfl)
theorem ref8_Print_sndf : ∀ k, Snd Tryz.prog S ⟨15, [.val (.data (.sl (.st 0))), .val (.data (.int .i64))], [.val (.data .str)], fun x => ref8_Print_f k x.1 x.2⟩
 | 0 => Snd.none ⟨_, Tryz.func15, by kernel_rfl, by kernel_rfl⟩ fun _ => rfl
 | k + 1 => ref8_Print_sndk (ref8_Print_f k) (ref8_Print_sndf k) k
theorem ref8_Print_snd : Snd Tryz.prog S ⟨15, [.val (.data (.sl (.st 0))), .val (.data (.int .i64))], [.val (.data .str)], fun x => ref8_Print x.1 x.2⟩ := Snd.lim (ref8_Print_sndf)
noncomputable def slices_EqualFunc_api_Expr_api_Expr_api_Expr_api_Expr_l0 : Nat → (List api_Expr) → ((api_Expr × api_Expr) → Option Bool) → (List api_Expr) → Int → Int → Option Bool
 | 0, _, _, _, _, _ => none
 | k + 1, s2, eq, x15, x16, x17 => if x17 < x16 then
  if 0 ≤ x17 then
  if x17 < (x15.length : Int) then
  if 0 ≤ x17 then
  if x17 < (s2.length : Int) then
  (eq (api_Expr.mk ((x15.getD x17.toNat api_Expr.z).Kind) ((x15.getD x17.toNat api_Expr.z).N) ((x15.getD x17.toNat api_Expr.z).Name) ((x15.getD x17.toNat api_Expr.z).Kids) ((x15.getD x17.toNat api_Expr.z).At), api_Expr.mk ((s2.getD x17.toNat api_Expr.z).Kind) ((s2.getD x17.toNat api_Expr.z).N) ((s2.getD x17.toNat api_Expr.z).Name) ((s2.getD x17.toNat api_Expr.z).Kids) ((s2.getD x17.toNat api_Expr.z).At))).bind fun r1 =>
  bif !r1 then
  some false else
  slices_EqualFunc_api_Expr_api_Expr_api_Expr_api_Expr_l0 k s2 eq x15 x16 (w64 (x17 + 1)) else none else none else none else none else
  some true
noncomputable def slices_EqualFunc_api_Expr_api_Expr_api_Expr_api_Expr_f (k : Nat) (s1 : List api_Expr) (s2 : List api_Expr) (eq : (api_Expr × api_Expr) → Option Bool) : Option Bool := if (s1.length : Int) ≠ (s2.length : Int) then
 some false else
 slices_EqualFunc_api_Expr_api_Expr_api_Expr_api_Expr_l0 k s2 eq s1 (s1.length : Int) 0
noncomputable def slices_EqualFunc_api_Expr_api_Expr_api_Expr_api_Expr  (s1 : List api_Expr) (s2 : List api_Expr) (eq : (api_Expr × api_Expr) → Option Bool) : Option Bool := lim (fun k (x : List api_Expr × List api_Expr × ((api_Expr × api_Expr) → Option Bool)) => slices_EqualFunc_api_Expr_api_Expr_api_Expr_api_Expr_f k x.1 x.2.1 x.2.2) (s1, s2, eq)
noncomputable abbrev slices_EqualFunc_api_Expr_api_Expr_api_Expr_api_Expr_T : Tab S := ⟨[], [], false, false, none, []⟩
noncomputable def slices_EqualFunc_api_Expr_api_Expr_api_Expr_api_Expr_L (k : Nat) : Nat → List (Lab S Bool)
 | 0 => [⟨[1, 2, 15, 16, 17], [.val (.data (.sl (.st 1))), .fn [.st 1, .st 1] [.bool], .val (.data (.sl (.st 1))), .val (.data (.int .i64)), .val (.data (.int .i64))], fun x => slices_EqualFunc_api_Expr_api_Expr_api_Expr_api_Expr_l0 k x.1 x.2.1 x.2.2.1 x.2.2.2.1 x.2.2.2.2, false⟩]
 | _ + 1 => []
theorem slices_EqualFunc_api_Expr_api_Expr_api_Expr_api_Expr_eq (k : Nat) (s1 : List api_Expr) (s2 : List api_Expr) (eq : (api_Expr × api_Expr) → Option Bool) : slices_EqualFunc_api_Expr_api_Expr_api_Expr_api_Expr_f k s1 s2 eq = exec S (slices_EqualFunc_api_Expr_api_Expr_api_Expr_api_Expr_T) byt (labs S (slices_EqualFunc_api_Expr_api_Expr_api_Expr_api_Expr_T) (slices_EqualFunc_api_Expr_api_Expr_api_Expr_api_Expr_L k)) (ac [] Tryz.f45) (frame0 S [.val (.data (.sl (.st 1))), .val (.data (.sl (.st 1))), .fn [.st 1, .st 1] [.bool]] (s1, s2, eq)) (retK S (slices_EqualFunc_api_Expr_api_Expr_api_Expr_api_Expr_T) Tryz.f45 [.val (.data (.sl (.st 1))), .val (.data (.sl (.st 1))), .fn [.st 1, .st 1] [.bool]] [.val (.data .bool)]) := by kernel_rfl
theorem slices_EqualFunc_api_Expr_api_Expr_api_Expr_api_Expr_vc (k : Nat) : VC S (slices_EqualFunc_api_Expr_api_Expr_api_Expr_api_Expr_T) byt (slices_EqualFunc_api_Expr_api_Expr_api_Expr_api_Expr_L k) (slices_EqualFunc_api_Expr_api_Expr_api_Expr_api_Expr_L (k + 1)) (ac [] Tryz.f45) (retK S (slices_EqualFunc_api_Expr_api_Expr_api_Expr_api_Expr_T) Tryz.f45 [.val (.data (.sl (.st 1))), .val (.data (.sl (.st 1))), .fn [.st 1, .st 1] [.bool]] [.val (.data .bool)]) = [∀ x : List api_Expr × ((api_Expr × api_Expr) → Option Bool) × List api_Expr × Int × Int, slices_EqualFunc_api_Expr_api_Expr_api_Expr_api_Expr_l0 (k + 1) x.1 x.2.1 x.2.2.1 x.2.2.2.1 x.2.2.2.2 = slices_EqualFunc_api_Expr_api_Expr_api_Expr_api_Expr_l0 (k + 1) x.1 x.2.1 x.2.2.1 x.2.2.2.1 x.2.2.2.2] := by kernel_rfl
theorem slices_EqualFunc_api_Expr_api_Expr_api_Expr_api_Expr_sndk (k : Nat) : Snd Tryz.prog S ⟨45, [.val (.data (.sl (.st 1))), .val (.data (.sl (.st 1))), .fn [.st 1, .st 1] [.bool]], [.val (.data .bool)], fun x => slices_EqualFunc_api_Expr_api_Expr_api_Expr_api_Expr_f k x.1 x.2.1 x.2.2⟩ :=
 fn_ok progOk (T := (slices_EqualFunc_api_Expr_api_Expr_api_Expr_api_Expr_T)) (all_nil) (all_nil) (all_nil) mixed Tryz.func45 rfl (by kernel_rfl) (ac_code [] Tryz.f45 rfl) (L := slices_EqualFunc_api_Expr_api_Expr_api_Expr_api_Expr_L)
  (fun n l h x => by match n, h with
   | 0, h =>
    rcases List.mem_cons.1 h with rfl | h
    · rfl
    cases h
   | _ + 1, h => cases h) (fun k n l h => by match n, h with
   | 0, h =>
    rcases List.mem_cons.1 h with rfl | h
    · rfl
    cases h
   | _ + 1, h => cases h)
  (fun k => All.mem (slices_EqualFunc_api_Expr_api_Expr_api_Expr_api_Expr_vc k) ⟨fun _ => rfl, trivial⟩) (fun x r h => ⟨k, (slices_EqualFunc_api_Expr_api_Expr_api_Expr_api_Expr_eq k x.1 x.2.1 x.2.2).symm.trans h⟩) (by kernel_rfl) (by kernel_rfl) (Nat.le_of_ble_eq_true (by kernel_rfl)) (by kernel_rfl)
theorem slices_EqualFunc_api_Expr_api_Expr_api_Expr_api_Expr_snd : Snd Tryz.prog S ⟨45, [.val (.data (.sl (.st 1))), .val (.data (.sl (.st 1))), .fn [.st 1, .st 1] [.bool]], [.val (.data .bool)], fun x => slices_EqualFunc_api_Expr_api_Expr_api_Expr_api_Expr x.1 x.2.1 x.2.2⟩ := Snd.lim (slices_EqualFunc_api_Expr_api_Expr_api_Expr_api_Expr_sndk)
noncomputable def expr_Same_b (self_expr_Same : api_Expr → api_Expr → Option Bool) (k : Nat) (a : api_Expr) (b : api_Expr) : Option Bool := if a.Kind = b.Kind then
 if a.N = b.N then
 if a.Name = b.Name then
 (slices_EqualFunc_api_Expr_api_Expr_api_Expr_api_Expr a.Kids b.Kids (fun y => self_expr_Same y.1 y.2)).bind fun r1 =>
 some r1 else
 some false else
 some false else
 some false
noncomputable def expr_Same_f : Nat → api_Expr → api_Expr → Option Bool
 | 0, _, _ => none
 | k + 1, x0, x1 => expr_Same_b (expr_Same_f k) k x0 x1
noncomputable def expr_Same  (a : api_Expr) (b : api_Expr) : Option Bool := lim (fun k (x : api_Expr × api_Expr) => expr_Same_f k x.1 x.2) (a, b)
noncomputable abbrev expr_Same_T (self_expr_Same : api_Expr → api_Expr → Option Bool) : Tab S := ⟨[⟨45, [.val (.data (.sl (.st 1))), .val (.data (.sl (.st 1))), .fn [.st 1, .st 1] [.bool]], [.val (.data .bool)], fun x => slices_EqualFunc_api_Expr_api_Expr_api_Expr_api_Expr x.1 x.2.1 x.2.2⟩], [⟨46, [.st 1, .st 1], [], [.bool], fun x c => self_expr_Same x.1 x.2⟩], false, false, none, []⟩
noncomputable def expr_Same_L (self_expr_Same : api_Expr → api_Expr → Option Bool) (k : Nat) : Nat → List (Lab S Bool)
 | _ => []
theorem expr_Same_eq (self_expr_Same : api_Expr → api_Expr → Option Bool) (k : Nat) (a : api_Expr) (b : api_Expr) : expr_Same_b self_expr_Same k a b = exec S (expr_Same_T self_expr_Same) byt (labs S (expr_Same_T self_expr_Same) (expr_Same_L self_expr_Same k)) (ac [] Tryz.f46) (frame0 S [.val (.data (.st 1)), .val (.data (.st 1))] (a, b)) (retK S (expr_Same_T self_expr_Same) Tryz.f46 [.val (.data (.st 1)), .val (.data (.st 1))] [.val (.data .bool)]) := by kernel_rfl
theorem expr_Same_vc (self_expr_Same : api_Expr → api_Expr → Option Bool) (k : Nat) : VC S (expr_Same_T self_expr_Same) byt (expr_Same_L self_expr_Same k) (expr_Same_L self_expr_Same (k + 1)) (ac [] Tryz.f46) (retK S (expr_Same_T self_expr_Same) Tryz.f46 [.val (.data (.st 1)), .val (.data (.st 1))] [.val (.data .bool)]) = [] := by kernel_rfl
theorem expr_Same_sndk (self_expr_Same : api_Expr → api_Expr → Option Bool) (hself : Snd Tryz.prog S ⟨46, [.val (.data (.st 1)), .val (.data (.st 1))], [.val (.data .bool)], fun x => self_expr_Same x.1 x.2⟩) (k : Nat) : Snd Tryz.prog S ⟨46, [.val (.data (.st 1)), .val (.data (.st 1))], [.val (.data .bool)], fun x => expr_Same_b self_expr_Same k x.1 x.2⟩ :=
 fn_ok progOk (T := (expr_Same_T self_expr_Same)) (all_cons slices_EqualFunc_api_Expr_api_Expr_api_Expr_api_Expr_snd (all_nil)) (all_nil) (all_cons (FSnd.of (a := [.st 1, .st 1]) (c := []) (r := [.bool]) hself (fun _ _ z h => ⟨z, h, rfl⟩)) (all_nil)) mixed Tryz.func46 rfl (by kernel_rfl) (ac_code [] Tryz.f46 rfl) (L := expr_Same_L self_expr_Same)
  (fun n l h x => by cases h) (fun k n l h => by cases h)
  (fun k => All.mem (expr_Same_vc self_expr_Same k) trivial) (fun x r h => ⟨k, (expr_Same_eq self_expr_Same k x.1 x.2).symm.trans h⟩) (by kernel_rfl) (by kernel_rfl) (Nat.le_of_ble_eq_true (by kernel_rfl)) (by kernel_rfl)
theorem expr_Same_sndf : ∀ k, Snd Tryz.prog S ⟨46, [.val (.data (.st 1)), .val (.data (.st 1))], [.val (.data .bool)], fun x => expr_Same_f k x.1 x.2⟩
 | 0 => Snd.none ⟨_, Tryz.func46, by kernel_rfl, by kernel_rfl⟩ fun _ => rfl
 | k + 1 => expr_Same_sndk (expr_Same_f k) (expr_Same_sndf k) k
theorem expr_Same_snd : Snd Tryz.prog S ⟨46, [.val (.data (.st 1)), .val (.data (.st 1))], [.val (.data .bool)], fun x => expr_Same x.1 x.2⟩ := Snd.lim (expr_Same_sndf)
theorem expr_Same_fsnd : FSnd Tryz.prog S ⟨46, [.st 1, .st 1], [], [.bool], fun x c => expr_Same x.1 x.2⟩ := FSnd.of (a := [.st 1, .st 1]) (c := []) (r := [.bool]) expr_Same_snd (fun _ _ z h => ⟨z, h, rfl⟩)
noncomputable def act_Same_S1 (self_act_Same : (List api_Act) → (List api_Act) → Option Bool)  (x : api_Act) (y : api_Act) : Option Bool := if x.Kind = y.Kind then
 if x.Name = y.Name then
 if x.Event = y.Event then
 if x.N = y.N then
 (slices_EqualFunc_api_Expr_api_Expr_api_Expr_api_Expr x.X y.X (fun y => expr_Same y.1 y.2)).bind fun r1 =>
 bif r1 then
 (self_act_Same x.Then y.Then).bind fun r2 =>
 bif r2 then
 (self_act_Same x.Else y.Else).bind fun r3 =>
 some r3 else
 some false else
 some false else
 some false else
 some false else
 some false else
 some false
noncomputable abbrev act_Same_S1_T (self_act_Same : (List api_Act) → (List api_Act) → Option Bool) : Tab S := ⟨[⟨45, [.val (.data (.sl (.st 1))), .val (.data (.sl (.st 1))), .fn [.st 1, .st 1] [.bool]], [.val (.data .bool)], fun x => slices_EqualFunc_api_Expr_api_Expr_api_Expr_api_Expr x.1 x.2.1 x.2.2⟩, ⟨22, [.val (.data (.sl (.st 0))), .val (.data (.sl (.st 0)))], [.val (.data .bool)], fun x => self_act_Same x.1 x.2⟩], [⟨46, [.st 1, .st 1], [], [.bool], fun x c => expr_Same x.1 x.2⟩], false, false, none, []⟩
noncomputable def act_Same_S1_L (self_act_Same : (List api_Act) → (List api_Act) → Option Bool) (k : Nat) : Nat → List (Lab S Bool)
 | _ => []
theorem act_Same_S1_eq (self_act_Same : (List api_Act) → (List api_Act) → Option Bool) (k : Nat) (x : api_Act) (y : api_Act) : act_Same_S1 self_act_Same x y = exec S (act_Same_S1_T self_act_Same) byt (labs S (act_Same_S1_T self_act_Same) (act_Same_S1_L self_act_Same k)) (ac [] Tryz.f44) (frame0 S [.val (.data (.st 0)), .val (.data (.st 0))] (x, y)) (retK S (act_Same_S1_T self_act_Same) Tryz.f44 [.val (.data (.st 0)), .val (.data (.st 0))] [.val (.data .bool)]) := by kernel_rfl
theorem act_Same_S1_vc (self_act_Same : (List api_Act) → (List api_Act) → Option Bool) (k : Nat) : VC S (act_Same_S1_T self_act_Same) byt (act_Same_S1_L self_act_Same k) (act_Same_S1_L self_act_Same (k + 1)) (ac [] Tryz.f44) (retK S (act_Same_S1_T self_act_Same) Tryz.f44 [.val (.data (.st 0)), .val (.data (.st 0))] [.val (.data .bool)]) = [] := by kernel_rfl
theorem act_Same_S1_snd (self_act_Same : (List api_Act) → (List api_Act) → Option Bool) (hself_act_Same : Snd Tryz.prog S ⟨22, [.val (.data (.sl (.st 0))), .val (.data (.sl (.st 0)))], [.val (.data .bool)], fun x => self_act_Same x.1 x.2⟩) : Snd Tryz.prog S ⟨44, [.val (.data (.st 0)), .val (.data (.st 0))], [.val (.data .bool)], fun x => act_Same_S1 self_act_Same x.1 x.2⟩ :=
 fn_ok progOk (T := (act_Same_S1_T self_act_Same)) (all_cons slices_EqualFunc_api_Expr_api_Expr_api_Expr_api_Expr_snd (all_cons hself_act_Same (all_nil))) (all_nil) (all_cons expr_Same_fsnd (all_nil)) mixed Tryz.func44 rfl (by kernel_rfl) (ac_code [] Tryz.f44 rfl) (L := act_Same_S1_L self_act_Same)
  (fun n l h x => by cases h) (fun k n l h => by cases h)
  (fun k => All.mem (act_Same_S1_vc self_act_Same k) trivial) (fun x r h => ⟨0, (act_Same_S1_eq self_act_Same 0 x.1 x.2).symm.trans h⟩) (by kernel_rfl) (by kernel_rfl) (Nat.le_of_ble_eq_true (by kernel_rfl)) (by kernel_rfl)
noncomputable def slices_EqualFunc_api_Act_api_Act_api_Act_api_Act_l0 : Nat → (List api_Act) → ((api_Act × api_Act) → Option Bool) → (List api_Act) → Int → Int → Option Bool
 | 0, _, _, _, _, _ => none
 | k + 1, s2, eq, x15, x16, x17 => if x17 < x16 then
  if 0 ≤ x17 then
  if x17 < (x15.length : Int) then
  if 0 ≤ x17 then
  if x17 < (s2.length : Int) then
  (eq (api_Act.mk ((x15.getD x17.toNat api_Act.z).Kind) ((x15.getD x17.toNat api_Act.z).Name) ((x15.getD x17.toNat api_Act.z).Event) ((x15.getD x17.toNat api_Act.z).X) ((x15.getD x17.toNat api_Act.z).N) ((x15.getD x17.toNat api_Act.z).Then) ((x15.getD x17.toNat api_Act.z).Else) ((x15.getD x17.toNat api_Act.z).At), api_Act.mk ((s2.getD x17.toNat api_Act.z).Kind) ((s2.getD x17.toNat api_Act.z).Name) ((s2.getD x17.toNat api_Act.z).Event) ((s2.getD x17.toNat api_Act.z).X) ((s2.getD x17.toNat api_Act.z).N) ((s2.getD x17.toNat api_Act.z).Then) ((s2.getD x17.toNat api_Act.z).Else) ((s2.getD x17.toNat api_Act.z).At))).bind fun r1 =>
  bif !r1 then
  some false else
  slices_EqualFunc_api_Act_api_Act_api_Act_api_Act_l0 k s2 eq x15 x16 (w64 (x17 + 1)) else none else none else none else none else
  some true
noncomputable def slices_EqualFunc_api_Act_api_Act_api_Act_api_Act_f (k : Nat) (s1 : List api_Act) (s2 : List api_Act) (eq : (api_Act × api_Act) → Option Bool) : Option Bool := if (s1.length : Int) ≠ (s2.length : Int) then
 some false else
 slices_EqualFunc_api_Act_api_Act_api_Act_api_Act_l0 k s2 eq s1 (s1.length : Int) 0
noncomputable def slices_EqualFunc_api_Act_api_Act_api_Act_api_Act  (s1 : List api_Act) (s2 : List api_Act) (eq : (api_Act × api_Act) → Option Bool) : Option Bool := lim (fun k (x : List api_Act × List api_Act × ((api_Act × api_Act) → Option Bool)) => slices_EqualFunc_api_Act_api_Act_api_Act_api_Act_f k x.1 x.2.1 x.2.2) (s1, s2, eq)
noncomputable abbrev slices_EqualFunc_api_Act_api_Act_api_Act_api_Act_T : Tab S := ⟨[], [], false, false, none, []⟩
noncomputable def slices_EqualFunc_api_Act_api_Act_api_Act_api_Act_L (k : Nat) : Nat → List (Lab S Bool)
 | 0 => [⟨[1, 2, 15, 16, 17], [.val (.data (.sl (.st 0))), .fn [.st 0, .st 0] [.bool], .val (.data (.sl (.st 0))), .val (.data (.int .i64)), .val (.data (.int .i64))], fun x => slices_EqualFunc_api_Act_api_Act_api_Act_api_Act_l0 k x.1 x.2.1 x.2.2.1 x.2.2.2.1 x.2.2.2.2, false⟩]
 | _ + 1 => []
theorem slices_EqualFunc_api_Act_api_Act_api_Act_api_Act_eq (k : Nat) (s1 : List api_Act) (s2 : List api_Act) (eq : (api_Act × api_Act) → Option Bool) : slices_EqualFunc_api_Act_api_Act_api_Act_api_Act_f k s1 s2 eq = exec S (slices_EqualFunc_api_Act_api_Act_api_Act_api_Act_T) byt (labs S (slices_EqualFunc_api_Act_api_Act_api_Act_api_Act_T) (slices_EqualFunc_api_Act_api_Act_api_Act_api_Act_L k)) (ac [] Tryz.f43) (frame0 S [.val (.data (.sl (.st 0))), .val (.data (.sl (.st 0))), .fn [.st 0, .st 0] [.bool]] (s1, s2, eq)) (retK S (slices_EqualFunc_api_Act_api_Act_api_Act_api_Act_T) Tryz.f43 [.val (.data (.sl (.st 0))), .val (.data (.sl (.st 0))), .fn [.st 0, .st 0] [.bool]] [.val (.data .bool)]) := by kernel_rfl
theorem slices_EqualFunc_api_Act_api_Act_api_Act_api_Act_vc (k : Nat) : VC S (slices_EqualFunc_api_Act_api_Act_api_Act_api_Act_T) byt (slices_EqualFunc_api_Act_api_Act_api_Act_api_Act_L k) (slices_EqualFunc_api_Act_api_Act_api_Act_api_Act_L (k + 1)) (ac [] Tryz.f43) (retK S (slices_EqualFunc_api_Act_api_Act_api_Act_api_Act_T) Tryz.f43 [.val (.data (.sl (.st 0))), .val (.data (.sl (.st 0))), .fn [.st 0, .st 0] [.bool]] [.val (.data .bool)]) = [∀ x : List api_Act × ((api_Act × api_Act) → Option Bool) × List api_Act × Int × Int, slices_EqualFunc_api_Act_api_Act_api_Act_api_Act_l0 (k + 1) x.1 x.2.1 x.2.2.1 x.2.2.2.1 x.2.2.2.2 = slices_EqualFunc_api_Act_api_Act_api_Act_api_Act_l0 (k + 1) x.1 x.2.1 x.2.2.1 x.2.2.2.1 x.2.2.2.2] := by kernel_rfl
theorem slices_EqualFunc_api_Act_api_Act_api_Act_api_Act_sndk (k : Nat) : Snd Tryz.prog S ⟨43, [.val (.data (.sl (.st 0))), .val (.data (.sl (.st 0))), .fn [.st 0, .st 0] [.bool]], [.val (.data .bool)], fun x => slices_EqualFunc_api_Act_api_Act_api_Act_api_Act_f k x.1 x.2.1 x.2.2⟩ :=
 fn_ok progOk (T := (slices_EqualFunc_api_Act_api_Act_api_Act_api_Act_T)) (all_nil) (all_nil) (all_nil) mixed Tryz.func43 rfl (by kernel_rfl) (ac_code [] Tryz.f43 rfl) (L := slices_EqualFunc_api_Act_api_Act_api_Act_api_Act_L)
  (fun n l h x => by match n, h with
   | 0, h =>
    rcases List.mem_cons.1 h with rfl | h
    · rfl
    cases h
   | _ + 1, h => cases h) (fun k n l h => by match n, h with
   | 0, h =>
    rcases List.mem_cons.1 h with rfl | h
    · rfl
    cases h
   | _ + 1, h => cases h)
  (fun k => All.mem (slices_EqualFunc_api_Act_api_Act_api_Act_api_Act_vc k) ⟨fun _ => rfl, trivial⟩) (fun x r h => ⟨k, (slices_EqualFunc_api_Act_api_Act_api_Act_api_Act_eq k x.1 x.2.1 x.2.2).symm.trans h⟩) (by kernel_rfl) (by kernel_rfl) (Nat.le_of_ble_eq_true (by kernel_rfl)) (by kernel_rfl)
theorem slices_EqualFunc_api_Act_api_Act_api_Act_api_Act_snd : Snd Tryz.prog S ⟨43, [.val (.data (.sl (.st 0))), .val (.data (.sl (.st 0))), .fn [.st 0, .st 0] [.bool]], [.val (.data .bool)], fun x => slices_EqualFunc_api_Act_api_Act_api_Act_api_Act x.1 x.2.1 x.2.2⟩ := Snd.lim (slices_EqualFunc_api_Act_api_Act_api_Act_api_Act_sndk)
noncomputable def act_Same_b (self_act_Same : (List api_Act) → (List api_Act) → Option Bool) (k : Nat) (a : List api_Act) (b : List api_Act) : Option Bool := (slices_EqualFunc_api_Act_api_Act_api_Act_api_Act a b (fun y => act_Same_S1 self_act_Same y.1 y.2)).bind fun r1 =>
 some r1
noncomputable def act_Same_f : Nat → (List api_Act) → (List api_Act) → Option Bool
 | 0, _, _ => none
 | k + 1, x0, x1 => act_Same_b (act_Same_f k) k x0 x1
noncomputable def act_Same  (a : List api_Act) (b : List api_Act) : Option Bool := lim (fun k (x : List api_Act × List api_Act) => act_Same_f k x.1 x.2) (a, b)
noncomputable abbrev act_Same_T (self_act_Same : (List api_Act) → (List api_Act) → Option Bool) : Tab S := ⟨[⟨43, [.val (.data (.sl (.st 0))), .val (.data (.sl (.st 0))), .fn [.st 0, .st 0] [.bool]], [.val (.data .bool)], fun x => slices_EqualFunc_api_Act_api_Act_api_Act_api_Act x.1 x.2.1 x.2.2⟩], [⟨44, [.st 0, .st 0], [], [.bool], fun x c => act_Same_S1 self_act_Same x.1 x.2⟩], false, false, none, []⟩
noncomputable def act_Same_L (self_act_Same : (List api_Act) → (List api_Act) → Option Bool) (k : Nat) : Nat → List (Lab S Bool)
 | _ => []
theorem act_Same_eq (self_act_Same : (List api_Act) → (List api_Act) → Option Bool) (k : Nat) (a : List api_Act) (b : List api_Act) : act_Same_b self_act_Same k a b = exec S (act_Same_T self_act_Same) byt (labs S (act_Same_T self_act_Same) (act_Same_L self_act_Same k)) (ac [] Tryz.f22) (frame0 S [.val (.data (.sl (.st 0))), .val (.data (.sl (.st 0)))] (a, b)) (retK S (act_Same_T self_act_Same) Tryz.f22 [.val (.data (.sl (.st 0))), .val (.data (.sl (.st 0)))] [.val (.data .bool)]) := by kernel_rfl
theorem act_Same_vc (self_act_Same : (List api_Act) → (List api_Act) → Option Bool) (k : Nat) : VC S (act_Same_T self_act_Same) byt (act_Same_L self_act_Same k) (act_Same_L self_act_Same (k + 1)) (ac [] Tryz.f22) (retK S (act_Same_T self_act_Same) Tryz.f22 [.val (.data (.sl (.st 0))), .val (.data (.sl (.st 0)))] [.val (.data .bool)]) = [] := by kernel_rfl
theorem act_Same_sndk (self_act_Same : (List api_Act) → (List api_Act) → Option Bool) (hself : Snd Tryz.prog S ⟨22, [.val (.data (.sl (.st 0))), .val (.data (.sl (.st 0)))], [.val (.data .bool)], fun x => self_act_Same x.1 x.2⟩) (k : Nat) : Snd Tryz.prog S ⟨22, [.val (.data (.sl (.st 0))), .val (.data (.sl (.st 0)))], [.val (.data .bool)], fun x => act_Same_b self_act_Same k x.1 x.2⟩ :=
 fn_ok progOk (T := (act_Same_T self_act_Same)) (all_cons slices_EqualFunc_api_Act_api_Act_api_Act_api_Act_snd (all_nil)) (all_nil) (all_cons (FSnd.of (a := [.st 0, .st 0]) (c := []) (r := [.bool]) (act_Same_S1_snd self_act_Same hself) (fun _ _ z h => ⟨z, h, rfl⟩)) (all_nil)) mixed Tryz.func22 rfl (by kernel_rfl) (ac_code [] Tryz.f22 rfl) (L := act_Same_L self_act_Same)
  (fun n l h x => by cases h) (fun k n l h => by cases h)
  (fun k => All.mem (act_Same_vc self_act_Same k) trivial) (fun x r h => ⟨k, (act_Same_eq self_act_Same k x.1 x.2).symm.trans h⟩) (by kernel_rfl) (by kernel_rfl) (Nat.le_of_ble_eq_true (by kernel_rfl)) (by kernel_rfl)
theorem act_Same_sndf : ∀ k, Snd Tryz.prog S ⟨22, [.val (.data (.sl (.st 0))), .val (.data (.sl (.st 0)))], [.val (.data .bool)], fun x => act_Same_f k x.1 x.2⟩
 | 0 => Snd.none ⟨_, Tryz.func22, by kernel_rfl, by kernel_rfl⟩ fun _ => rfl
 | k + 1 => act_Same_sndk (act_Same_f k) (act_Same_sndf k) k
theorem act_Same_snd : Snd Tryz.prog S ⟨22, [.val (.data (.sl (.st 0))), .val (.data (.sl (.st 0)))], [.val (.data .bool)], fun x => act_Same x.1 x.2⟩ := Snd.lim (act_Same_sndf)
noncomputable def law8_ActBack  (v : List Int) (v_in : Int) : Option Bool := if 150 < (v.length : Int) then
 (law8_known).bind fun r1 =>
 some r1 else
 (law8_scope).bind fun r2 =>
 (ref37_Block (ref37_Row.mk v 0) r2 3).bind fun r3 =>
 (act_Print r3.1 (w64 v_in)).bind fun r4 =>
 (ref8_Print r3.1 (w64 v_in)).bind fun r5 =>
 if r4 ≠ r5 then
 if 16384 < (r4.length : Int) then
 (law8_known).bind fun r6 =>
 some r6 else
 some false else
 if 16384 < (r4.length : Int) then
 if 16384 < (r4.length : Int) then
 (law8_known).bind fun r7 =>
 some r7 else
 some false else
 (law8_read r4).bind fun r8 =>
 bif r8.2 then
 (act_Same r8.1 r3.1).bind fun r9 =>
 bif r9 then
 (act_Right r3.1).bind fun r10 =>
 bif r10 then
 (act_Right r8.1).bind fun r11 =>
 bif r11 then
 (act_Print r8.1 0).bind fun r12 =>
 (act_Print r3.1 0).bind fun r13 =>
 if r12 = r13 then
 (law8_known).bind fun r14 =>
 some r14 else
 some false else
 some false else
 some false else
 some false else
 some false
noncomputable abbrev law8_ActBack_T : Tab S := ⟨[⟨9, [], [.val (.data .bool)], fun x => law8_known⟩, ⟨17, [], [.val (.data (.st 10))], fun x => law8_scope⟩, ⟨16, [.obj [.data (.st 9)], .val (.data (.st 10)), .val (.data (.int .i64))], [.val (.town (.st 0))], fun x => ref37_Block x.1 x.2.1 x.2.2⟩, ⟨20, [.val (.data (.sl (.st 0))), .val (.data (.int .i64))], [.val (.data .str)], fun x => act_Print x.1 x.2⟩, ⟨15, [.val (.data (.sl (.st 0))), .val (.data (.int .i64))], [.val (.data .str)], fun x => ref8_Print x.1 x.2⟩, ⟨21, [.val (.data .str)], [.val (.town (.st 0)), .val (.data .bool)], fun x => law8_read x⟩, ⟨22, [.val (.data (.sl (.st 0))), .val (.data (.sl (.st 0)))], [.val (.data .bool)], fun x => act_Same x.1 x.2⟩, ⟨19, [.val (.data (.sl (.st 0)))], [.val (.data .bool)], fun x => act_Right x⟩], [], false, false, none, []⟩
noncomputable def law8_ActBack_L (k : Nat) : Nat → List (Lab S Bool)
 | _ => []
theorem law8_ActBack_eq (k : Nat) (v : List Int) (v_in : Int) : law8_ActBack v v_in = exec S (law8_ActBack_T) byt (labs S (law8_ActBack_T) (law8_ActBack_L k)) (ac [] Tryz.f6) (frame0 S [.val (.data (.sl (.int .i64))), .val (.data (.int .i8))] (v, v_in)) (retK S (law8_ActBack_T) Tryz.f6 [.val (.data (.sl (.int .i64))), .val (.data (.int .i8))] [.val (.data .bool)]) := by kernel_rfl
theorem law8_ActBack_vc (k : Nat) : VC S (law8_ActBack_T) byt (law8_ActBack_L k) (law8_ActBack_L (k + 1)) (ac [] Tryz.f6) (retK S (law8_ActBack_T) Tryz.f6 [.val (.data (.sl (.int .i64))), .val (.data (.int .i8))] [.val (.data .bool)]) = [] := by kernel_rfl
theorem law8_ActBack_snd : Snd Tryz.prog S ⟨6, [.val (.data (.sl (.int .i64))), .val (.data (.int .i8))], [.val (.data .bool)], fun x => law8_ActBack x.1 x.2⟩ :=
 fn_ok progOk (T := (law8_ActBack_T)) (all_cons law8_known_snd (all_cons law8_scope_snd (all_cons ref37_Block_snd (all_cons act_Print_snd (all_cons ref8_Print_snd (all_cons law8_read_snd (all_cons act_Same_snd (all_cons act_Right_snd (all_nil))))))))) (all_nil) (all_nil) mixed Tryz.func6 rfl (by kernel_rfl) (ac_code [] Tryz.f6 rfl) (L := law8_ActBack_L)
  (fun n l h x => by cases h) (fun k n l h => by cases h)
  (fun k => All.mem (law8_ActBack_vc k) trivial) (fun x r h => ⟨0, (law8_ActBack_eq 0 x.1 x.2).symm.trans h⟩) (by kernel_rfl) (by kernel_rfl) (Nat.le_of_ble_eq_true (by kernel_rfl)) (by kernel_rfl)
end Go.Sy.Ex
namespace Go.Sy.Ex
open Go Go.Sy Go.Proofs Go.Proofs.YtabknfplmamfmaaGreatDoor
abbrev L7 : List (String × DataW Unit) := [("math/bits.deBruijn32tab", Rows.laid_math_bits_deBruijn32tab), ("math/bits.deBruijn64tab", Rows.laid_math_bits_deBruijn64tab), ("internal/strconv.uint64pow10", Rows.laid_internal_strconv_uint64pow10), ("strconv.ErrRange", Rows.laid_strconv_ErrRange), ("strconv.ErrSyntax", Rows.laid_strconv_ErrSyntax)]
theorem gER : Tryz.prog.globalNamed "strconv.ErrRange" = some 2 := by kernel_rfl
theorem gES : Tryz.prog.globalNamed "strconv.ErrSyntax" = some 1 := by kernel_rfl
theorem tER : (Tryz.prog.globals[2]?).map (·.type) = some 117 := by kernel_rfl
theorem tES : (Tryz.prog.globals[1]?).map (·.type) = some 117 := by kernel_rfl
theorem star : "*" ++ "errors.errorString" = "*errors.errorString" := by decide
theorem rowE (u : TypeId) (h : Tryz.prog.typeName? 3 u = some "*errors.errorString") : u = 197 :=
 typeName_ptr_named (nm := "errors.errorString") (by rw [star]; kernel_rfl) (by kernel_rfl) (by decide) u (by rw [star]; exact h)
theorem gPT : Tryz.prog.globalNamed "internal/strconv.uint64pow10" = some 3 := by kernel_rfl
theorem tPT : (Tryz.prog.globals[3]?).map (·.type) = some 202 := by kernel_rfl
theorem maxLen_cell {W : World} (h : W.ShapedOpen Tryz.prog) : ∃ m, W.cell? ⟨0, 0, none⟩ = some (.int .i64 m) :=
 cell_of_shapedOpen_int (t := 3) (zero := #[.int .i64 0]) h (of_decide_eq_true (by kernel_rfl)) (by kernel_rfl) rfl (by kernel_rfl) (by kernel_rfl) Tryz.underlying3
theorem glob0 {W : World} {M : St} (hM : NoSt M) (hL : laidMetH Tryz.prog L7 W) (hsh : W.ShapedOpen Tryz.prog) : Glob S W M := by
 rw [MakeChecks.laidMetH_plain _ _ _ (by kernel_rfl)] at hL
 have hT : Lib.TabIs Tryz.prog W "internal/strconv.uint64pow10" .u64 Lib.pow10Tab := Lib.tabIs_of_head gPT tPT Tryz.underlying202 Tryz.underlying157 (by kernel_rfl) (by kernel_rfl) hL.tail.tail
 obtain ⟨a0, s0, hv0, -, -, -⟩ := laid_sentinel hL.tail.tail.tail gER tER Tryz.underlying117 rowE Tryz.underlying197 Tryz.underlying199 rfl rfl Tryz.underlying9 (by kernel_rfl) (by kernel_rfl)
 have c1 := World.var?_cell gER hv0 0
 obtain ⟨a1, s1, hv1, -, -, -⟩ := laid_sentinel hL.tail.tail.tail.tail gES tES Tryz.underlying117 rowE Tryz.underlying197 Tryz.underlying199 rfl rfl Tryz.underlying9 (by kernel_rfl) (by kernel_rfl)
 have c0 := World.var?_cell gES hv1 0
 obtain ⟨m, c3⟩ := maxLen_cell hsh
 refine ⟨fun g hg => ?_, fun g hg => ?_⟩
 · simp only [List.mem_cons, List.not_mem_nil, or_false] at hg
   rcases hg with rfl | rfl | rfl
   · exact ⟨World.block_lt_of_cell? _ _ c3, hM _ _, _, c3, m, rfl⟩
   · exact ⟨World.block_lt_of_cell? _ _ (by simpa using c1), hM _ _, _, by simpa using c1, .inr ⟨_, _, rfl⟩⟩
   · exact ⟨World.block_lt_of_cell? _ _ (by simpa using c0), hM _ _, _, by simpa using c0, .inr ⟨_, _, rfl⟩⟩
 · simp only [List.mem_cons, List.not_mem_nil, or_false] at hg
   subst hg
   unfold Lib.TabIs World.var? at hT
   rw [gPT] at hT
   simp only [Option.bind_some] at hT
   split at hT
   · rename_i cs t f hb
     cases hT
     exact ⟨(Array.getElem?_eq_some_iff.1 hb).1, fun o => hM _ _, _, hb, t, f, rfl⟩
   · cases hT
end Go.Sy.Ex
namespace Go.Sy.Ex
open Go Go.Sy Go.Proofs Go.Proofs.YtabknfplmamfmaaGreatDoor Go.ChangeShapes Go.WideShapes Go.RowKit
theorem returns_and_shaped {H : Type} {enc : TypeId × Value → H} {a : Assume} {C : Checked} {os : Os} {f : FuncId} {fn : Func} {s : ChangeSpec} {conds : List PathCond} {apart fresh handsOn again : Bool} {X : World → Array Value → Prop}
 (hX : ∀ (w w' : World) (args : Array Value), w.heap = w'.heap → X w args → X w' args)
 (own : ownKnob C.prog.godebug = none) (started : os.Started) (noInit : C.prog.inits.idxOf? f = none) (hfn : C.prog.funcs[f]? = some fn)
 (witness : ∃ (w : World) (tape : Tape) (i : Input), w.os = os ∧ (w.forCall tape i).Shaped C.prog ∧ i.vars = [] ∧ Input.okWide C.prog (w.forCall tape i) .any w.heap.size f i ∧
  ((s.pre enc C.prog fn conds apart (w.forCall tape i).memory i.args ∧ X (w.forCall tape i).memory i.args) ∧ sizedMet enc C.prog fn (OpenSpec.ofChange s) apart (w.forCall tape i).memory i.args) ∧ a.holds C.prog (lone (Frame.enter C.prog f i.args .normal) [] (w.forCall tape i)))
 (contract : ∀ (W : World) (base : Nat) (args : Array Value) (ds gs : List (DataW H)) (before : List MemPlace),
  (∀ (j : Nat) t v, fn.params[j]? = some t → args[j]? = some v → Value.okWide C.prog W .any base t v) →
  DataW.Whole enc C.prog fn.params.toList s.vars apart W args.toList ds gs before →
  conds.all (PathCond.test C.prog ⟨fn.params.toList, ds, s.plain.varTypes C.prog, gs⟩) = true →
  (DataW.weightsEach C.prog (fn.params.toList ++ s.plain.varTypes C.prog) (ds ++ gs)).all (· ≤ reachBytes) = true → X W args → W.ShapedOpen C.prog →
  a.holds C.prog (lone (Frame.enter C.prog f args .normal) [] W) →
  Calls C.prog f args W fun e W' => ∃ v, e = .returned v ∧ s.post enc C.prog fn apart fresh handsOn again W args v W') :
 ReturnsInHanded a C os f .any (fun w args => (s.pre enc C.prog fn conds apart w args ∧ X w args) ∧ sizedMet enc C.prog fn (OpenSpec.ofChange s) apart w args) (s.post enc C.prog fn apart fresh handsOn again) := by
 refine returnsInHanded_of_calls own started noInit witness ?_
 intro w tape i _ hsh _ hok hpre hholds
 obtain ⟨_, _, _, fn', hfn', _, _, _, _, hval⟩ := hok
 have e : fn' = fn := Option.some.inj (hfn'.symm.trans hfn)
 subst e
 obtain ⟨⟨⟨ds, gs, before, hw, hc⟩, hx⟩, hz⟩ := hpre
 have hw' := DataW.Whole.of_heap (w' := w.forCall tape i) (by rfl) hw
 refine (contract (w.forCall tape i) w.heap.size i.args ds gs before hval hw' hc (hz.weights hw) (hX _ _ _ (by rfl) hx) hsh hholds).mono fun e W' ⟨v, he, hp⟩ => ?_
 subst he
 exact ChangeSpec.post_blind hp
set_option maxRecDepth 100000 in
theorem door_met (os : Os) (args : Array Value) : laidMetH Tryz.prog L7 ((World.laidAll Tryz.prog os L7).forCall (fun _ _ => 0) ⟨#[], args, []⟩).memory := by
 rw [MakeChecks.laidMetH_plain _ _ _ (by kernel_rfl)]
 exact laidMet_laidAll _ (by kernel_rfl) (by kernel_rfl)
end Go.Sy.Ex
namespace Go.Sy.Ex
open Go.Sy
theorem u8_back (b : UInt8) : ((b.toNat : Nat) : Int).toNat.toUInt8 = b := by
 rw [Int.toNat_natCast]; exact UInt8.ofNat_toNat
theorem blank_iff (b : UInt8) : (0 ≤ Lib.indexByte s_sp_tab_nl_cr b) ↔ ((b.toNat : Int) = 32 ∨ (b.toNat : Int) = 9 ∨ (b.toNat : Int) = 10 ∨ (b.toNat : Int) = 13) := by
 have h : ∀ n, n < 256 → ((0 ≤ Lib.indexByte s_sp_tab_nl_cr (Nat.toUInt8 n)) ↔ (((Nat.toUInt8 n).toNat : Int) = 32 ∨ ((Nat.toUInt8 n).toNat : Int) = 9 ∨ ((Nat.toUInt8 n).toNat : Int) = 10 ∨ ((Nat.toUInt8 n).toNat : Int) = 13)) := by decide +kernel
 have := h b.toNat b.toNat_lt
 rwa [show Nat.toUInt8 b.toNat = b from UInt8.ofNat_toNat] at this
def isDigit (c : Int) : Bool := decide (48 ≤ c ∧ c ≤ 57)
def isLetter (c : Int) : Bool := decide ((97 ≤ c ∧ c ≤ 122) ∨ (65 ≤ c ∧ c ≤ 90) ∨ c = 95)
theorem kind_eq (c : Int) : lex_kind c = some (isLetter c || isDigit c, isDigit c) := by
 have fin : ∀ a b : Bool, ((a = true) ↔ ((97 ≤ c ∧ c ≤ 122) ∨ (65 ≤ c ∧ c ≤ 90) ∨ c = 95) ∨ (48 ≤ c ∧ c ≤ 57)) → ((b = true) ↔ (48 ≤ c ∧ c ≤ 57)) → some (a, b) = some (isLetter c || isDigit c, isDigit c) := by
  intro a b ha hb
  have e1 : a = (isLetter c || isDigit c) := by
   rw [Bool.eq_iff_iff, ha]; simp [isLetter, isDigit]
  have e2 : b = isDigit c := by
   rw [Bool.eq_iff_iff, hb]; simp [isDigit]
  rw [e1, e2]
 unfold lex_kind
 repeat' split
 all_goals
  refine fin _ _ ?_ ?_
  · constructor
    · intro h; first | omega | (cases h)
    · intro h; first | rfl | (exfalso; omega)
  · constructor
    · intro h; first | omega | (cases h)
    · intro h; first | rfl | (exfalso; omega)
def skipP : Bool → List UInt8 → Nat → Nat
 | _, [], n => n
 | true, b :: t, n => if b = 10 then skipP false t (n + 1) else skipP true t (n + 1)
 | false, b :: t, n => if b = 32 ∨ b = 9 ∨ b = 10 ∨ b = 13 then skipP false t (n + 1) else if b = 35 then skipP true t (n + 1) else n
theorem skipP_ge : ∀ (t : List UInt8) (r : Bool) (n : Nat), n ≤ skipP r t n ∧ skipP r t n ≤ n + t.length := by
 intro t
 induction t with
 | nil => intro r n; cases r <;> exact ⟨Nat.le_refl _, Nat.le_refl _⟩
 | cons b t ih =>
  intro r n
  have h1 := ih true (n + 1)
  have h2 := ih false (n + 1)
  cases r
  · simp only [skipP, List.length_cons]
    split
    · omega
    · split
      · omega
      · omega
  · simp only [skipP, List.length_cons]
    split <;> omega
theorem u8_int (b : UInt8) (n : Nat) (hn : n < 256) : ((b.toNat : Int) = (n : Int)) ↔ b = Nat.toUInt8 n := by
 constructor
 · intro h
   refine UInt8.toNat_inj.1 ?_
   have : (Nat.toUInt8 n).toNat = n := by
    show n % 256 = n
    omega
   omega
 · rintro rfl
   have : (Nat.toUInt8 n).toNat = n := by
    show n % 256 = n
    omega
   omega
theorem skip_run (t : List UInt8) (hl : t.length < 1000000000000) : ∀ m n, n + m = t.length → (∀ k, 3 * m + 1 ≤ k → lex_skip_l0 k t ((n : Nat) : Int) = some ((skipP false (t.drop n) n : Nat) : Int)) ∧ ∀ k, 3 * m + 2 ≤ k → lex_skip_l1 k t ((n : Nat) : Int) = some ((skipP true (t.drop n) n : Nat) : Int) := by
 intro m
 induction m with
 | zero =>
  intro n h
  have hd : t.drop n = [] := List.drop_eq_nil_of_le (by omega)
  have h0 : ∀ k, 1 ≤ k → lex_skip_l0 k t ((n : Nat) : Int) = some ((skipP false (t.drop n) n : Nat) : Int) := by
   intro k hk
   obtain ⟨k, rfl⟩ : ∃ j, k = j + 1 := ⟨k - 1, by omega⟩
   simp only [lex_skip_l0]
   rw [if_neg (by omega), hd]; rfl
  refine ⟨fun k hk => h0 k (by omega), fun k hk => ?_⟩
  obtain ⟨k, rfl⟩ : ∃ j, k = j + 1 := ⟨k - 1, by omega⟩
  simp only [lex_skip_l1]
  rw [if_neg (by omega), h0 k (by omega), hd]; rfl
 | succ m ih =>
  intro n h
  have hlt : n < t.length := by omega
  obtain ⟨i0, i1⟩ := ih (n + 1) (by omega)
  have e : w64 ((n : Int) + 1) = ((n + 1 : Nat) : Int) := by rw [w64_in (by omega) (by omega)]; omega
  have hd : t.drop n = t[n] :: t.drop (n + 1) := List.drop_eq_getElem_cons hlt
  have c10 : ((t[n].toNat : Nat) : Int) = 10 ↔ t[n] = 10 := u8_int t[n] 10 (by decide)
  have c32 : ((t[n].toNat : Nat) : Int) = 32 ↔ t[n] = 32 := u8_int t[n] 32 (by decide)
  have c9 : ((t[n].toNat : Nat) : Int) = 9 ↔ t[n] = 9 := u8_int t[n] 9 (by decide)
  have c13 : ((t[n].toNat : Nat) : Int) = 13 ↔ t[n] = 13 := u8_int t[n] 13 (by decide)
  have c35 : ((t[n].toNat : Nat) : Int) = 35 ↔ t[n] = 35 := u8_int t[n] 35 (by decide)
  have h0 : ∀ k, 3 * (m + 1) + 1 ≤ k → lex_skip_l0 k t ((n : Nat) : Int) = some ((skipP false (t.drop n) n : Nat) : Int) := by
   intro k hk
   obtain ⟨k, rfl⟩ : ∃ j, k = j + 1 := ⟨k - 1, by omega⟩
   have g1 : (n : Int) < (t.length : Int) := by omega
   have g0 : 0 ≤ (n : Int) := by omega
   have l1 : t[n] = 35 → lex_skip_l1 k t ((n : Nat) : Int) = some ((skipP true (t.drop (n + 1)) (n + 1) : Nat) : Int) := by
    intro hb
    obtain ⟨k, rfl⟩ : ∃ j, k = j + 1 := ⟨k - 1, by omega⟩
    simp only [lex_skip_l1]
    rw [if_pos g1, if_pos g0, if_pos g1, Int.toNat_natCast, getD_lt _ hlt, if_pos (by rw [hb]; decide), e]
    exact i1 k (by omega)
   simp only [lex_skip_l0, p_IndexByte, bind_some_eq, u8_back]
   simp only [g0, g1, if_true, Int.toNat_natCast, getD_lt _ hlt, e]
   rw [hd, i0 k (by omega)]
   simp only [skipP]
   have hb := blank_iff t[n]
   rw [c32, c9, c10, c13] at hb
   by_cases hx : 0 ≤ Lib.indexByte s_sp_tab_nl_cr t[n]
   · rw [if_pos hx, if_pos (hb.1 hx)]
   · rw [if_neg hx, if_neg (fun q => hx (hb.2 q))]
     by_cases b35 : t[n] = 35
     · rw [if_pos (c35.2 b35), if_pos b35, l1 b35]
     · rw [if_neg (fun q => b35 (c35.1 q)), if_neg b35]
  refine ⟨h0, fun k hk => ?_⟩
  obtain ⟨k, rfl⟩ : ∃ j, k = j + 1 := ⟨k - 1, by omega⟩
  simp only [lex_skip_l1]
  rw [if_pos (by omega), if_pos (by omega), if_pos (by omega), Int.toNat_natCast, getD_lt _ hlt, e]
  by_cases b10 : t[n] = 10
  · rw [if_neg (fun q => q (c10.2 b10)), h0 k (by omega), hd]
    simp only [skipP]
    rw [if_pos (.inr (.inr (.inl b10))), if_pos b10]
  · rw [if_pos (fun q => b10 (c10.1 q)), i1 k (by omega), hd]
    simp only [skipP]
    rw [if_neg b10]
def dg (b : UInt8) : Bool := isDigit (b.toNat : Int)
def lt (b : UInt8) : Bool := isLetter (b.toNat : Int)
def nm (b : UInt8) : Bool := lt b || dg b
def runP (p : UInt8 → Bool) (t : List UInt8) (n : Nat) : Nat := n + ((t.drop n).takeWhile p).length
theorem runP_stop {p : UInt8 → Bool} {t : List UInt8} {n : Nat} (h : t.length ≤ n) : runP p t n = n := by
 unfold runP; rw [List.drop_eq_nil_of_le h]; rfl
theorem runP_yes {p : UInt8 → Bool} {t : List UInt8} {n : Nat} (h : n < t.length) (hp : p t[n] = true) : runP p t n = runP p t (n + 1) := by
 unfold runP; rw [List.drop_eq_getElem_cons h, List.takeWhile_cons_of_pos hp]; simp only [List.length_cons]; omega
theorem runP_no {p : UInt8 → Bool} {t : List UInt8} {n : Nat} (h : n < t.length) (hp : p t[n] = false) : runP p t n = n := by
 unfold runP; rw [List.drop_eq_getElem_cons h, List.takeWhile_cons_of_neg (by simp [hp])]; rfl
theorem takeWhile_le (p : UInt8 → Bool) : ∀ l : List UInt8, (l.takeWhile p).length ≤ l.length := fun l => by
 induction l with
 | nil => exact Nat.le_refl _
 | cons a l ih => rw [List.takeWhile_cons]; split <;> simp <;> omega
theorem runP_ge (p : UInt8 → Bool) (t : List UInt8) (n : Nat) (h : n ≤ t.length) : n ≤ runP p t n ∧ runP p t n ≤ t.length := by
 unfold runP
 have := takeWhile_le p (t.drop n)
 rw [List.length_drop] at this
 omega
theorem cut_run (p : UInt8 → Bool) (t : List UInt8) (n : Nat) : cut t ((n : Nat) : Int) ((runP p t n : Nat) : Int) = (t.drop n).takeWhile p := by
 unfold cut runP
 rw [Int.toNat_natCast, Int.toNat_natCast, List.drop_take, Nat.add_sub_cancel_left]
 generalize t.drop n = l
 induction l with
 | nil => rfl
 | cons a l ih => rw [List.takeWhile_cons]; split
                  · rw [List.length_cons, List.take_succ_cons, ih]
                  · rfl
theorem end_run (t : List UInt8) (f : Bool) (hl : t.length < 1000000000000) : ∀ m n, n + m = t.length → ∀ k, m + 1 ≤ k → lex_end_l0 k t ((n : Nat) : Int) f = some ((runP (fun b => bif f then dg b else nm b) t n : Nat) : Int) := by
 intro m
 induction m with
 | zero =>
  intro n h k hk
  obtain ⟨k, rfl⟩ : ∃ j, k = j + 1 := ⟨k - 1, by omega⟩
  simp only [lex_end_l0]
  rw [if_neg (by omega), runP_stop (by omega)]
 | succ m ih =>
  intro n h k hk
  obtain ⟨k, rfl⟩ : ∃ j, k = j + 1 := ⟨k - 1, by omega⟩
  have hlt : n < t.length := by omega
  have e : w64 ((n : Int) + 1) = ((n + 1 : Nat) : Int) := by rw [w64_in (by omega) (by omega)]; omega
  simp only [lex_end_l0, kind_eq, bind_some_eq]
  rw [if_pos (by omega), if_pos (by omega), if_pos (by omega), Int.toNat_natCast, getD_lt _ hlt, e, ih (n + 1) (by omega) k (by omega)]
  have key : ∀ a b : Bool, lt t[n] = a → dg t[n] = b → (bif !(a || b) then some ((n : Nat) : Int) else bif f then bif !b then some ((n : Nat) : Int) else some ((runP (fun b => bif f then dg b else nm b) t (n + 1) : Nat) : Int) else some ((runP (fun b => bif f then dg b else nm b) t (n + 1) : Nat) : Int)) = some ((runP (fun b => bif f then dg b else nm b) t n : Nat) : Int) := by
   intro a b ha hb
   cases f <;> cases a <;> cases b <;> simp only [Bool.or_self, Bool.not_true, Bool.not_false, Bool.or_true, Bool.true_or, Bool.or_false, Bool.false_or, cond_true, cond_false]
   all_goals
    first
     | (rw [runP_no hlt ?_]; simp [nm, ha, hb]; done)
     | (rw [runP_yes hlt ?_]; simp [nm, ha, hb]; done)
  exact key _ _ rfl rfl
theorem end_eq (t : List UInt8) (n : Nat) (hl : t.length < 1000000000000) (h : n < t.length) : lex_end t ((n : Nat) : Int) = some ((runP (fun b => bif dg t[n] then dg b else nm b) t n : Nat) : Int) := by
 refine lim_eq (t.length - n + 1) fun k hk => ?_
 simp only [lex_end_f, kind_eq, bind_some_eq]
 rw [if_pos (by omega), if_pos (by omega), Int.toNat_natCast, getD_lt _ h]
 exact end_run t _ hl (t.length - n) n (by omega) k (by omega)
def valP (acc : Nat) : List UInt8 → Option Nat
 | [] => some acc
 | c :: r => if (9223372036854775807 - (c.toNat - 48)) / 10 < acc then none else valP (10 * acc + (c.toNat - 48)) r
theorem dg_iff (b : UInt8) : dg b = true ↔ 48 ≤ b.toNat ∧ b.toNat ≤ 57 := by
 unfold dg isDigit
 rw [decide_eq_true_eq]
 omega
theorem big_run : ∀ (l : List UInt8) (acc : Nat), (∀ c ∈ l, dg c = true) → 9223372036854775808 ≤ acc → Lib.parseUintM (2 ^ 64 - 1) acc l = .range ∨ ∃ u, 9223372036854775808 ≤ u ∧ Lib.parseUintM (2 ^ 64 - 1) acc l = .ok u := by
 intro l acc hd ha
 cases l with
 | nil => exact .inr ⟨acc, ha, rfl⟩
 | cons c r =>
  refine .inl ?_
  have := (dg_iff c).1 (hd c (by simp))
  unfold Lib.parseUintM
  rw [if_pos this, if_pos (by omega)]
theorem val_run : ∀ (l : List UInt8) (acc : Nat), (∀ c ∈ l, dg c = true) → acc < 9223372036854775808 →
 (∀ v, valP acc l = some v → v < 9223372036854775808 ∧ Lib.parseUintM (2 ^ 64 - 1) acc l = .ok v) ∧ (valP acc l = none → Lib.parseUintM (2 ^ 64 - 1) acc l = .range ∨ ∃ u, 9223372036854775808 ≤ u ∧ Lib.parseUintM (2 ^ 64 - 1) acc l = .ok u) := by
 intro l
 induction l with
 | nil => intro acc _ ha; exact ⟨fun v h => by cases h; exact ⟨ha, rfl⟩, fun h => by cases h⟩
 | cons c r ih =>
  intro acc hd ha
  have hc := (dg_iff c).1 (hd c (by simp))
  have hr : ∀ c ∈ r, dg c = true := fun x hx => hd x (by simp [hx])
  unfold valP Lib.parseUintM
  rw [if_pos hc]
  by_cases h : (9223372036854775807 - (c.toNat - 48)) / 10 < acc
  · rw [if_pos h]
    refine ⟨fun v h => by (cases h), fun _ => ?_⟩
    by_cases h1 : 1844674407370955162 ≤ acc
    · rw [if_pos h1]; exact .inl rfl
    · rw [if_neg h1]
      by_cases h2 : 2 ^ 64 - 1 < acc * 10 + (c.toNat - 48)
      · rw [if_pos h2]; exact .inl rfl
      · rw [if_neg h2]
        exact big_run r _ hr (by omega)
  · rw [if_neg h, if_neg (by omega), if_neg (by omega), show acc * 10 + (c.toNat - 48) = 10 * acc + (c.toNat - 48) by omega]
    exact ih _ hr (by omega)
def numP (l : List UInt8) : Int × Int := if 1 < l.length ∧ l.getD 0 0 = 48 then (0, 11) else match valP 0 l with | some v => ((v : Int), 0) | none => (0, 16)
def numOf (l : List UInt8) : Int × Int :=
 if (1 < l.length ∧ l.getD 0 0 = 48) then (0, 11) else match Lib.parseIntB 64 l with
  | .ok v => (v, 0)
  | _ => (0, 16)
theorem number_eq (l : List UInt8) (hl : l.length ≤ 281474976710656) : lex_number l = some (numOf l) := by
 have key : ((p_ParseInt l 10 64).bind fun r1 => bif !r1.2 then some ((0 : Int), (16 : Int)) else some (r1.1, 0)) = some (match Lib.parseIntB 64 l with
  | .ok v => (v, 0)
  | _ => (0, 16)) := by
  unfold p_ParseInt
  rw [if_pos ⟨hl, rfl, rfl⟩, bind_some_eq]
  cases Lib.parseIntB 64 l <;> rfl
 have h0 : (((l.getD (0 : Int).toNat 0).toNat : Nat) : Int) = 48 ↔ l.getD 0 0 = 48 := u8_int _ 48 (by decide)
 unfold lex_number numOf
 by_cases h1 : 1 < l.length
 · rw [if_pos (by omega), if_pos (by omega), if_pos (by omega)]
   by_cases h2 : l.getD 0 0 = 48
   · rw [if_pos (h0.2 h2), if_pos ⟨h1, h2⟩]
   · rw [if_neg (fun q => h2 (h0.1 q)), if_neg (fun q => h2 q.2), key]
 · rw [if_neg (by omega), if_neg (fun q => h1 q.1), key]
theorem num_eq (l : List UInt8) (h0 : l ≠ []) (hd : ∀ c ∈ l, dg c = true) : numOf l = numP l := by
 unfold numOf numP
 by_cases h : 1 < l.length ∧ l.getD 0 0 = 48
 · rw [if_pos h, if_pos h]
 · rw [if_neg h, if_neg h]
   obtain ⟨c, r, rfl⟩ : ∃ c r, l = c :: r := by cases l with
    | nil => exact absurd rfl h0
    | cons c r => exact ⟨c, r, rfl⟩
   have hc := (dg_iff c).1 (hd c (by simp))
   obtain ⟨v1, v2⟩ := val_run (c :: r) 0 hd (by omega)
   have e : (∀ u, Lib.parseUintM (2 ^ 64 - 1) 0 (c :: r) = .ok u → Lib.parseIntB 64 (c :: r) = if 9223372036854775808 ≤ u then .range else .ok (u : Int)) ∧ (Lib.parseUintM (2 ^ 64 - 1) 0 (c :: r) = .range → Lib.parseIntB 64 (c :: r) = .range) := by
    unfold Lib.parseIntB Lib.parseUintB
    simp only []
    rw [if_neg (show ¬ (c.toNat = 43 ∨ c.toNat = 45) by omega), if_neg (by simp)]
    constructor
    · intro u hu
      rw [hu]
      simp only [show ¬ c.toNat = 45 by omega, not_false_eq_true, true_and, false_and, if_false]
    · intro hu
      rw [hu]
   cases hv : valP 0 (c :: r) with
   | some v =>
    obtain ⟨a, b⟩ := v1 v hv
    rw [e.1 v b, if_neg (by omega)]
   | none =>
    rcases v2 hv with b | ⟨u, a, b⟩
    · rw [e.2 b]
    · rw [e.1 u b, if_pos a]
def pairsP : List (List UInt8) := [[45, 62], [61, 61], [33, 61], [60, 61], [62, 61], [38, 38], [124, 124]]
def signP : List UInt8 → Nat
 | [] => 0
 | [b] => if b ∈ s_x5d46a then 1 else 0
 | b :: c :: _ => if [b, c] ∈ pairsP then 2 else if b ∈ s_x5d46a then 1 else 0
theorem index_mem (l : List UInt8) (c : UInt8) : 0 ≤ Lib.indexByte l c ↔ c ∈ l := by
 induction l with
 | nil => simp [Lib.indexByte]
 | cons b l ih =>
  unfold Lib.indexByte
  have hge := Lib.indexByte_ge l c
  by_cases h : b = c
  · subst h; simp
  · rw [if_neg (by simpa using h)]
    rw [List.mem_cons]
    by_cases h1 : Lib.indexByte l c = -1
    · rw [if_pos (by simp [h1])]
      constructor
      · intro x; omega
      · rintro (rfl | x)
        · exact absurd rfl h
        · have := ih.2 x; omega
    · rw [if_neg (by simpa using h1)]
      constructor
      · intro x; exact .inr (ih.1 (by omega))
      · rintro (rfl | x)
        · exact absurd rfl h
        · have := ih.2 x; omega
theorem contains_iff (s sub : List UInt8) : Lib.contains s sub = true ↔ ∃ i, i ≤ s.length ∧ Lib.occAt s sub i = true := by
 unfold Lib.contains
 rw [decide_eq_true_eq]
 rcases Lib.index_spec s sub with ⟨h1, h2⟩ | ⟨i, h1, h2, h3, _⟩
 · constructor
   · intro h; omega
   · rintro ⟨i, hi, h⟩; rw [h2 i hi] at h; cases h
 · exact ⟨fun _ => ⟨i, h2, h3⟩, fun _ => by omega⟩
theorem pair_eq (b c : UInt8) (hb : b ≠ 32) (hc : c ≠ 32) : Lib.contains s_xe6575 [b, c] = decide ([b, c] ∈ pairsP) := by
 rw [Bool.eq_iff_iff, contains_iff, decide_eq_true_eq]
 constructor
 · rintro ⟨i, hi, h⟩
   have hi' : i = 0 ∨ i = 1 ∨ i = 2 ∨ i = 3 ∨ i = 4 ∨ i = 5 ∨ i = 6 ∨ i = 7 ∨ i = 8 ∨ i = 9 ∨ i = 10 ∨ i = 11 ∨ i = 12 ∨ i = 13 ∨ i = 14 ∨ i = 15 ∨ i = 16 ∨ i = 17 ∨ i = 18 ∨ i = 19 ∨ i = 20 := by
    have : i ≤ 20 := hi
    omega
   clear hi
   rcases hi' with rfl | rfl | rfl | rfl | rfl | rfl | rfl | rfl | rfl | rfl | rfl | rfl | rfl | rfl | rfl | rfl | rfl | rfl | rfl | rfl | rfl
   all_goals
    simp only [Lib.occAt, List.drop_succ_cons, List.drop_zero, List.drop_nil, List.isPrefixOf, Bool.and_true, Bool.and_eq_true, beq_iff_eq, Bool.and_false, Bool.false_eq_true, and_false] at h
   all_goals
    first
     | exact absurd h.1 hb
     | exact absurd h.2 hc
     | (obtain ⟨rfl, rfl⟩ := h; decide)
 · intro h
   simp only [pairsP, List.mem_cons, List.cons.injEq, and_true, List.not_mem_nil, or_false] at h
   rcases h with ⟨rfl, rfl⟩ | ⟨rfl, rfl⟩ | ⟨rfl, rfl⟩ | ⟨rfl, rfl⟩ | ⟨rfl, rfl⟩ | ⟨rfl, rfl⟩ | ⟨rfl, rfl⟩
   · exact ⟨0, by decide, by decide⟩
   · exact ⟨3, by decide, by decide⟩
   · exact ⟨6, by decide, by decide⟩
   · exact ⟨9, by decide, by decide⟩
   · exact ⟨12, by decide, by decide⟩
   · exact ⟨15, by decide, by decide⟩
   · exact ⟨18, by decide, by decide⟩
theorem cut2 (t : List UInt8) (n : Nat) (h : n + 1 < t.length) : cut t ((n : Nat) : Int) ((n + 2 : Nat) : Int) = [t[n], t[n + 1]] := by
 unfold cut
 rw [Int.toNat_natCast, Int.toNat_natCast, List.drop_take, Nat.add_sub_cancel_left, List.drop_eq_getElem_cons (by omega : n < t.length), List.drop_eq_getElem_cons h]
 rfl
theorem signP_two (t : List UInt8) (n : Nat) (h : n + 1 < t.length) : signP (t.drop n) = if [t[n], t[n + 1]] ∈ pairsP then 2 else if t[n] ∈ s_x5d46a then 1 else 0 := by
 rw [List.drop_eq_getElem_cons (by omega : n < t.length), List.drop_eq_getElem_cons h]; rfl
theorem signP_one (t : List UInt8) (n : Nat) (h : n + 1 = t.length) : signP (t.drop n) = if t[n] ∈ s_x5d46a then 1 else 0 := by
 rw [List.drop_eq_getElem_cons (by omega : n < t.length), List.drop_eq_nil_of_le (by omega)]; rfl
theorem no32 (b : UInt8) : [b, (32 : UInt8)] ∉ pairsP := by
 simp only [pairsP, List.mem_cons, List.cons.injEq, and_true, List.not_mem_nil, or_false]
 rintro (⟨_, h⟩ | ⟨_, h⟩ | ⟨_, h⟩ | ⟨_, h⟩ | ⟨_, h⟩ | ⟨_, h⟩ | ⟨_, h⟩) <;> revert h <;> decide
theorem u8_b (b : UInt8) : b.toNat.toUInt8 = b := UInt8.ofNat_toNat
theorem lsign_eq (t : List UInt8) (n : Nat) (hl : t.length < 1000000000000) (h : n < t.length) (hb : t[n] ≠ 32) : lex_sign t ((n : Nat) : Int) = some ((n + signP (t.drop n) : Nat) : Int) := by
 have e1 : w64 ((n : Int) + 1) = ((n + 1 : Nat) : Int) := by rw [w64_in (by omega) (by omega)]; omega
 have e2 : w64 ((n : Int) + 2) = ((n + 2 : Nat) : Int) := by rw [w64_in (by omega) (by omega)]; omega
 unfold lex_sign
 simp only [p_IndexByte, p_Contains, bind_some_eq, u8_back, e1, e2, Int.toNat_natCast, getD_lt _ h, index_mem, u8_b]
 have hone : (if t[n] ∈ s_x5d46a then some ((n + 1 : Nat) : Int) else some ((n : Nat) : Int)) = some ((n + (if t[n] ∈ s_x5d46a then 1 else 0) : Nat) : Int) := by
  split <;> rfl
 by_cases h1 : n + 1 < t.length
 · rw [if_pos (by omega), if_pos (by omega), if_pos (by omega), getD_lt _ h1, signP_two t n h1]
   by_cases hc : t[n + 1] = 32
   · rw [if_neg (by rw [hc]; decide), if_pos (by omega), if_pos (by omega), hc, if_neg (no32 _), hone]
   · have hc' : ((t[n + 1].toNat : Nat) : Int) ≠ 32 := fun q => hc ((u8_int _ 32 (by decide)).1 q)
     rw [if_pos hc', if_pos (by omega), if_pos (by omega), if_pos (by omega), if_pos (by omega), cut2 t n h1, if_pos (by decide), bind_some_eq, pair_eq _ _ hb hc]
     by_cases hp : [t[n], t[n + 1]] ∈ pairsP
     · rw [if_pos hp, decide_eq_true hp]; rfl
     · rw [if_neg hp, decide_eq_false hp, cond_false, if_pos (by omega), if_pos (by omega), hone]
 · rw [if_neg (by omega), if_pos (by omega), if_pos (by omega), signP_one t n (by omega), hone]
def tokP (t : List UInt8) (n : Nat) : api_Token × Int :=
 if dg (t.getD n 0) then
  (let r := numP ((t.drop n).takeWhile dg)
   if r.2 ≠ 0 then (api_Token.mk 0 0 0 [] 0, r.2) else (api_Token.mk 2 n (runP dg t n : Nat) ((t.drop n).takeWhile dg) r.1, 0))
 else if lt (t.getD n 0) then
  (if n + 24 < runP nm t n then (api_Token.mk 0 0 0 [] 0, 13) else (api_Token.mk 1 n (runP nm t n : Nat) ((t.drop n).takeWhile nm) 0, 0))
 else if signP (t.drop n) = 0 then (api_Token.mk 0 0 0 [] 0, 10)
 else (api_Token.mk 3 n (n + signP (t.drop n) : Nat) ((t.drop n).take (signP (t.drop n))) 0, 0)
theorem signP_le (t : List UInt8) : signP t ≤ t.length := by
 unfold signP
 split
 · exact Nat.le_refl _
 · split <;> simp
 · split
   · simp
   · split <;> simp
theorem cut_take (t : List UInt8) (n j : Nat) : cut t ((n : Nat) : Int) ((n + j : Nat) : Int) = (t.drop n).take j := by
 unfold cut
 rw [Int.toNat_natCast, Int.toNat_natCast, List.drop_take, Nat.add_sub_cancel_left]
theorem tw_all (p : UInt8 → Bool) : ∀ l : List UInt8, ∀ c ∈ l.takeWhile p, p c = true := by
 intro l
 induction l with
 | nil => intro c hc; cases hc
 | cons a l ih =>
  intro c hc
  rw [List.takeWhile_cons] at hc
  split at hc
  · rcases List.mem_cons.1 hc with rfl | h
    · assumption
    · exact ih c h
  · cases hc
theorem numOf_run (t : List UInt8) (n : Nat) (h : n < t.length) (hd : dg t[n] = true) : numOf ((t.drop n).takeWhile dg) = numP ((t.drop n).takeWhile dg) := by
 refine num_eq _ ?_ ?_
 · rw [List.drop_eq_getElem_cons h, List.takeWhile_cons_of_pos hd]; exact List.cons_ne_nil _ _
 · intro c hc; exact tw_all _ _ c hc
theorem ltoken_eq (t : List UInt8) (n : Nat) (hl : t.length < 1000000000000) (h : n < t.length) (hb : t[n] ≠ 32) : lex_token t ((n : Nat) : Int) = some (tokP t n) := by
 unfold lex_token tokP
 simp only [kind_eq, bind_some_eq, Int.toNat_natCast, getD_lt _ h, end_eq t n hl h, lsign_eq t n hl h hb]
 have g0 : (0 : Int) ≤ (n : Int) := by omega
 have g1 : (n : Int) < (t.length : Int) := by omega
 rw [if_pos g0, if_pos g1]
 have hdg : isDigit ((t[n].toNat : Nat) : Int) = dg t[n] := rfl
 have hlt : isLetter ((t[n].toNat : Nat) : Int) = lt t[n] := rfl
 rw [hdg, hlt]
 cases hd : dg t[n] with
 | true =>
  have r := runP_ge dg t n (by omega)
  simp only [cond_true, if_true]
  rw [show (fun b => dg b) = dg from rfl, if_pos (by omega), if_pos (by omega), if_pos (by omega), if_pos (by omega)]
  have hc : cut t ((n : Nat) : Int) ((runP dg t n : Nat) : Int) = (t.drop n).takeWhile dg := cut_run dg t n
  have hlen : ((t.drop n).takeWhile dg).length ≤ 281474976710656 := by
   have := takeWhile_le dg (t.drop n); rw [List.length_drop] at this; omega
  rw [hc, number_eq _ hlen, bind_some_eq, numOf_run t n h hd]
  by_cases hz : (numP ((t.drop n).takeWhile dg)).2 ≠ 0
  · rw [if_pos hz, if_pos hz]
  · rw [if_neg hz, if_neg hz, if_pos (by omega), if_pos (by omega), if_pos (by omega), if_pos (by omega)]
 | false =>
  simp only [cond_false, Bool.or_false, if_false, Bool.false_eq_true]
  cases hL : lt t[n] with
  | true =>
   have r := runP_ge nm t n (by omega)
   have hc : cut t ((n : Nat) : Int) ((runP nm t n : Nat) : Int) = (t.drop n).takeWhile nm := cut_run nm t n
   simp only [cond_true, if_true]
   rw [show (fun b => nm b) = nm from rfl, hc, w64_in (by omega) (by omega)]
   by_cases h24 : n + 24 < runP nm t n
   · rw [if_pos (by omega), if_pos h24]
   · rw [if_neg (by omega), if_neg h24, if_pos (by omega), if_pos (by omega), if_pos (by omega), if_pos (by omega)]
  | false =>
   simp only [cond_false, if_false, Bool.false_eq_true]
   have hs := signP_le (t.drop n)
   rw [List.length_drop] at hs
   rw [cut_take]
   by_cases hz : signP (t.drop n) = 0
   · rw [if_pos (by omega), if_pos hz]
   · rw [if_neg (by omega), if_neg hz, if_pos (by omega), if_pos (by omega), if_pos (by omega), if_pos (by omega)]
theorem disj (b : UInt8) (h : lt b = true) : dg b = false := by
 unfold lt isLetter at h
 unfold dg isDigit
 rw [decide_eq_true_eq] at h
 rw [decide_eq_false_iff_not]
 omega
theorem lskip_eq (t : List UInt8) (n : Nat) (hl : t.length < 1000000000000) (h : n ≤ t.length) : lex_skip t ((n : Nat) : Int) = some ((skipP false (t.drop n) n : Nat) : Int) :=
 lim_eq (3 * (t.length - n) + 1) fun k hk => (skip_run t hl (t.length - n) n (by omega)).1 k hk
theorem skipP_free : ∀ (u : List UInt8) (r : Bool) (n j : Nat), skipP r u n = n + j → j < u.length → u.getD j 0 ≠ 32 := by
 intro u
 induction u with
 | nil => intro r n j _ h; simp at h
 | cons b u ih =>
  intro r n j hj h
  have go : ∀ r', skipP r' u (n + 1) = n + j → (b :: u).getD j 0 ≠ 32 := by
   intro r' h'
   have := (skipP_ge u r' (n + 1)).1
   obtain ⟨j, rfl⟩ : ∃ i, j = i + 1 := ⟨j - 1, by omega⟩
   rw [List.getD_cons_succ]
   refine ih r' (n + 1) j (by omega) (by simpa using h)
  cases r with
  | true =>
   simp only [skipP] at hj
   split at hj
   · exact go _ hj
   · exact go _ hj
  | false =>
   simp only [skipP] at hj
   split at hj
   · exact go _ hj
   · split at hj
     · exact go _ hj
     · rename_i h1 h2
       obtain rfl : j = 0 := by omega
       intro q
       exact h1 (.inl q)
theorem tok_end (t : List UInt8) (n : Nat) (h : n < t.length) (hz : (tokP t n).2 = 0) : ∃ e : Nat, (tokP t n).1.End = (e : Int) ∧ n < e ∧ e ≤ t.length ∧ (tokP t n).1.At = (n : Int) ∧ (tokP t n).1.Text = cut t ((n : Nat) : Int) ((e : Nat) : Int) ∧ (tokP t n).1.Kind ≠ 4 := by
 revert hz
 unfold tokP
 rw [getD_lt _ h]
 by_cases hD : dg t[n] = true
 · rw [if_pos hD]
   simp only []
   split
   · intro hz; rename_i q; exact absurd hz q
   · intro _
     refine ⟨runP dg t n, rfl, ?_, (runP_ge dg t n (by omega)).2, rfl, (cut_run dg t n).symm, fun q => absurd (show (2 : Int) = 4 from q) (by decide)⟩
     rw [runP_yes h hD]; exact (runP_ge dg t (n + 1) (by omega)).1
 · rw [if_neg hD]
   by_cases hL : lt t[n] = true
   · rw [if_pos hL]
     split
     · intro hz; exact absurd hz (by decide)
     · intro _
       refine ⟨runP nm t n, rfl, ?_, (runP_ge nm t n (by omega)).2, rfl, (cut_run nm t n).symm, fun q => absurd (show (1 : Int) = 4 from q) (by decide)⟩
       rw [runP_yes h (by simp [nm, hL])]; exact (runP_ge nm t (n + 1) (by omega)).1
   · rw [if_neg hL]
     have hs := signP_le (t.drop n)
     rw [List.length_drop] at hs
     split
     · intro hz; exact absurd hz (by decide)
     · intro _
       exact ⟨n + signP (t.drop n), rfl, by omega, by omega, rfl, (cut_take t n _).symm, fun q => absurd (show (3 : Int) = 4 from q) (by decide)⟩
def allGo : Nat → List UInt8 → List api_Token → Nat → List api_Token × api_Fault
 | 0, _, _, _ => ([], api_Fault.mk 0 0)
 | k + 1, t, l, n => if n < t.length then
  (if (tokP t n).2 ≠ 0 then ([], api_Fault.mk (tokP t n).2 n) else allGo k t (l ++ [(tokP t n).1]) (skipP false (t.drop (tokP t n).1.End.toNat) (tokP t n).1.End.toNat))
  else (l ++ [api_Token.mk 4 n n [] 0], api_Fault.mk 0 0)
def allP (t : List UInt8) : List api_Token × api_Fault :=
 if 16384 < t.length then ([], api_Fault.mk 13 16384) else allGo (t.length + 1) t [] (skipP false t 0)
theorem free_at (t : List UInt8) (n : Nat) (h : n ≤ t.length) (hs : skipP false (t.drop n) n < t.length) : t[skipP false (t.drop n) n] ≠ 32 := by
 have h1 := (skipP_ge (t.drop n) false n).1
 have := skipP_free (t.drop n) false n (skipP false (t.drop n) n - n) (by omega) (by rw [List.length_drop]; omega)
 rw [getD_lt _ (by rw [List.length_drop]; omega), List.getElem_drop] at this
 have e : n + (skipP false (t.drop n) n - n) = skipP false (t.drop n) n := by omega
 simpa only [e] using this
theorem all_run (t : List UInt8) (hl : t.length ≤ 16384) : ∀ m n, t.length ≤ n + m → n ≤ t.length → (∀ h : n < t.length, t[n] ≠ 32) → ∀ l : List api_Token, l.length ≤ n → ∀ k k', m + 1 ≤ k → m + 1 ≤ k' →
 lex_All_l0 k t 0 0 l ((n : Nat) : Int) = some (allGo k' t l n) := by
 intro m
 induction m with
 | zero =>
  intro n h hn _ l hln k k' hk hk'
  obtain ⟨k, rfl⟩ : ∃ j, k = j + 1 := ⟨k - 1, by omega⟩
  obtain ⟨k', rfl⟩ : ∃ j, k' = j + 1 := ⟨k' - 1, by omega⟩
  simp only [lex_All_l0, allGo, List.length_cons, List.length_nil]
  rw [if_neg (by omega), if_pos (by omega), if_neg (by omega)]
 | succ m ih =>
  intro n h hn hb l hln k k' hk hk'
  obtain ⟨k, rfl⟩ : ∃ j, k = j + 1 := ⟨k - 1, by omega⟩
  obtain ⟨k', rfl⟩ : ∃ j, k' = j + 1 := ⟨k' - 1, by omega⟩
  by_cases hlt : n < t.length
  · have hi : (n : Int) < (t.length : Int) := by omega
    have hc48 : (l.length + (0 + 1)) * 48 ≤ 140737488355328 := by omega
    simp only [lex_All_l0, allGo, List.length_cons, List.length_nil, hi, hlt, if_true, ltoken_eq t n (by omega) hlt (hb hlt), bind_some_eq, hc48]
    by_cases hz : (tokP t n).2 = 0
    · simp only [hz, ne_eq, not_true_eq_false, if_false]
      obtain ⟨e, he, h1, h2, _⟩ := tok_end t n hlt hz
      simp only [he, lskip_eq t e (by omega) h2, bind_some_eq, Int.toNat_natCast]
      have hg := skipP_ge (t.drop e) false e
      rw [List.length_drop] at hg
      exact ih _ (by omega) (by omega) (fun hh => free_at t e h2 hh) _ (by rw [List.length_append, List.length_singleton]; omega) k k' (by omega) (by omega)
    · simp only [hz, ne_eq, not_false_eq_true, if_true]
  · simp only [lex_All_l0, allGo, List.length_cons, List.length_nil]
    rw [if_neg (by omega), if_pos (by omega), if_neg hlt]
theorem lAll_eq (t : List UInt8) : lex_All t = some (allP t) := by
 refine lim_eq (t.length + 1) fun k hk => ?_
 unfold lex_All_f allP
 by_cases hl : 16384 < t.length
 · rw [if_pos (by omega), if_pos hl]
 · have hg := skipP_ge t false 0
   rw [if_neg (by omega), if_neg hl, show (0 : Int) = ((0 : Nat) : Int) from rfl, lskip_eq t 0 (by omega) (Nat.zero_le _), bind_some_eq]
   exact (all_run t (by omega) t.length _ (by omega) (by rw [List.drop_zero]; omega) (fun hh => free_at t 0 (Nat.zero_le _) hh) [] (Nat.zero_le _) k _ (by omega) (by omega))
theorem all_len (t : List UInt8) : ∀ k l n, (allGo k t l n).1.length ≤ l.length + k := by
 intro k
 induction k with
 | zero => intro l n; simp [allGo]
 | succ k ih =>
  intro l n
  simp only [allGo]
  split
  · split
    · simp
    · refine Nat.le_trans (ih _ _) ?_
      simp; omega
  · simp
theorem allP_len (t : List UInt8) : (allP t).1.length ≤ 16385 := by
 unfold allP
 split
 · simp
 · have := all_len t (t.length + 1) [] (skipP false t 0)
   simp at this
   omega
abbrev wordsL : List (List UInt8) := [s_system, s_age, s_chart, s_steps, s_fuel, s_var, s_port, s_timer, s_state, s_parallel, s_history, s_deep, s_entry, s_exit, s_on, s_auto, s_raise, s_send, s_arm, s_cancel, s_if, s_else, s_loop, s_in, s_inst, s_quantum, s_ext, s_prio, s_chan, s_cap, s_cert, s_insts, s_chans, s_cell, s_off]
def resP (s : List UInt8) : Bool := decide (s ∈ wordsL)
theorem words_len : wordsL.length = 35 := rfl
theorem res_yes {s w : List UInt8} (hw : w ∈ wordsL) (h : s = w) : resP s = true := by subst h; exact decide_eq_true hw
theorem lres_eq (s : List UInt8) : lex_Reserved s = some (resP s) := by
 unfold lex_Reserved
 by_cases hr : resP s = true
 · rw [hr]
   have hm : s ∈ wordsL := of_decide_eq_true hr
   simp only [wordsL, List.mem_cons, List.not_mem_nil, or_false] at hm
   rcases hm with rfl | rfl | rfl | rfl | rfl | rfl | rfl | rfl | rfl | rfl | rfl | rfl | rfl | rfl | rfl | rfl | rfl | rfl | rfl | rfl | rfl | rfl | rfl | rfl | rfl | rfl | rfl | rfl | rfl | rfl | rfl | rfl | rfl | rfl | rfl <;> decide +kernel
 · have hr' : resP s = false := by simpa using hr
   have hm : s ∉ wordsL := of_decide_eq_false hr'
   rw [hr']
   simp only [wordsL, List.mem_cons, List.not_mem_nil, or_false, not_or] at hm
   simp only [hm, if_false]
def nameP (s : List UInt8) : Bool := decide (s ≠ [] ∧ s.length ≤ 24) && !resP s && lt (s.getD 0 0) && s.all nm
theorem all_take (p : UInt8 → Bool) : ∀ l : List UInt8, (l.takeWhile p).length = l.length ↔ l.all p = true := by
 intro l
 induction l with
 | nil => simp
 | cons a l ih =>
  rw [List.takeWhile_cons]
  cases h : p a with
  | true => simp only [if_true, List.length_cons, List.all_cons, h, Bool.true_and, ← ih]; omega
  | false => simp [h]
theorem lname_eq (s : List UInt8) (hl : s.length < 1000000000000) : lex_Name s = some (nameP s) := by
 unfold lex_Name nameP
 by_cases h0 : s = []
 · subst h0; rw [if_pos rfl]; rfl
 · rw [if_neg h0]
   have hlen : 0 < s.length := List.length_pos_iff.2 h0
   by_cases h24 : 24 < s.length
   · rw [if_pos (by omega), decide_eq_false (fun q => by omega)]; simp
   · rw [if_neg (by omega), lres_eq, bind_some_eq, decide_eq_true ⟨h0, by omega⟩]
     cases hr : resP s with
     | true => simp
     | false =>
      rw [cond_false, if_pos (by omega), if_pos (by omega), kind_eq, bind_some_eq]
      have hdg : isDigit ((((s.getD (0 : Int).toNat 0)).toNat : Nat) : Int) = dg s[0] := by
       rw [show (0 : Int).toNat = 0 from rfl, getD_lt _ hlen]; rfl
      rw [hdg, getD_lt _ hlen]
      cases hd : dg s[0] with
      | true =>
       have : lt s[0] = false := by
        cases hL : lt s[0] with
        | false => rfl
        | true => rw [disj _ hL] at hd; cases hd
       rw [this]; simp
      | false =>
       rw [Bool.not_false, cond_true, show (0 : Int) = ((0 : Nat) : Int) from rfl, end_eq s 0 hl hlen, bind_some_eq, hd]
       congr 1
       rw [show (fun b => bif false then dg b else nm b) = nm from rfl]
       have ha := all_take nm s
       cases hall : s.all nm with
       | true =>
        have hL : lt s[0] = true := by
         have := List.all_eq_true.1 hall s[0] (List.getElem_mem hlen)
         simpa [nm, hd] using this
        rw [hL]
        have := ha.2 hall
        unfold runP
        rw [List.drop_zero, decide_eq_true (by omega)]
        rfl
       | false =>
        have : ¬ (s.takeWhile nm).length = s.length := fun q => by rw [ha.1 q] at hall; cases hall
        unfold runP
        rw [List.drop_zero, decide_eq_false (by omega)]
        simp
theorem not_blank {b : UInt8} (h : lt b = true ∨ dg b = true) : ¬ (b = 32 ∨ b = 9 ∨ b = 10 ∨ b = 13) ∧ b ≠ 35 := by
 refine ⟨?_, ?_⟩
 · rintro (rfl | rfl | rfl | rfl) <;> rcases h with h | h <;> exact absurd h (by decide)
 · rintro rfl; rcases h with h | h <;> exact absurd h (by decide)
theorem skip_none (t : List UInt8) (h : 0 < t.length) (hb : lt t[0] = true ∨ dg t[0] = true) : skipP false t 0 = 0 := by
 obtain ⟨h1, h2⟩ := not_blank hb
 cases t with
 | nil => simp at h
 | cons b t =>
  simp only [skipP]
  rw [if_neg (by simpa using h1), if_neg (by simpa using h2)]
theorem skip_end (t : List UInt8) : skipP false (t.drop t.length) t.length = t.length := by
 rw [List.drop_eq_nil_of_le (Nat.le_refl _)]; rfl
end Go.Sy.Ex
namespace Go.Sy.Ex
open Go.Sy
abbrev Tk := Int × List UInt8 × Int
def strip (t : api_Token) : Tk := (t.Kind, t.Text, t.N)
def isB (b : UInt8) : Bool := decide (b = 32 ∨ b = 9 ∨ b = 10 ∨ b = 13)
def skipB (u : List UInt8) : List UInt8 := u.dropWhile isB
def headP : List UInt8 → Option (Tk × Nat)
 | [] => none
 | b :: u => if dg b then
  (let r := numP ((b :: u).takeWhile dg)
   if r.2 ≠ 0 then none else some ((2, (b :: u).takeWhile dg, r.1), ((b :: u).takeWhile dg).length))
  else if lt b then (if 24 < ((b :: u).takeWhile nm).length then none else some ((1, (b :: u).takeWhile nm, 0), ((b :: u).takeWhile nm).length))
  else if signP (b :: u) = 0 then none
  else some ((3, (b :: u).take (signP (b :: u)), 0), signP (b :: u))
theorem headP_cons (b : UInt8) (u : List UInt8) : headP (b :: u) = if dg b then
      (let r := numP ((b :: u).takeWhile dg)
       if r.2 ≠ 0 then none else some ((2, (b :: u).takeWhile dg, r.1), ((b :: u).takeWhile dg).length))
 else if lt b then (if 24 < ((b :: u).takeWhile nm).length then none else some ((1, (b :: u).takeWhile nm, 0), ((b :: u).takeWhile nm).length))
 else if signP (b :: u) = 0 then none
 else some ((3, (b :: u).take (signP (b :: u)), 0), signP (b :: u)) := rfl
inductive PLex : Nat → List UInt8 → List api_Token → Prop
 | nil {n : Nat} {u : List UInt8} : skipB u = [] → PLex n u []
 | cons {n : Nat} {u v : List UInt8} {tk : Tk} {m : Nat} {L : List api_Token} : skipB u = v → v ≠ [] → headP v = some (tk, m) →
  PLex (n + (u.length - v.length) + m) (v.drop m) L → PLex n u (⟨tk.1, (n + (u.length - v.length) : Nat), (n + (u.length - v.length) + m : Nat), tk.2.1, tk.2.2⟩ :: L)
theorem headP_tok (t : List UInt8) (n : Nat) (h : n < t.length) : headP (t.drop n) = if (tokP t n).2 ≠ 0 then none else some (strip (tokP t n).1, ((tokP t n).1.End - n).toNat) := by
 have hd : t.drop n = t[n] :: t.drop (n + 1) := List.drop_eq_getElem_cons h
 unfold tokP
 rw [getD_lt _ h]
 conv => lhs; rw [hd]
 rw [headP_cons, ← hd]
 by_cases hD : dg t[n] = true
 · rw [if_pos hD, if_pos hD]
   simp only []
   by_cases hz : (numP ((t.drop n).takeWhile dg)).2 ≠ 0
   · simp only [hz, ne_eq, not_false_eq_true, if_true]
   · simp only [hz, if_false, strip, ne_eq, not_true_eq_false]
     congr 2
     unfold runP
     omega
 · rw [if_neg hD, if_neg hD]
   by_cases hL : lt t[n] = true
   · rw [if_pos hL, if_pos hL]
     unfold runP
     by_cases h24 : 24 < ((t.drop n).takeWhile nm).length
     · have : n + 24 < n + ((t.drop n).takeWhile nm).length := by omega
       simp only [h24, this, if_true, ne_eq]
       rw [if_pos (by decide)]
     · have : ¬ n + 24 < n + ((t.drop n).takeWhile nm).length := by omega
       simp only [h24, this, if_false, ne_eq, not_true_eq_false, strip]
       congr 2
       omega
   · rw [if_neg hL, if_neg hL]
     by_cases hs : signP (t.drop n) = 0
     · simp only [hs, if_true, ne_eq]
       rw [if_pos (by decide)]
     · simp only [hs, if_false, ne_eq, not_true_eq_false, strip]
       congr 2
       omega
theorem headP_len {v : List UInt8} {tk : Tk} {m : Nat} (h : headP v = some (tk, m)) : 1 ≤ m ∧ m ≤ v.length := by
 cases v with
 | nil => cases h
 | cons b u =>
  rw [headP_cons] at h
  by_cases hD : dg b = true
  · rw [if_pos hD] at h
    simp only [] at h
    split at h
    · cases h
    · cases h
      have := takeWhile_le dg (b :: u)
      rw [List.takeWhile_cons_of_pos hD] at this ⊢
      exact ⟨by simp, this⟩
  · rw [if_neg hD] at h
    by_cases hL : lt b = true
    · rw [if_pos hL] at h
      split at h
      · cases h
      · cases h
        have := takeWhile_le nm (b :: u)
        rw [List.takeWhile_cons_of_pos (by simp [nm, hL])] at this ⊢
        exact ⟨by simp, this⟩
    · rw [if_neg hL] at h
      split at h
      · cases h
      · rename_i hs
        cases h
        exact ⟨by omega, signP_le _⟩
theorem skipB_suffix (u : List UInt8) : ∃ p, u = p ++ skipB u ∧ p.all isB = true := by
 induction u with
 | nil => exact ⟨[], rfl, rfl⟩
 | cons b u ih =>
  unfold skipB
  by_cases hb : isB b = true
  · rw [List.dropWhile_cons_of_pos hb]
    obtain ⟨p, h1, h2⟩ := ih
    exact ⟨b :: p, by rw [List.cons_append]; congr 1, by simp [hb, h2]⟩
  · rw [List.dropWhile_cons_of_neg hb]
    exact ⟨[], rfl, rfl⟩
theorem skipP_B : ∀ (p u : List UInt8) (n : Nat), p.all isB = true → skipP false (p ++ u) n = skipP false u (n + p.length)
 | [], u, n, _ => rfl
 | b :: p, u, n, h => by
  simp only [List.all_cons, Bool.and_eq_true] at h
  have hb : b = 32 ∨ b = 9 ∨ b = 10 ∨ b = 13 := of_decide_eq_true h.1
  rw [List.cons_append]
  simp only [skipP]
  rw [if_pos hb, skipP_B p u (n + 1) h.2, List.length_cons, Nat.add_assoc, Nat.add_comm 1]
theorem skipP_no {b : UInt8} {u : List UInt8} {n : Nat} (h1 : isB b = false) (h2 : b ≠ 35) : skipP false (b :: u) n = n := by
 have hb : ¬ (b = 32 ∨ b = 9 ∨ b = 10 ∨ b = 13) := of_decide_eq_false h1
 simp only [skipP]
 rw [if_neg hb, if_neg h2]
theorem head_no35 {u : List UInt8} : headP (35 :: u) = none := by
 rw [headP_cons, if_neg (by decide), if_neg (by decide), if_pos]
 cases u with
 | nil => rfl
 | cons c u =>
  show (if [35, c] ∈ pairsP then 2 else if (35 : UInt8) ∈ s_x5d46a then 1 else 0) = 0
  rw [if_neg, if_neg (by decide)]
  simp only [pairsP, List.mem_cons, List.cons.injEq, and_true, List.not_mem_nil, or_false]
  rintro (⟨h, _⟩ | ⟨h, _⟩ | ⟨h, _⟩ | ⟨h, _⟩ | ⟨h, _⟩ | ⟨h, _⟩ | ⟨h, _⟩) <;> revert h <;> decide
theorem skipB_head {u : List UInt8} {b : UInt8} {v : List UInt8} (h : skipB u = b :: v) : isB b = false := by
 induction u with
 | nil => cases h
 | cons c u ih =>
  unfold skipB at h
  by_cases hc : isB c = true
  · rw [List.dropWhile_cons_of_pos hc] at h; exact ih h
  · rw [List.dropWhile_cons_of_neg hc] at h
    cases h
    simpa using hc
theorem plex_all {t : List UInt8} {n : Nat} {u : List UInt8} {L : List api_Token} (h : PLex n u L) : t.drop n = u → n ≤ t.length → ∀ k l, t.length ≤ n + k →
 allGo (k + 1) t l (skipP false (t.drop n) n) = (l ++ L ++ [api_Token.mk 4 t.length t.length [] 0], api_Fault.mk 0 0) := by
 induction h with
 | @nil n u hs =>
  intro hu hn k l hk
  obtain ⟨p, h1, h2⟩ := skipB_suffix u
  rw [hs, List.append_nil] at h1
  subst h1
  have hl : u.length = t.length - n := by rw [← hu, List.length_drop]
  have : skipP false (t.drop n) n = t.length := by
   rw [hu]
   have := skipP_B u [] n h2
   rw [List.append_nil] at this
   rw [this]
   show n + u.length = _
   omega
  rw [this]
  simp only [allGo]
  rw [if_neg (by omega), List.append_nil]
 | @cons n u v tk m L hs hv hh hp ih =>
  intro hu hn k l hk
  obtain ⟨p, h1, h2⟩ := skipB_suffix u
  rw [hs] at h1
  have hl : u.length = t.length - n := by rw [← hu, List.length_drop]
  have hlu : u.length = p.length + v.length := by rw [h1, List.length_append]
  obtain ⟨b, v', rfl⟩ : ∃ b v', v = b :: v' := by
   cases v with
   | nil => exact absurd rfl hv
   | cons b v' => exact ⟨b, v', rfl⟩
  have hb := skipB_head hs
  have hne : b ≠ 35 := fun e => by subst e; rw [head_no35] at hh; cases hh
  have hq : u.length - (b :: v').length = p.length := by omega
  simp only [hq] at ih ⊢
  have hpos : skipP false (t.drop n) n = n + p.length := by
   rw [hu, h1, skipP_B p _ n h2, skipP_no hb hne]
  have hlt : n + p.length < t.length := by simp only [List.length_cons] at hlu; omega
  have hdrop : t.drop (n + p.length) = b :: v' := by
   rw [← List.drop_drop, hu, h1]
   simp
  have htok := headP_tok t (n + p.length) hlt
  rw [hdrop, hh] at htok
  have hz : (tokP t (n + p.length)).2 = 0 := by
   by_cases hz : (tokP t (n + p.length)).2 = 0
   · exact hz
   · rw [if_pos hz] at htok; cases htok
  rw [if_neg (by simp [hz])] at htok
  obtain ⟨e, he, h3, h4, hat, htx, _⟩ := tok_end t (n + p.length) hlt hz
  simp only [Option.some.injEq, Prod.mk.injEq] at htok
  obtain ⟨htk, hm⟩ := htok
  rw [he] at hm
  have hme : e = n + p.length + m := by omega
  have htoken : (tokP t (n + p.length)).1 = ⟨tk.1, (n + p.length : Nat), (n + p.length + m : Nat), tk.2.1, tk.2.2⟩ := by
   rw [htk]
   unfold strip
   generalize tokP t (n + p.length) = x at *
   obtain ⟨⟨a1, a2, a3, a4, a5⟩, a6⟩ := x
   dsimp only at *
   rw [hat, he, hme]
  obtain ⟨k, rfl⟩ : ∃ j, k = j + 1 := ⟨k - 1, by omega⟩
  rw [hpos]
  conv => lhs; unfold allGo
  rw [if_pos hlt, if_neg (by simp [hz]), htoken]
  dsimp only
  rw [Int.toNat_natCast]
  have := ih (by rw [← hdrop, List.drop_drop]) (by omega) k (l ++ [⟨tk.1, (n + p.length : Nat), (n + p.length + m : Nat), tk.2.1, tk.2.2⟩]) (by omega)
  rw [this]
  simp [List.append_assoc]
theorem plex_allP {t : List UInt8} {L : List api_Token} (h : PLex 0 t L) (hl : t.length ≤ 16384) : allP t = (L ++ [api_Token.mk 4 t.length t.length [] 0], api_Fault.mk 0 0) := by
 unfold allP
 rw [if_neg (by omega)]
 have := plex_all (t := t) h rfl (Nat.zero_le _) t.length [] (by omega)
 rw [List.drop_zero, List.nil_append] at this
 exact this
def sepB (a b : List UInt8) : Bool := match a.getLast?, b.head? with
 | some x, some y => !(nm x && nm y) && !decide ([x, y] ∈ pairsP)
 | _, _ => true
theorem take_stop {p : UInt8 → Bool} : ∀ (v b : List UInt8), (v.takeWhile p).length < v.length ∨ (∀ y, b.head? = some y → p y = false) → (v ++ b).takeWhile p = v.takeWhile p
 | [], b, h => by
  rcases h with h | h
  · simp at h
  · cases b with
    | nil => rfl
    | cons y b => rw [List.nil_append, List.takeWhile_cons_of_neg (by simp [h y rfl])]; rfl
 | x :: v, b, h => by
  rw [List.cons_append]
  by_cases hx : p x = true
  · rw [List.takeWhile_cons_of_pos hx, List.takeWhile_cons_of_pos hx] at *
    rw [take_stop v b (h.imp (fun h => by simpa using h) id)]
  · rw [List.takeWhile_cons_of_neg hx, List.takeWhile_cons_of_neg hx]
theorem tw_last {p : UInt8 → Bool} {v : List UInt8} (h : ¬ (v.takeWhile p).length < v.length) : ∀ x, v.getLast? = some x → p x = true := by
 have : v.takeWhile p = v := by
  have hle := takeWhile_le p v
  have hpre : v.takeWhile p <+: v := List.takeWhile_prefix p
  exact hpre.eq_of_length (by omega)
 intro x hx
 have hm : x ∈ v := List.mem_of_getLast? hx
 rw [← this] at hm
 exact tw_all p v x hm
theorem headP_append {v b : List UInt8} {tk : Tk} {m : Nat} (h : headP v = some (tk, m)) (hs : m < v.length ∨ sepB v b = true) : headP (v ++ b) = some (tk, m) := by
 cases v with
 | nil => cases h
 | cons c u =>
  have hno : ∀ (p : UInt8 → Bool), (∀ x, p x = true → nm x = true) → p c = true → (m = ((c :: u).takeWhile p).length) → ((c :: u) ++ b).takeWhile p = (c :: u).takeWhile p := by
   intro p hp hc hm
   refine take_stop _ _ ?_
   by_cases hlt : ((c :: u).takeWhile p).length < (c :: u).length
   · exact .inl hlt
   · refine .inr fun y hy => ?_
     rcases hs with hs | hs
     · omega
     · obtain ⟨x, hx⟩ : ∃ x, (c :: u).getLast? = some x := ⟨_, List.getLast?_eq_some_getLast (by simp)⟩
       have hpx := hp x (tw_last hlt x hx)
       unfold sepB at hs
       rw [hx, hy] at hs
       dsimp only at hs
       rw [Bool.and_eq_true, hpx] at hs
       cases hq : p y with
       | false => rfl
       | true => rw [hp y hq] at hs; cases hs.1
  rw [List.cons_append]
  rw [headP_cons] at h ⊢
  by_cases hD : dg c = true
  · rw [if_pos hD] at h ⊢
    simp only [] at h ⊢
    have hm : m = ((c :: u).takeWhile dg).length := by
     split at h
     · cases h
     · cases h; rfl
    have := hno dg (fun x hx => by simp [nm, hx]) hD hm
    rw [List.cons_append] at this
    rw [this]
    exact h
  · rw [if_neg hD] at h ⊢
    by_cases hL : lt c = true
    · rw [if_pos hL] at h ⊢
      have hm : m = ((c :: u).takeWhile nm).length := by
       split at h
       · cases h
       · cases h; rfl
      have := hno nm (fun x hx => hx) (by simp [nm, hL]) hm
      rw [List.cons_append] at this
      rw [this]
      exact h
    · rw [if_neg hL] at h ⊢
      have hm : m = signP (c :: u) ∧ signP (c :: u) ≠ 0 := by
       split at h
       · cases h
       · rename_i hz; cases h; exact ⟨rfl, hz⟩
      have hsame : signP (c :: (u ++ b)) = signP (c :: u) := by
       cases u with
       | cons d u => rfl
       | nil =>
        cases b with
        | nil => rfl
        | cons y b =>
         show (if [c, y] ∈ pairsP then 2 else if c ∈ s_x5d46a then 1 else 0) = if c ∈ s_x5d46a then 1 else 0
         rw [if_neg]
         rcases hs with hs | hs
         · have : signP [c] ≤ 1 := signP_le [c]
           have h1 : m = signP [c] := hm.1
           have h2 : signP [c] ≠ 0 := hm.2
           simp only [List.length_cons, List.length_nil] at hs
           omega
         · unfold sepB at hs
           simp only [List.getLast?_singleton, List.head?_cons, Bool.and_eq_true, Bool.not_eq_true', decide_eq_false_iff_not] at hs
           exact hs.2
      have htake : (c :: (u ++ b)).take (signP (c :: u)) = (c :: u).take (signP (c :: u)) := by
       rw [← List.cons_append, List.take_append_of_le_length (signP_le _)]
      rw [hsame, htake]
      exact h
theorem sepB_suffix {p v b : List UInt8} (hv : v ≠ []) : sepB (p ++ v) b = sepB v b := by
 unfold sepB
 rw [List.getLast?_append]
 obtain ⟨x, hx⟩ : ∃ x, v.getLast? = some x := ⟨_, List.getLast?_eq_some_getLast hv⟩
 rw [hx]; rfl
theorem skipB_append {u b : List UInt8} (h : skipB u ≠ []) : skipB (u ++ b) = skipB u ++ b := by
 unfold skipB at *
 induction u with
 | nil => exact absurd rfl h
 | cons c u ih =>
  rw [List.cons_append]
  by_cases hc : isB c = true
  · rw [List.dropWhile_cons_of_pos hc] at h ⊢
    rw [List.dropWhile_cons_of_pos hc]
    exact ih h
  · rw [List.dropWhile_cons_of_neg hc, List.dropWhile_cons_of_neg hc]; rfl
theorem skipB_blank {u b : List UInt8} (h : skipB u = []) : skipB (u ++ b) = skipB b := by
 unfold skipB at *
 induction u with
 | nil => rfl
 | cons c u ih =>
  rw [List.cons_append]
  by_cases hc : isB c = true
  · rw [List.dropWhile_cons_of_pos hc] at h ⊢
    exact ih h
  · rw [List.dropWhile_cons_of_neg hc] at h; cases h
theorem PLex.shift {n n' : Nat} {a p : List UInt8} {L : List api_Token} (hp : skipB p = []) (h : PLex (n + p.length) a L) : PLex n (p ++ a) L := by
 generalize hn : n + p.length = q at h
 cases h with
 | nil hs => exact .nil (by rw [skipB_blank hp]; exact hs)
 | @cons _ _ v tk m L hs hv hh hl =>
  obtain ⟨p', h1, _⟩ := skipB_suffix a
  rw [hs] at h1
  have hlen : a.length = p'.length + v.length := by rw [h1, List.length_append]
  have e : n + ((p ++ a).length - v.length) = q + (a.length - v.length) := by rw [List.length_append]; omega
  have := PLex.cons (n := n) (u := p ++ a) (by rw [skipB_blank hp]; exact hs) hv hh (by rw [e]; exact hl)
  rw [e] at this
  exact this
theorem PLex.append {n : Nat} {a : List UInt8} {La : List api_Token} (ha : PLex n a La) : ∀ {b : List UInt8} {Lb : List api_Token}, PLex (n + a.length) b Lb → sepB a b = true → PLex n (a ++ b) (La ++ Lb) := by
 induction ha with
 | @nil n u hs => intro b Lb hb _; exact PLex.shift (n' := 0) hs hb
 | @cons n u v tk m L hs hv hh hp ih =>
  intro b Lb hb hsep
  obtain ⟨p, h1, _⟩ := skipB_suffix u
  rw [hs] at h1
  have hml := headP_len hh
  have hlen : u.length = p.length + v.length := by rw [h1, List.length_append]
  have hsep' : sepB v b = true := by rw [h1, sepB_suffix hv] at hsep; exact hsep
  have hh' := headP_append hh (b := b) (.inr hsep')
  have hlab : (u ++ b).length - (v ++ b).length = u.length - v.length := by simp only [List.length_append]; omega
  have hrest : PLex (n + (u.length - v.length) + m) (v.drop m ++ b) (L ++ Lb) := by
   refine ih ?_ ?_
   · rw [List.length_drop, show n + (u.length - v.length) + m + (v.length - m) = n + u.length from by omega]
     exact hb
   · by_cases hd : v.drop m = []
     · rw [hd]; rfl
     · have : v = v.take m ++ v.drop m := (List.take_append_drop m v).symm
       rw [this, sepB_suffix hd] at hsep'
       exact hsep'
  have := PLex.cons (n := n) (u := u ++ b) (v := v ++ b) (by rw [← hs]; exact skipB_append (by rw [hs]; exact hv)) (by simp [hv]) hh' (L := L ++ Lb) (by
   rw [hlab, List.drop_append_of_le_length hml.2]
   exact hrest)
  rw [hlab] at this
  exact this
def Lx (s : List UInt8) (K : List Tk) : Prop := ∀ n, ∃ L, PLex n s L ∧ L.map strip = K
theorem Lx.append {a b : List UInt8} {Ka Kb : List Tk} (ha : Lx a Ka) (hb : Lx b Kb) (hs : sepB a b = true) : Lx (a ++ b) (Ka ++ Kb) := fun n => by
 obtain ⟨La, h1, h2⟩ := ha n
 obtain ⟨Lb, h3, h4⟩ := hb (n + a.length)
 exact ⟨La ++ Lb, h1.append h3 hs, by rw [List.map_append, h2, h4]⟩
theorem Lx.all {t : List UInt8} {K : List Tk} (h : Lx t K) (hl : t.length ≤ 16384) : ∃ l, allP t = (l, api_Fault.mk 0 0) ∧ l.map strip = K ++ [(4, [], 0)] := by
 obtain ⟨L, h1, h2⟩ := h 0
 exact ⟨_, plex_allP h1 hl, by rw [List.map_append, h2]; rfl⟩
def lexF : Nat → List UInt8 → Option (List Tk)
 | 0, _ => none
 | k + 1, u => match skipB u with
  | [] => some []
  | b :: v => match headP (b :: v) with
   | some (tk, m) => match lexF k ((b :: v).drop m) with
    | some K => some (tk :: K)
    | none => none
   | none => none
theorem lexF_ok : ∀ (k : Nat) {u : List UInt8} {K : List Tk}, lexF k u = some K → Lx u K
 | 0, _, _, h => by cases h
 | k + 1, u, K, h => fun n => by
  simp only [lexF] at h
  cases hs : skipB u with
  | nil => rw [hs] at h; cases h; exact ⟨[], .nil hs, rfl⟩
  | cons b v =>
   rw [hs] at h
   dsimp only at h
   cases hh : headP (b :: v) with
   | none => rw [hh] at h; cases h
   | some p =>
    obtain ⟨tk, m⟩ := p
    rw [hh] at h
    dsimp only at h
    cases hr : lexF k ((b :: v).drop m) with
    | none => rw [hr] at h; cases h
    | some K' =>
     rw [hr] at h
     cases h
     obtain ⟨L, h1, h2⟩ := lexF_ok k hr (n + (u.length - (b :: v).length) + m)
     exact ⟨_, .cons hs (by simp) hh h1, by rw [List.map_cons, h2]; rfl⟩
end Go.Sy.Ex
namespace Go.Sy.Ex
open Go.Sy
theorem digit_of (d : Nat) (h : d < 10) : (UInt8.ofNat (48 + d)).toNat = 48 + d := by
 have : ∀ d, d < 10 → (UInt8.ofNat (48 + d)).toNat = 48 + d := by decide +kernel
 exact this d h
theorem dec_small {u : Nat} (h : u < 10) : Lib.decDigits u = [UInt8.ofNat (48 + u)] := by rw [Lib.decDigits, dif_pos h]
theorem dec_big {u : Nat} (h : ¬ u < 10) : Lib.decDigits u = Lib.decDigits (u / 10) ++ [UInt8.ofNat (48 + u % 10)] := by rw [Lib.decDigits, dif_neg h]
theorem dec_digits : ∀ (n u : Nat), u ≤ n → ∀ c ∈ Lib.decDigits u, 48 ≤ c.toNat ∧ c.toNat ≤ 57 := by
 intro n
 induction n with
 | zero =>
  intro u h c hc
  have : u = 0 := by omega
  subst this
  rw [dec_small (by decide), List.mem_singleton] at hc
  subst hc; decide
 | succ n ih =>
  intro u h c hc
  by_cases hs : u < 10
  · rw [dec_small hs, List.mem_singleton] at hc
    subst hc; rw [digit_of u hs]; omega
  · rw [dec_big hs, List.mem_append, List.mem_singleton] at hc
    rcases hc with hc | rfl
    · exact ih (u / 10) (by omega) c hc
    · rw [digit_of _ (by omega)]; omega
theorem dec_ne : ∀ u, Lib.decDigits u ≠ [] := fun u => by
 by_cases hs : u < 10
 · rw [dec_small hs]; simp
 · rw [dec_big hs]; simp
theorem dec_len : ∀ (k u : Nat), u < 10 ^ (k + 1) → (Lib.decDigits u).length ≤ k + 1 := by
 intro k
 induction k with
 | zero => intro u h; rw [dec_small (by omega)]; simp
 | succ k ih =>
  intro u h
  by_cases hs : u < 10
  · rw [dec_small hs]; simp
  · rw [dec_big hs, List.length_append, List.length_singleton]
    have := ih (u / 10) (by rw [Nat.pow_succ] at h; omega)
    omega
theorem parseM_ok (M : Nat) (hM : M ≤ 18446744073709551615) : ∀ (l : List UInt8) (acc u : Nat), Lib.parseUintM (2 ^ 64 - 1) acc l = .ok u → (∀ c ∈ l, 48 ≤ c.toNat ∧ c.toNat ≤ 57) := by
 intro l
 induction l with
 | nil => intro acc u _ c hc; cases hc
 | cons b l ih =>
  intro acc u h c hc
  unfold Lib.parseUintM at h
  split at h
  · rename_i hb
    split at h
    · cases h
    · split at h
      · cases h
      · rcases List.mem_cons.1 hc with rfl | hc
        · exact hb
        · exact ih _ _ h c hc
  · cases h
theorem parseM_append : ∀ (l : List UInt8) (acc a : Nat) (c : UInt8), Lib.parseUintM (2 ^ 64 - 1) acc l = .ok a → Lib.parseUintM (2 ^ 64 - 1) acc (l ++ [c]) = Lib.parseUintM (2 ^ 64 - 1) a [c] := by
 intro l
 induction l with
 | nil => intro acc a c h; cases h; rfl
 | cons b l ih =>
  intro acc a c h
  rw [List.cons_append]
  unfold Lib.parseUintM at h ⊢
  split at h
  · rename_i hb
    rw [if_pos hb]
    split at h
    · cases h
    · rename_i h1
      rw [if_neg h1]
      split at h
      · cases h
      · rename_i h2
        rw [if_neg h2]
        have := ih _ _ c h
        rw [this]
        rfl
  · cases h
theorem parseM_dec : ∀ (n u : Nat), u ≤ n → u ≤ 9223372036854775808 → Lib.parseUintM (2 ^ 64 - 1) 0 (Lib.decDigits u) = .ok u := by
 intro n
 induction n with
 | zero =>
  intro u h hu
  have : u = 0 := by omega
  subst this
  rw [dec_small (by decide)]
  rfl
 | succ n ih =>
  intro u h hu
  by_cases hs : u < 10
  · rw [dec_small hs]
    unfold Lib.parseUintM
    rw [digit_of u hs, if_pos (by omega), if_neg (by omega), if_neg (by omega)]
    unfold Lib.parseUintM
    congr 1; omega
  · rw [dec_big hs, parseM_append _ _ _ _ (ih (u / 10) (by omega) (by omega))]
    unfold Lib.parseUintM
    rw [digit_of _ (by omega), if_pos (by omega), if_neg (by omega), if_neg (by omega)]
    unfold Lib.parseUintM
    congr 1; omega
theorem parse_itoa (v : Int) (h0 : -9223372036854775808 ≤ v) (h1 : v ≤ 9223372036854775807) : Lib.parseIntB 64 (Lib.itoa v) = .ok v := by
 unfold Lib.itoa
 by_cases hv : v < 0
 · rw [if_pos hv]
   have hu : v.natAbs ≤ 9223372036854775808 := by omega
   unfold Lib.parseIntB Lib.parseUintB
   simp only []
   have hif : (if (45 : UInt8).toNat = 43 ∨ (45 : UInt8).toNat = 45 then Lib.decDigits v.natAbs else 45 :: Lib.decDigits v.natAbs) = Lib.decDigits v.natAbs := if_pos (.inr rfl)
   rw [hif, if_neg (dec_ne _), parseM_dec _ _ (Nat.le_refl _) hu]
   have h45 : (45 : UInt8).toNat = 45 := rfl
   simp only [h45, not_true_eq_false, false_and, if_false, true_and, if_true]
   rw [if_neg (by omega)]
   congr 1; omega
 · rw [if_neg hv]
   have hu : v.toNat ≤ 9223372036854775807 := by omega
   have hne := dec_ne v.toNat
   obtain ⟨c, r, hcr⟩ : ∃ c r, Lib.decDigits v.toNat = c :: r := by
    cases hd : Lib.decDigits v.toNat with
    | nil => exact absurd hd hne
    | cons c r => exact ⟨c, r, rfl⟩
   have hc := dec_digits _ _ (Nat.le_refl v.toNat) c (by rw [hcr]; simp)
   have hp := parseM_dec _ _ (Nat.le_refl v.toNat) (by omega)
   rw [hcr] at hp ⊢
   unfold Lib.parseIntB Lib.parseUintB
   simp only []
   rw [if_neg (show ¬ (c.toNat = 43 ∨ c.toNat = 45) by omega), if_neg (by simp), hp]
   simp only [show ¬ c.toNat = 45 by omega, not_false_eq_true, true_and, false_and, if_false]
   rw [if_neg (by omega)]
   congr 1; omega
theorem itoa_inj {v u : Int} (hv : -9223372036854775808 ≤ v ∧ v ≤ 9223372036854775807) (hu : -9223372036854775808 ≤ u ∧ u ≤ 9223372036854775807) (h : Lib.itoa v = Lib.itoa u) : v = u := by
 have h1 := parse_itoa v hv.1 hv.2
 have h2 := parse_itoa u hu.1 hu.2
 rw [h, h2] at h1
 cases h1
 rfl
theorem digit_cut : ∀ d, d < 10 → cut s_0123456789 ((d : Nat) : Int) ((d + 1 : Nat) : Int) = [UInt8.ofNat (48 + d)] := by decide +kernel
theorem Dec_run : ∀ j (n : Int), -(10 ^ j : Nat) < n → n < (10 ^ j : Nat) → -9223372036854775808 ≤ n → n ≤ 9223372036854775807 → 1 ≤ j → j ≤ 30 → ∀ k, j ≤ k → ref7_Dec_f k n = some (Lib.itoa n) ∧ (Lib.itoa n).length ≤ j + 1 := by
 intro j
 induction j with
 | zero => intro n _ _ _ _ h; omega
 | succ j ih =>
  intro n h1 h2 h3 h4 _ hj k hk
  obtain ⟨k, rfl⟩ : ∃ j, k = j + 1 := ⟨k - 1, by omega⟩
  have c10 : ∀ d : Nat, d < 10 → w64 (((d : Nat) : Int) + 1) = ((d + 1 : Nat) : Int) := fun d hd => by rw [w64_in (by omega) (by omega)]; omega
  have hlen10 : s_0123456789.length = 10 := rfl
  have hpow : 10 ^ (j + 1) = 10 ^ j * 10 := Nat.pow_succ ..
  simp only [ref7_Dec_f, ref7_Dec_b]
  by_cases hneg : n < 0
  · obtain ⟨u, rfl⟩ : ∃ u : Nat, n = -(u : Int) := ⟨n.natAbs, by omega⟩
    have hu1 : 1 ≤ u := by omega
    rw [Lib.itoa_neg u hu1]
    by_cases hb : u < 10
    · rw [if_neg (by omega), if_pos hneg]
      have e1 : w64 (0 - (-(u : Int))) = (u : Int) := by rw [w64_in (by omega) (by omega)]; omega
      rw [e1, c10 u hb, if_pos (by omega), if_pos (by rw [hlen10]; omega), if_pos (by omega), if_pos (by omega), digit_cut u hb, if_pos (by simp), dec_small hb]
      exact ⟨rfl, by simp⟩
    · have e1 : Int.tdiv (-(u : Int)) 10 = -((u / 10 : Nat) : Int) := by rw [Int.neg_tdiv, Int.tdiv_eq_ediv_of_nonneg (by omega)]; omega
      have e2 : Int.tmod (-(u : Int)) 10 = -((u % 10 : Nat) : Int) := by rw [Int.neg_tmod, Int.tmod_eq_emod_of_nonneg (by omega)]; omega
      have e3 : w64 (-((u / 10 : Nat) : Int)) = -((u / 10 : Nat) : Int) := w64_in (by omega) (by omega)
      have e4 : w64 (0 - (-((u % 10 : Nat) : Int))) = ((u % 10 : Nat) : Int) := by rw [w64_in (by omega) (by omega)]; omega
      have hj1 : 1 ≤ j := by
       rcases Nat.eq_zero_or_pos j with rfl | q
       · simp at h1 h2; omega
       · exact q
      obtain ⟨i1, i2⟩ := ih (-((u / 10 : Nat) : Int)) (by omega) (by omega) (by omega) (by omega) hj1 (by omega) k (by omega)
      rw [Lib.itoa_neg (u / 10) (by omega)] at i1 i2
      rw [if_pos (by omega), if_pos (by decide), if_pos (by decide), e1, e3, i1, bind_some_eq, e2, e4, c10 (u % 10) (by omega), if_pos (by omega), if_pos (by rw [hlen10]; omega), if_pos (by omega), if_pos (by omega), digit_cut (u % 10) (by omega)]
      rw [if_pos (by simp only [List.length_singleton]; omega), dec_big hb]
      refine ⟨rfl, ?_⟩
      simp only [List.length_cons, List.length_append, List.length_nil] at i2 ⊢
      omega
  · obtain ⟨u, rfl⟩ : ∃ u : Nat, n = (u : Int) := ⟨n.toNat, by omega⟩
    rw [Lib.itoa_nonneg u]
    rw [if_neg (by omega), if_neg hneg]
    by_cases hb : u < 10
    · rw [if_pos (by omega), c10 u hb, if_pos (by omega), if_pos (by rw [hlen10]; omega), if_pos (by omega), if_pos (by omega), digit_cut u hb, dec_small hb]
      exact ⟨rfl, by simp⟩
    · have e1 : Int.tdiv ((u : Nat) : Int) 10 = ((u / 10 : Nat) : Int) := by rw [Int.tdiv_eq_ediv_of_nonneg (by omega)]; omega
      have e2 : Int.tmod ((u : Nat) : Int) 10 = ((u % 10 : Nat) : Int) := by rw [Int.tmod_eq_emod_of_nonneg (by omega)]; omega
      have e3 : w64 ((u / 10 : Nat) : Int) = ((u / 10 : Nat) : Int) := w64_in (by omega) (by omega)
      have hj1 : 1 ≤ j := by
       rcases Nat.eq_zero_or_pos j with rfl | q
       · simp at h1 h2; omega
       · exact q
      obtain ⟨i1, i2⟩ := ih ((u / 10 : Nat) : Int) (by omega) (by omega) (by omega) (by omega) hj1 (by omega) k (by omega)
      rw [Lib.itoa_nonneg (u / 10)] at i1 i2
      rw [if_neg (by omega), if_pos (by decide), e1, e3, i1, bind_some_eq, e2, if_pos (by decide), if_pos (by decide), c10 (u % 10) (by omega), if_pos (by omega), if_pos (by rw [hlen10]; omega), if_pos (by omega), if_pos (by omega), digit_cut (u % 10) (by omega)]
      rw [if_pos (by simp only [List.length_singleton]; omega), dec_big hb]
      refine ⟨rfl, ?_⟩
      simp only [List.length_append, List.length_cons, List.length_nil] at i2 ⊢
      omega
theorem Dec_eq (n : Int) (h0 : -9223372036854775808 ≤ n) (h1 : n ≤ 9223372036854775807) : ref7_Dec n = some (Lib.itoa n) :=
 lim_eq 19 fun k hk => (Dec_run 19 n (by omega) (by omega) h0 h1 (by decide) (by decide) k hk).1
theorem dec_head : ∀ (n u : Nat), u ≤ n → 1 ≤ u → (Lib.decDigits u).getD 0 0 ≠ 48
 | 0, u, h, h1 => by omega
 | n + 1, u, h, h1 => by
  by_cases h10 : u < 10
  · rw [dec_small h10]
    show UInt8.ofNat (48 + u) ≠ 48
    intro e
    have := digit_of u h10
    rw [e] at this
    have h48 : (48 : UInt8).toNat = 48 := rfl
    omega
  · rw [dec_big h10]
    have := dec_head n (u / 10) (by omega) (by omega)
    have hne := dec_ne (u / 10)
    cases hd : Lib.decDigits (u / 10) with
    | nil => exact absurd hd hne
    | cons c l => rw [hd] at this; exact this
theorem itoa_pos {n : Int} (h : 0 ≤ n) : Lib.itoa n = Lib.decDigits n.toNat := by unfold Lib.itoa; rw [if_neg (by omega)]
theorem itoa_dg {n : Int} (h : 0 ≤ n) : ∀ c ∈ Lib.itoa n, dg c = true := fun c hc => by
 rw [itoa_pos h] at hc
 exact (dg_iff c).2 (dec_digits n.toNat n.toNat (Nat.le_refl _) c hc)
theorem itoa_ne {n : Int} (h : 0 ≤ n) : Lib.itoa n ≠ [] := by rw [itoa_pos h]; exact dec_ne _
theorem itoa_num {n : Int} (h : 0 ≤ n) (h1 : n ≤ 9223372036854775807) : numP (Lib.itoa n) = (n, 0) := by
 rw [← num_eq _ (itoa_ne h) (itoa_dg h)]
 unfold numOf
 rw [if_neg, parse_itoa n (by omega) h1]
 rintro ⟨h2, h3⟩
 rw [itoa_pos h] at h2 h3
 by_cases h0 : n.toNat < 10
 · rw [dec_small h0] at h2; simp at h2
 · exact dec_head n.toNat n.toNat (Nat.le_refl _) (by omega) h3
theorem tw_self (p : UInt8 → Bool) (l : List UInt8) (h : ∀ c ∈ l, p c = true) : l.takeWhile p = l := by
 induction l with
 | nil => rfl
 | cons a l ih => rw [List.takeWhile_cons_of_pos (h a (by simp)), ih fun c hc => h c (by simp [hc])]
theorem nb_of {b : UInt8} (h : nm b = true) : isB b = false := by
 have := (not_blank (b := b) (by simpa [nm] using h)).1
 exact decide_eq_false this
theorem skipB_nm {s : List UInt8} (h : ∀ c ∈ s, nm c = true) : skipB s = s := by
 cases s with
 | nil => rfl
 | cons a l => unfold skipB; rw [List.dropWhile_cons_of_neg (by simp [nb_of (h a (by simp))])]
theorem Lx.one {s : List UInt8} {tk : Tk} (h0 : s ≠ []) (hs : skipB s = s) (hh : headP s = some (tk, s.length)) : Lx s [tk] := fun n => by
 have := PLex.cons (n := n) (L := []) hs h0 hh (by rw [List.drop_length]; exact .nil rfl)
 exact ⟨_, this, rfl⟩
theorem Lx.num {n : Int} (h : 0 ≤ n) (h1 : n ≤ 9223372036854775807) : Lx (Lib.itoa n) [(2, Lib.itoa n, n)] := by
 refine Lx.one (itoa_ne h) (skipB_nm fun c hc => by simp [nm, itoa_dg h c hc]) ?_
 have htw := tw_self dg _ (itoa_dg h)
 have hn := itoa_num h h1
 cases hi : Lib.itoa n with
 | nil => exact absurd hi (itoa_ne h)
 | cons a l =>
  rw [hi] at htw hn
  rw [headP_cons, if_pos (itoa_dg h a (by rw [hi]; simp)), htw, hn]
  rfl
theorem name_split {s : List UInt8} (h : nameP s = true) : s ≠ [] ∧ s.length ≤ 24 ∧ resP s = false ∧ lt (s.getD 0 0) = true ∧ ∀ c ∈ s, nm c = true := by
 unfold nameP at h
 simp only [Bool.and_eq_true, decide_eq_true_eq, Bool.not_eq_true', List.all_eq_true] at h
 obtain ⟨⟨⟨⟨h1, h2⟩, h3⟩, h4⟩, h5⟩ := h
 exact ⟨h1, h2, h3, h4, h5⟩
theorem Lx.word {s : List UInt8} (h0 : s ≠ []) (h1 : s.length ≤ 24) (h2 : lt (s.getD 0 0) = true) (h3 : ∀ c ∈ s, nm c = true) : Lx s [(1, s, 0)] := by
 refine Lx.one h0 (skipB_nm h3) ?_
 have htw := tw_self nm _ h3
 cases hs : s with
 | nil => exact absurd hs h0
 | cons a l =>
  rw [hs] at htw h2 h1
  have h2 : lt a = true := h2
  rw [headP_cons, if_neg (by rw [disj _ h2]; simp), if_pos h2, htw, if_neg (by omega)]
theorem Lx.name {s : List UInt8} (h : nameP s = true) : Lx s [(1, s, 0)] := by
 obtain ⟨h1, h2, _, h4, h5⟩ := name_split h
 exact Lx.word h1 h2 h4 h5
end Go.Sy.Ex
namespace Go.Sy.Ex
open Go.Sy
inductive T where
 | num (n : Int) | var (s : List UInt8) | arg | isin (s : List UInt8) | un (k : Int) (t : T) | bin (k : Int) (a b : T)
def T.kind : T → Int
 | .num _ => 1 | .var _ => 2 | .arg => 3 | .isin _ => 4 | .un k _ => k | .bin k _ _ => k
def lvl (k : Int) : Int := if k = 19 then 1 else if k = 18 then 2 else if 12 ≤ k ∧ k ≤ 17 then 3 else if k = 10 ∨ k = 11 then 4 else if 7 ≤ k ∧ k ≤ 9 then 5 else if k = 5 ∨ k = 6 then 6 else 7
def lft (k : Int) : Int := if lvl k = 3 then 4 else lvl k
def rgt (k : Int) : Int := if lvl k = 3 then 4 else lvl k + 1
abbrev signsL : List (List UInt8 × Int × Int) := [(s_bar_bar, 19, 1), (s_amp_amp, 18, 2), (s_lt, 12, 3), (s_lt_eq, 13, 3), (s_gt, 14, 3), (s_gt_eq, 15, 3), (s_eq_eq, 16, 3), (s_bang_eq, 17, 3), (s_plus, 10, 4), (s_minus, 11, 4), (s_star, 7, 5), (s_slash, 8, 5), (s_pct, 9, 5)]
def txt (k : Int) : List UInt8 := match signsL.find? (fun p => p.2.1 == k) with
 | some p => p.1
 | none => []
def btw (k : Int) : List UInt8 × Int := match signsL.find? (fun p => p.2.1 == k) with
 | some p => (p.1, p.2.2)
 | none => ([], 0)
def sgn (s : List UInt8) : Int × Int := match signsL.find? (fun p => p.1 == s) with
 | some p => p.2
 | none => (0, 0)
theorem sign_eq (s : List UInt8) : expr_sign s = some (sgn s) := by
 unfold expr_sign sgn signsL
 by_cases h_s_bar_bar : s = s_bar_bar
 · subst h_s_bar_bar; decide +kernel
 rw [if_neg h_s_bar_bar, List.find?_cons, show (s_bar_bar == s) = false from beq_false_of_ne (Ne.symm h_s_bar_bar)]
 dsimp only
 by_cases h_s_amp_amp : s = s_amp_amp
 · subst h_s_amp_amp; decide +kernel
 rw [if_neg h_s_amp_amp, List.find?_cons, show (s_amp_amp == s) = false from beq_false_of_ne (Ne.symm h_s_amp_amp)]
 dsimp only
 by_cases h_s_lt : s = s_lt
 · subst h_s_lt; decide +kernel
 rw [if_neg h_s_lt, List.find?_cons, show (s_lt == s) = false from beq_false_of_ne (Ne.symm h_s_lt)]
 dsimp only
 by_cases h_s_lt_eq : s = s_lt_eq
 · subst h_s_lt_eq; decide +kernel
 rw [if_neg h_s_lt_eq, List.find?_cons, show (s_lt_eq == s) = false from beq_false_of_ne (Ne.symm h_s_lt_eq)]
 dsimp only
 by_cases h_s_gt : s = s_gt
 · subst h_s_gt; decide +kernel
 rw [if_neg h_s_gt, List.find?_cons, show (s_gt == s) = false from beq_false_of_ne (Ne.symm h_s_gt)]
 dsimp only
 by_cases h_s_gt_eq : s = s_gt_eq
 · subst h_s_gt_eq; decide +kernel
 rw [if_neg h_s_gt_eq, List.find?_cons, show (s_gt_eq == s) = false from beq_false_of_ne (Ne.symm h_s_gt_eq)]
 dsimp only
 by_cases h_s_eq_eq : s = s_eq_eq
 · subst h_s_eq_eq; decide +kernel
 rw [if_neg h_s_eq_eq, List.find?_cons, show (s_eq_eq == s) = false from beq_false_of_ne (Ne.symm h_s_eq_eq)]
 dsimp only
 by_cases h_s_bang_eq : s = s_bang_eq
 · subst h_s_bang_eq; decide +kernel
 rw [if_neg h_s_bang_eq, List.find?_cons, show (s_bang_eq == s) = false from beq_false_of_ne (Ne.symm h_s_bang_eq)]
 dsimp only
 by_cases h_s_plus : s = s_plus
 · subst h_s_plus; decide +kernel
 rw [if_neg h_s_plus, List.find?_cons, show (s_plus == s) = false from beq_false_of_ne (Ne.symm h_s_plus)]
 dsimp only
 by_cases h_s_minus : s = s_minus
 · subst h_s_minus; decide +kernel
 rw [if_neg h_s_minus, List.find?_cons, show (s_minus == s) = false from beq_false_of_ne (Ne.symm h_s_minus)]
 dsimp only
 by_cases h_s_star : s = s_star
 · subst h_s_star; decide +kernel
 rw [if_neg h_s_star, List.find?_cons, show (s_star == s) = false from beq_false_of_ne (Ne.symm h_s_star)]
 dsimp only
 by_cases h_s_slash : s = s_slash
 · subst h_s_slash; decide +kernel
 rw [if_neg h_s_slash, List.find?_cons, show (s_slash == s) = false from beq_false_of_ne (Ne.symm h_s_slash)]
 dsimp only
 by_cases h_s_pct : s = s_pct
 · subst h_s_pct; decide +kernel
 rw [if_neg h_s_pct, List.find?_cons, show (s_pct == s) = false from beq_false_of_ne (Ne.symm h_s_pct)]
 dsimp only
 rfl
theorem between_run (kind : Int) : ∀ m n, n + m = 13 → ∀ k, m + 1 ≤ k → expr_between_l0 k kind arr_x03b7b ((n : Nat) : Int) = some (match (signsL.drop n).find? (fun p => p.2.1 == kind) with | some p => (p.1, p.2.2) | none => ([], 0)) := by
 intro m
 induction m with
 | zero =>
  intro n h k hk
  obtain ⟨k, rfl⟩ : ∃ j, k = j + 1 := ⟨k - 1, by omega⟩
  obtain rfl : n = 13 := by omega
  simp only [expr_between_l0]
  rw [if_neg (by omega)]
  rfl
 | succ m ih =>
  intro n h k hk
  obtain ⟨k, rfl⟩ : ∃ j, k = j + 1 := ⟨k - 1, by omega⟩
  have hlt : n < signsL.length := by show n < 13; omega
  have e : w64 ((n : Int) + 1) = ((n + 1 : Nat) : Int) := by rw [w64_in (by omega) (by omega)]; omega
  have hrow : [s_bar_bar, s_amp_amp, s_lt, s_lt_eq, s_gt, s_gt_eq, s_eq_eq, s_bang_eq, s_plus, s_minus, s_star, s_slash, s_pct].getD n [] = (signsL[n]).1 := by
   have h13 : n = 0 ∨ n = 1 ∨ n = 2 ∨ n = 3 ∨ n = 4 ∨ n = 5 ∨ n = 6 ∨ n = 7 ∨ n = 8 ∨ n = 9 ∨ n = 10 ∨ n = 11 ∨ n = 12 := by omega
   rcases h13 with rfl | rfl | rfl | rfl | rfl | rfl | rfl | rfl | rfl | rfl | rfl | rfl | rfl <;> rfl
  have hsgn : sgn (signsL[n]).1 = (signsL[n]).2 := by
   have h13 : n = 0 ∨ n = 1 ∨ n = 2 ∨ n = 3 ∨ n = 4 ∨ n = 5 ∨ n = 6 ∨ n = 7 ∨ n = 8 ∨ n = 9 ∨ n = 10 ∨ n = 11 ∨ n = 12 := by omega
   rcases h13 with rfl | rfl | rfl | rfl | rfl | rfl | rfl | rfl | rfl | rfl | rfl | rfl | rfl <;> rfl
  simp only [expr_between_l0]
  rw [if_pos (by omega), if_pos (by omega), if_pos (by show (n : Int) < (13 : Nat); omega), Int.toNat_natCast, e, ih (n + 1) (by omega) k (by omega)]
  rw [show ([arr_x03b7b.1, arr_x03b7b.2.1, arr_x03b7b.2.2.1, arr_x03b7b.2.2.2.1, arr_x03b7b.2.2.2.2.1, arr_x03b7b.2.2.2.2.2.1, arr_x03b7b.2.2.2.2.2.2.1, arr_x03b7b.2.2.2.2.2.2.2.1, arr_x03b7b.2.2.2.2.2.2.2.2.1, arr_x03b7b.2.2.2.2.2.2.2.2.2.1, arr_x03b7b.2.2.2.2.2.2.2.2.2.2.1, arr_x03b7b.2.2.2.2.2.2.2.2.2.2.2.1, arr_x03b7b.2.2.2.2.2.2.2.2.2.2.2.2] : List (List UInt8)) = [s_bar_bar, s_amp_amp, s_lt, s_lt_eq, s_gt, s_gt_eq, s_eq_eq, s_bang_eq, s_plus, s_minus, s_star, s_slash, s_pct] from rfl]
  rw [hrow, sign_eq, bind_some_eq, hsgn, List.drop_eq_getElem_cons hlt, List.find?_cons]
  by_cases hk2 : (signsL[n]).2.1 = kind
  · rw [if_pos hk2]
    rw [show ((signsL[n]).2.1 == kind) = true from by simpa using hk2]
  · rw [if_neg hk2]
    rw [show ((signsL[n]).2.1 == kind) = false from by simpa using hk2]
theorem between_eq (k : Int) : expr_between k = some (btw k) := lim_eq 14 fun j hj => between_run k 13 0 rfl j hj
theorem find_kind (k : Int) (h : k < 7 ∨ 19 < k) : signsL.find? (fun p => p.2.1 == k) = none := by
 simp only [signsL, List.find?_cons, List.find?_nil]
 rw [show ((19 : Int) == k) = false from by simp; omega, show ((18 : Int) == k) = false from by simp; omega, show ((12 : Int) == k) = false from by simp; omega, show ((13 : Int) == k) = false from by simp; omega,
  show ((14 : Int) == k) = false from by simp; omega, show ((15 : Int) == k) = false from by simp; omega, show ((16 : Int) == k) = false from by simp; omega, show ((17 : Int) == k) = false from by simp; omega,
  show ((10 : Int) == k) = false from by simp; omega, show ((11 : Int) == k) = false from by simp; omega, show ((7 : Int) == k) = false from by simp; omega, show ((8 : Int) == k) = false from by simp; omega, show ((9 : Int) == k) = false from by simp; omega]
theorem btw_in {k : Int} (h1 : 7 ≤ k) (h2 : k ≤ 19) : btw k = (txt k, lvl k) ∧ 1 ≤ lvl k ∧ lvl k ≤ 5 := by
 have hk : k = 7 ∨ k = 8 ∨ k = 9 ∨ k = 10 ∨ k = 11 ∨ k = 12 ∨ k = 13 ∨ k = 14 ∨ k = 15 ∨ k = 16 ∨ k = 17 ∨ k = 18 ∨ k = 19 := by omega
 rcases hk with rfl | rfl | rfl | rfl | rfl | rfl | rfl | rfl | rfl | rfl | rfl | rfl | rfl <;> decide
theorem lvl_out {k : Int} (h : k < 5 ∨ 19 < k) : lvl k = 7 := by
 unfold lvl
 rw [if_neg (by omega), if_neg (by omega), if_neg (by omega), if_neg (by omega), if_neg (by omega), if_neg (by omega)]
theorem level_eq (k : Int) : expr_level k = some (lvl k) := by
 unfold expr_level
 by_cases h5 : k = 5
 · subst h5; rfl
 · rw [if_neg h5]
   by_cases h6 : k = 6
   · subst h6; rfl
   · rw [if_neg h6, between_eq, bind_some_eq]
     by_cases h : 7 ≤ k ∧ k ≤ 19
     · obtain ⟨h1, h2, h3⟩ := btw_in h.1 h.2
       rw [h1, if_pos (by omega)]
     · unfold btw
       rw [find_kind k (by omega)]
       rw [if_neg (by simp), lvl_out (by omega)]
def plc (k : Int) : List Int := if lvl k = 7 then [] else if lvl k = 6 then [6] else [lft k, rgt k]
theorem lvl_rng (k : Int) : 1 ≤ lvl k ∧ lvl k ≤ 7 := by
 unfold lvl
 repeat' split
 all_goals omega
theorem places_eq (k : Int) : expr_places k = some (plc k) := by
 unfold expr_places plc
 have hr := lvl_rng k
 rw [level_eq, bind_some_eq]
 by_cases h7 : lvl k = 7
 · rw [if_pos h7, if_pos h7]
 · rw [if_neg h7, if_neg h7]
   by_cases h6 : lvl k = 6
   · rw [if_pos h6, if_pos h6]
   · rw [if_neg h6, if_neg h6]
     unfold lft rgt
     by_cases h3 : lvl k = 3
     · rw [if_pos h3, if_pos h3, if_pos h3]
     · rw [if_neg h3, if_neg h3, if_neg h3, w64_in (by omega) (by omega)]
def Is : T → api_Expr → Prop
 | .num n, e => e.Kind = 1 ∧ e.N = n ∧ e.Name = [] ∧ e.Kids = []
 | .var s, e => e.Kind = 2 ∧ e.N = 0 ∧ e.Name = s ∧ e.Kids = []
 | .arg, e => e.Kind = 3 ∧ e.N = 0 ∧ e.Name = [] ∧ e.Kids = []
 | .isin s, e => e.Kind = 4 ∧ e.N = 0 ∧ e.Name = s ∧ e.Kids = []
 | .un k t, e => e.Kind = k ∧ e.N = 0 ∧ e.Name = [] ∧ ∃ x, e.Kids = [x] ∧ Is t x
 | .bin k a b, e => e.Kind = k ∧ e.N = 0 ∧ e.Name = [] ∧ ∃ x y, e.Kids = [x, y] ∧ Is a x ∧ Is b y
theorem eta (e : api_Expr) : api_Expr.mk e.Kind e.N e.Name e.Kids e.At = e := by cases e; rfl
theorem Is.kind {t : T} {e : api_Expr} (h : Is t e) : e.Kind = t.kind := by cases t <;> exact h.1
def T.ok : T → Prop
 | .num n => 0 ≤ n ∧ n ≤ 9223372036854775807
 | .var s => nameP s = true
 | .arg => True
 | .isin s => nameP s = true
 | .un k t => (k = 5 ∨ k = 6) ∧ t.ok
 | .bin k a b => (7 ≤ k ∧ k ≤ 19) ∧ a.ok ∧ b.ok
def par (c : Prop) [Decidable c] (s : List UInt8) : List UInt8 := if c then 40 :: s ++ [41] else s
def pr : T → Int → List UInt8
 | .num n, a => par (7 < a) (Lib.itoa n)
 | .var s, a => par (7 < a) s
 | .arg, a => par (7 < a) [36]
 | .isin s, a => par (7 < a) (s_in_xcc76e ++ s ++ s_rp)
 | .un k t, a => par (6 < a) ((if k = 5 then 45 else 33) :: pr t 6)
 | .bin k x y, a => par (lvl k < a) (pr x (lft k) ++ (s_sp ++ txt k ++ s_sp) ++ pr y (rgt k))
def T.sz : T → Nat
 | .un _ t => t.sz + 1
 | .bin _ a b => a.sz + b.sz + 1
 | _ => 1
theorem byte_eq {b : List UInt8} {c : Int} (h : b.length + 1 ≤ 140737488355328) (h0 : 0 ≤ c) (h1 : c < 256) : bldByte b c = some (true, b ++ [c.toNat.toUInt8]) := by
 unfold bldByte; rw [if_pos ⟨h, h0, h1⟩]
theorem str_eq {b s : List UInt8} (h : b.length + s.length ≤ 140737488355328) : bldStr b s = some ((s.length : Int), true, b ++ s) := by
 unfold bldStr; rw [if_pos h]
theorem txt_len (k : Int) : (txt k).length ≤ 2 := by
 unfold txt
 split
 · rename_i p hp
   have := List.mem_of_find?_eq_some hp
   simp only [signsL, List.mem_cons, List.not_mem_nil, or_false] at this
   rcases this with rfl | rfl | rfl | rfl | rfl | rfl | rfl | rfl | rfl | rfl | rfl | rfl | rfl <;> decide
 · exact Nat.zero_le _
theorem par_len (c : Prop) [Decidable c] (s : List UInt8) : s.length ≤ (par c s).length ∧ (par c s).length ≤ s.length + 2 := by
 unfold par
 split <;> simp <;> omega
end Go.Sy.Ex
namespace Go.Sy.Ex
open Go.Sy
theorem par_t {c : Prop} [Decidable c] (h : c) (s : List UInt8) : par c s = 40 :: s ++ [41] := if_pos h
theorem par_f {c : Prop} [Decidable c] (h : ¬ c) (s : List UInt8) : par c s = s := if_neg h
theorem pl1 {k : Int} (h : k < 5 ∨ 19 < k) : plc k = [] := by unfold plc; rw [if_pos (lvl_out h)]
theorem pl2 {k : Int} (h : k = 5 ∨ k = 6) : plc k = [6] := by rcases h with rfl | rfl <;> decide
theorem pl3 {k : Int} (h : 7 ≤ k ∧ k ≤ 19) : plc k = [lft k, rgt k] := by
 have := (btw_in h.1 h.2).2
 unfold plc
 rw [if_neg (by omega), if_neg (by omega)]
theorem fmt_eq {n : Int} (h0 : 0 ≤ n) (h1 : n ≤ 9223372036854775807) : p_FormatInt n 10 = some (Lib.itoa n) := by unfold p_FormatInt; rw [if_pos ⟨rfl, by omega, h1⟩]
theorem itoa_len {n : Int} (h0 : 0 ≤ n) (h1 : n ≤ 9223372036854775807) : (Lib.itoa n).length ≤ 19 := by rw [itoa_pos h0]; exact dec_len 18 _ (by omega)
theorem wb_0 (self : List UInt8 → api_Expr → Int → Option (List UInt8)) (k : Nat) (r : List UInt8) (K N : Int) (Nm : List UInt8) (Ks : List api_Expr) (At : Int) : expr_write_l0b self (k + 1) r K N Nm Ks At [] ((([] : List Int).length : Nat) : Int) 0 = (some r) := by
 simp only [expr_write_l0b]
 rw [if_neg (by simp)]
theorem wb_1 (self : List UInt8 → api_Expr → Int → Option (List UInt8)) (k : Nat) (b r : List UInt8) (K N : Int) (Nm : List UInt8) (x : api_Expr) (At : Int) (p : Int) (h : self b x p = some r) : expr_write_l0b self (k + 2) b K N Nm [x] At [p] ((([p] : List Int).length : Nat) : Int) 0 = (some r) := by
 rw [show (([p] : List Int).length : Int) = 1 from rfl]
 simp only [expr_write_l0b]
 rw [if_pos (by omega), if_pos (by omega), if_pos (by simp), if_neg (by simp), if_neg (by omega), if_pos (by omega), if_pos (by simp)]
 rw [show [x].getD (0 : Int).toNat api_Expr.z = x from rfl, show [p].getD (0 : Int).toNat 0 = p from rfl, h, bind_some_eq]
 rw [show w64 (0 + 1) = 1 from by decide, if_neg (by omega)]
theorem wb_2 (self : List UInt8 → api_Expr → Int → Option (List UInt8)) (k : Nat) (b r1 r : List UInt8) (K N : Int) (Nm : List UInt8) (x y : api_Expr) (At : Int) (p q : Int) (hK : 7 ≤ K ∧ K ≤ 19) (h : self b x p = some r1) (h2 : self (r1 ++ (s_sp ++ txt K ++ s_sp)) y q = some r) (hl : r1.length + (s_sp ++ txt K ++ s_sp).length ≤ 140737488355328) : expr_write_l0b self (k + 3) b K N Nm [x, y] At [p, q] ((([p, q] : List Int).length : Nat) : Int) 0 = (some r) := by
 rw [show (([p, q] : List Int).length : Int) = 2 from rfl]
 have ht := txt_len K
 simp only [expr_write_l0b]
 rw [if_pos (by omega), if_pos (by omega), if_pos (by simp), if_neg (by simp), if_neg (by omega), if_pos (by omega), if_pos (by simp)]
 rw [show [x, y].getD (0 : Int).toNat api_Expr.z = x from rfl, show [p, q].getD (0 : Int).toNat 0 = p from rfl, h, bind_some_eq]
 rw [show w64 (0 + 1) = 1 from by decide, if_pos (by omega), if_pos (by omega), if_pos (by simp), if_neg (by simp), if_pos (by omega), between_eq, bind_some_eq, (btw_in hK.1 hK.2).1]
 dsimp only
 rw [if_pos (by simp; omega), if_pos (by simp; omega), str_eq hl, bind_some_eq, if_pos (by omega), if_pos (by simp)]
 rw [show [x, y].getD (1 : Int).toNat api_Expr.z = y from rfl, show [p, q].getD (1 : Int).toNat 0 = q from rfl]
 dsimp only
 rw [h2, bind_some_eq, show w64 (1 + 1) = 2 from by decide, if_neg (by omega)]
theorem w_0 (self : List UInt8 → api_Expr → Int → Option (List UInt8)) (k : Nat) (r : List UInt8) (K N : Int) (Nm : List UInt8) (Ks : List api_Expr) (At : Int) : expr_write_l0 self (k + 1) r K N Nm Ks At [] ((([] : List Int).length : Nat) : Int) 0 = ((bldByte r 41).bind fun q => some q.2) := by
 simp only [expr_write_l0]
 rw [if_neg (by simp)]
theorem w_1 (self : List UInt8 → api_Expr → Int → Option (List UInt8)) (k : Nat) (b r : List UInt8) (K N : Int) (Nm : List UInt8) (x : api_Expr) (At : Int) (p : Int) (h : self b x p = some r) : expr_write_l0 self (k + 2) b K N Nm [x] At [p] ((([p] : List Int).length : Nat) : Int) 0 = ((bldByte r 41).bind fun q => some q.2) := by
 rw [show (([p] : List Int).length : Int) = 1 from rfl]
 simp only [expr_write_l0]
 rw [if_pos (by omega), if_pos (by omega), if_pos (by simp), if_neg (by simp), if_neg (by omega), if_pos (by omega), if_pos (by simp)]
 rw [show [x].getD (0 : Int).toNat api_Expr.z = x from rfl, show [p].getD (0 : Int).toNat 0 = p from rfl, h, bind_some_eq]
 rw [show w64 (0 + 1) = 1 from by decide, if_neg (by omega)]
theorem w_2 (self : List UInt8 → api_Expr → Int → Option (List UInt8)) (k : Nat) (b r1 r : List UInt8) (K N : Int) (Nm : List UInt8) (x y : api_Expr) (At : Int) (p q : Int) (hK : 7 ≤ K ∧ K ≤ 19) (h : self b x p = some r1) (h2 : self (r1 ++ (s_sp ++ txt K ++ s_sp)) y q = some r) (hl : r1.length + (s_sp ++ txt K ++ s_sp).length ≤ 140737488355328) : expr_write_l0 self (k + 3) b K N Nm [x, y] At [p, q] ((([p, q] : List Int).length : Nat) : Int) 0 = ((bldByte r 41).bind fun q => some q.2) := by
 rw [show (([p, q] : List Int).length : Int) = 2 from rfl]
 have ht := txt_len K
 simp only [expr_write_l0]
 rw [if_pos (by omega), if_pos (by omega), if_pos (by simp), if_neg (by simp), if_neg (by omega), if_pos (by omega), if_pos (by simp)]
 rw [show [x, y].getD (0 : Int).toNat api_Expr.z = x from rfl, show [p, q].getD (0 : Int).toNat 0 = p from rfl, h, bind_some_eq]
 rw [show w64 (0 + 1) = 1 from by decide, if_pos (by omega), if_pos (by omega), if_pos (by simp), if_neg (by simp), if_pos (by omega), between_eq, bind_some_eq, (btw_in hK.1 hK.2).1]
 dsimp only
 rw [if_pos (by simp; omega), if_pos (by simp; omega), str_eq hl, bind_some_eq, if_pos (by omega), if_pos (by simp)]
 rw [show [x, y].getD (1 : Int).toNat api_Expr.z = y from rfl, show [p, q].getD (1 : Int).toNat 0 = q from rfl]
 dsimp only
 rw [h2, bind_some_eq, show w64 (1 + 1) = 2 from by decide, if_neg (by omega)]
theorem close_eq {r : List UInt8} (h : r.length + 1 ≤ 140737488355328) : ((bldByte r 41).bind fun q => some q.2) = some (r ++ [41]) := by
 rw [byte_eq h (by omega) (by omega), bind_some_eq]; rfl
theorem write_run : ∀ (t : T) (e : api_Expr) (b : List UInt8) (a : Int), Is t e → t.ok → (b ++ pr t a).length ≤ 140737488355328 → ∀ k, t.sz + 3 ≤ k → expr_write_f k b e a = some (b ++ pr t a) := by
 intro t
 induction t with
 | num n =>
  intro e b a h hok hl k hk
  obtain ⟨k, rfl⟩ : ∃ j, k = j + 2 := ⟨k - 2, by have : 1 ≤ T.sz (.num n) := Nat.le_refl _; omega⟩
  obtain ⟨h1, h2, h3, h4⟩ := h
  have hlv : lvl 1 = 7 := by decide
  have hpl : plc 1 = [] := by decide
  show expr_write_b (expr_write_f (k + 1)) (k + 1) b e a = _
  unfold expr_write_b
  rw [h1, level_eq, bind_some_eq, hlv]
  unfold pr at hl ⊢
  by_cases ha : 7 < a
  · rw [par_t ha] at hl ⊢
    rw [if_pos ha]
    simp only [List.length_append, List.length_cons, List.length_nil] at hl
    rw [byte_eq (by omega) (by omega) (by omega), bind_some_eq]
    dsimp only
    rw [if_pos rfl, h2, fmt_eq hok.1 hok.2, bind_some_eq, str_eq (by simp only [List.length_append, List.length_cons, List.length_nil]; omega), bind_some_eq]
    dsimp only
    rw [places_eq, bind_some_eq, hpl, w_0, close_eq (by simp only [List.length_append, List.length_cons, List.length_nil]; omega)]
    simp [List.append_assoc]
  · rw [par_f ha] at hl ⊢
    rw [if_neg ha]
    simp only [List.length_append, List.length_cons, List.length_nil] at hl
    rw [if_pos rfl, h2, fmt_eq hok.1 hok.2, bind_some_eq, str_eq (by omega), bind_some_eq]
    dsimp only
    rw [places_eq, bind_some_eq, hpl, wb_0]
 | var s =>
  intro e b a h hok hl k hk
  obtain ⟨k, rfl⟩ : ∃ j, k = j + 2 := ⟨k - 2, by have : 1 ≤ T.sz (.var s) := Nat.le_refl _; omega⟩
  obtain ⟨h1, h2, h3, h4⟩ := h
  have hlv : lvl 2 = 7 := by decide
  have hpl : plc 2 = [] := by decide
  show expr_write_b (expr_write_f (k + 1)) (k + 1) b e a = _
  unfold expr_write_b
  rw [h1, level_eq, bind_some_eq, hlv]
  unfold pr at hl ⊢
  by_cases ha : 7 < a
  · rw [par_t ha] at hl ⊢
    rw [if_pos ha]
    simp only [List.length_append, List.length_cons, List.length_nil] at hl
    rw [byte_eq (by omega) (by omega) (by omega), bind_some_eq]
    dsimp only
    rw [if_neg (by decide), if_neg (by decide), if_pos rfl, h3, str_eq (by simp only [List.length_append, List.length_cons, List.length_nil]; omega), bind_some_eq]
    dsimp only
    rw [places_eq, bind_some_eq, hpl, w_0, close_eq (by simp only [List.length_append, List.length_cons, List.length_nil]; omega)]
    simp [List.append_assoc]
  · rw [par_f ha] at hl ⊢
    rw [if_neg ha]
    simp only [List.length_append, List.length_cons, List.length_nil] at hl
    rw [if_neg (by decide), if_neg (by decide), if_pos rfl, h3, str_eq (by omega), bind_some_eq]
    dsimp only
    rw [places_eq, bind_some_eq, hpl, wb_0]
 | arg =>
  intro e b a h hok hl k hk
  obtain ⟨k, rfl⟩ : ∃ j, k = j + 2 := ⟨k - 2, by have : 1 ≤ T.sz (.arg) := Nat.le_refl _; omega⟩
  obtain ⟨h1, h2, h3, h4⟩ := h
  have hlv : lvl 3 = 7 := by decide
  have hpl : plc 3 = [] := by decide
  show expr_write_b (expr_write_f (k + 1)) (k + 1) b e a = _
  unfold expr_write_b
  rw [h1, level_eq, bind_some_eq, hlv]
  unfold pr at hl ⊢
  by_cases ha : 7 < a
  · rw [par_t ha] at hl ⊢
    rw [if_pos ha]
    simp only [List.length_append, List.length_cons, List.length_nil] at hl
    rw [byte_eq (by omega) (by omega) (by omega), bind_some_eq]
    dsimp only
    rw [if_neg (by decide), if_pos rfl, byte_eq (by simp only [List.length_append, List.length_cons, List.length_nil]; omega) (by omega) (by omega), bind_some_eq]
    dsimp only
    rw [places_eq, bind_some_eq, hpl, w_0, close_eq (by simp only [List.length_append, List.length_cons, List.length_nil]; omega)]
    simp [List.append_assoc]
  · rw [par_f ha] at hl ⊢
    rw [if_neg ha]
    simp only [List.length_append, List.length_cons, List.length_nil] at hl
    rw [if_neg (by decide), if_pos rfl, byte_eq (by omega) (by omega) (by omega), bind_some_eq]
    dsimp only
    rw [places_eq, bind_some_eq, hpl, wb_0]
    rfl
 | isin s =>
  intro e b a h hok hl k hk
  obtain ⟨k, rfl⟩ : ∃ j, k = j + 2 := ⟨k - 2, by have : 1 ≤ T.sz (.isin s) := Nat.le_refl _; omega⟩
  obtain ⟨h1, h2, h3, h4⟩ := h
  have hlv : lvl 4 = 7 := by decide
  have hpl : plc 4 = [] := by decide
  show expr_write_b (expr_write_f (k + 1)) (k + 1) b e a = _
  unfold expr_write_b
  rw [h1, level_eq, bind_some_eq, hlv]
  unfold pr at hl ⊢
  have hs24 := (name_split hok).2.1
  by_cases ha : 7 < a
  · rw [par_t ha] at hl ⊢
    rw [if_pos ha]
    simp only [List.length_append, List.length_cons, List.length_nil] at hl
    rw [byte_eq (by omega) (by omega) (by omega), bind_some_eq]
    dsimp only
    rw [if_neg (by decide), if_neg (by decide), if_neg (by decide), if_pos rfl, h3, if_pos (by simp only [s_in_xcc76e, List.length_cons, List.length_nil]; omega), if_pos (by simp only [s_in_xcc76e, s_rp, List.length_append, List.length_cons, List.length_nil]; omega), str_eq (by simp only [s_in_xcc76e, s_rp, List.length_append, List.length_cons, List.length_nil] at hl ⊢; omega), bind_some_eq]
    dsimp only
    rw [places_eq, bind_some_eq, hpl, w_0, close_eq (by simp only [s_in_xcc76e, s_rp, List.length_append, List.length_cons, List.length_nil] at hl ⊢; omega)]
    simp [List.append_assoc]
  · rw [par_f ha] at hl ⊢
    rw [if_neg ha]
    simp only [List.length_append, List.length_cons, List.length_nil] at hl
    rw [if_neg (by decide), if_neg (by decide), if_neg (by decide), if_pos rfl, h3, if_pos (by simp only [s_in_xcc76e, List.length_cons, List.length_nil]; omega), if_pos (by simp only [s_in_xcc76e, s_rp, List.length_append, List.length_cons, List.length_nil]; omega), str_eq (by simp only [s_in_xcc76e, s_rp, List.length_append, List.length_cons, List.length_nil] at hl ⊢; omega), bind_some_eq]
    dsimp only
    rw [places_eq, bind_some_eq, hpl, wb_0]
 | un k0 t ih =>
  intro e b a h hok hl k hk
  obtain ⟨k, rfl⟩ : ∃ j, k = j + 3 := ⟨k - 3, by omega⟩
  obtain ⟨h1, h2, h3, x, h4, hx⟩ := h
  show expr_write_b (expr_write_f (k + 2)) (k + 2) b e a = _
  unfold expr_write_b
  rw [h1, level_eq, bind_some_eq]
  unfold pr at hl ⊢
  obtain ⟨hk0, hok'⟩ := id hok
  rcases hk0 with h5 | h5
  · subst h5
    have hlv : lvl 5 = 6 := by decide
    have hpl : plc 5 = [6] := by decide
    rw [hlv]
    by_cases ha : 6 < a
    · rw [par_t ha] at hl ⊢
      rw [if_pos ha]
      simp only [List.length_append, List.length_cons, List.length_nil] at hl
      have hsub := ih x ((b ++ [(40 : Int).toNat.toUInt8]) ++ [(45 : Int).toNat.toUInt8]) 6 hx hok.2 (by simp only [List.length_append, List.length_cons, List.length_nil]; omega) (k + 2) (by simp only [T.sz] at hk; omega)
      rw [byte_eq (by omega) (by omega) (by omega), bind_some_eq]
      dsimp only
      rw [if_neg (by decide), if_neg (by decide), if_neg (by decide), if_neg (by decide), if_pos rfl, byte_eq (by simp only [List.length_append, List.length_cons, List.length_nil]; omega) (by omega) (by omega), bind_some_eq]
      dsimp only
      rw [places_eq, bind_some_eq, hpl, h4, w_1 _ _ _ _ _ _ _ _ _ _ hsub, close_eq (by simp only [List.length_append, List.length_cons, List.length_nil]; omega)]
      simp [List.append_assoc]
    · rw [par_f ha] at hl ⊢
      rw [if_neg ha]
      simp only [List.length_append, List.length_cons, List.length_nil] at hl
      have hsub := ih x (b ++ [(45 : Int).toNat.toUInt8]) 6 hx hok.2 (by simp only [List.length_append, List.length_cons, List.length_nil]; omega) (k + 2) (by simp only [T.sz] at hk; omega)
      rw [if_neg (by decide), if_neg (by decide), if_neg (by decide), if_neg (by decide), if_pos rfl, byte_eq (by omega) (by omega) (by omega), bind_some_eq]
      dsimp only
      rw [places_eq, bind_some_eq, hpl, h4, wb_1 _ _ _ _ _ _ _ _ _ _ hsub]
      simp [List.append_assoc]
  · subst h5
    have hlv : lvl 6 = 6 := by decide
    have hpl : plc 6 = [6] := by decide
    rw [hlv]
    by_cases ha : 6 < a
    · rw [par_t ha] at hl ⊢
      rw [if_pos ha]
      simp only [List.length_append, List.length_cons, List.length_nil] at hl
      have hsub := ih x ((b ++ [(40 : Int).toNat.toUInt8]) ++ [(33 : Int).toNat.toUInt8]) 6 hx hok.2 (by simp only [List.length_append, List.length_cons, List.length_nil]; omega) (k + 2) (by simp only [T.sz] at hk; omega)
      rw [byte_eq (by omega) (by omega) (by omega), bind_some_eq]
      dsimp only
      rw [if_neg (by decide), if_neg (by decide), if_neg (by decide), if_neg (by decide), if_neg (by decide), if_pos rfl, byte_eq (by simp only [List.length_append, List.length_cons, List.length_nil]; omega) (by omega) (by omega), bind_some_eq]
      dsimp only
      rw [places_eq, bind_some_eq, hpl, h4, w_1 _ _ _ _ _ _ _ _ _ _ hsub, close_eq (by simp only [List.length_append, List.length_cons, List.length_nil]; omega)]
      simp [List.append_assoc]
    · rw [par_f ha] at hl ⊢
      rw [if_neg ha]
      simp only [List.length_append, List.length_cons, List.length_nil] at hl
      have hsub := ih x (b ++ [(33 : Int).toNat.toUInt8]) 6 hx hok.2 (by simp only [List.length_append, List.length_cons, List.length_nil]; omega) (k + 2) (by simp only [T.sz] at hk; omega)
      rw [if_neg (by decide), if_neg (by decide), if_neg (by decide), if_neg (by decide), if_neg (by decide), if_pos rfl, byte_eq (by omega) (by omega) (by omega), bind_some_eq]
      dsimp only
      rw [places_eq, bind_some_eq, hpl, h4, wb_1 _ _ _ _ _ _ _ _ _ _ hsub]
      simp [List.append_assoc]
 | bin k0 x0 y0 ihx ihy =>
  intro e b a h hok hl k hk
  obtain ⟨k, rfl⟩ : ∃ j, k = j + 4 := ⟨k - 4, by simp only [T.sz] at hk; omega⟩
  obtain ⟨h1, h2, h3, x, y, h4, hx, hy⟩ := h
  obtain ⟨hk0, hokx, hoky⟩ := id hok
  have hpl := pl3 hk0
  show expr_write_b (expr_write_f (k + 3)) (k + 3) b e a = _
  unfold expr_write_b
  rw [h1, level_eq, bind_some_eq]
  unfold pr at hl ⊢
  have hsp : s_sp.length = 1 := rfl
  have hszx : 1 ≤ x0.sz := by cases x0 <;> simp [T.sz]
  have hszy : 1 ≤ y0.sz := by cases y0 <;> simp [T.sz]
  by_cases ha : lvl k0 < a
  · rw [par_t ha] at hl ⊢
    rw [if_pos ha]
    simp only [List.length_append, List.length_cons, List.length_nil] at hl
    have ht := txt_len k0
    have hsx := ihx x (b ++ [(40 : Int).toNat.toUInt8]) (lft k0) hx hokx (by simp only [List.length_append, List.length_cons, List.length_nil]; omega) (k + 3) (by simp only [T.sz] at hk; omega)
    have hsy := ihy y (((b ++ [(40 : Int).toNat.toUInt8]) ++ pr x0 (lft k0)) ++ (s_sp ++ txt k0 ++ s_sp)) (rgt k0) hy hoky (by simp only [List.length_append, List.length_cons, List.length_nil]; omega) (k + 3) (by simp only [T.sz] at hk; omega)
    rw [byte_eq (by omega) (by omega) (by omega), bind_some_eq]
    dsimp only
    rw [if_neg (by omega), if_neg (by omega), if_neg (by omega), if_neg (by omega), if_neg (by omega), if_neg (by omega), places_eq, bind_some_eq, hpl, h4, w_2 _ _ _ _ _ _ _ _ _ _ _ _ _ hk0 hsx hsy (by simp only [List.length_append, List.length_cons, List.length_nil]; omega), close_eq (by simp only [List.length_append, List.length_cons, List.length_nil]; omega)]
    simp [List.append_assoc]
  · rw [par_f ha] at hl ⊢
    rw [if_neg ha]
    simp only [List.length_append, List.length_cons, List.length_nil] at hl
    have ht := txt_len k0
    have hsx := ihx x b (lft k0) hx hokx (by simp only [List.length_append, List.length_cons, List.length_nil]; omega) (k + 3) (by simp only [T.sz] at hk; omega)
    have hsy := ihy y ((b ++ pr x0 (lft k0)) ++ (s_sp ++ txt k0 ++ s_sp)) (rgt k0) hy hoky (by simp only [List.length_append, List.length_cons, List.length_nil]; omega) (k + 3) (by simp only [T.sz] at hk; omega)
    rw [if_neg (by omega), if_neg (by omega), if_neg (by omega), if_neg (by omega), if_neg (by omega), if_neg (by omega), places_eq, bind_some_eq, hpl, h4, wb_2 _ _ _ _ _ _ _ _ _ _ _ _ _ hk0 hsx hsy (by simp only [List.length_append, List.length_cons, List.length_nil]; omega)]
    simp [List.append_assoc]
theorem print_eq {t : T} {e : api_Expr} (h : Is t e) (hok : t.ok) (hl : (pr t 1).length ≤ 140737488355328) : expr_Print e = some (pr t 1) := by
 unfold expr_Print expr_write
 have : lim (fun k (x : List UInt8 × api_Expr × Int) => expr_write_f k x.1 x.2.1 x.2.2) ([], api_Expr.mk e.Kind e.N e.Name e.Kids e.At, 1) = some (pr t 1) :=
  lim_eq (t.sz + 3) fun k hk => by
   have := write_run t (api_Expr.mk e.Kind e.N e.Name e.Kids e.At) [] 1 (by cases t <;> exact h) hok (by simpa using hl) k hk
   rw [List.nil_append] at this
   exact this
 rw [this, bind_some_eq]
 rfl
end Go.Sy.Ex
namespace Go.Sy.Ex
open Go.Sy
def st (l : List api_Token) (i o : Nat) : expr_reader := ⟨⟨l, (i : Int), ⟨0, 0⟩⟩, (o : Int)⟩
def tkn (l : List api_Token) (i : Nat) : api_Token := l.getD i api_Token.z
def isT (t : api_Token) (s : List UInt8) : Bool := decide ((t.Kind = 3 ∨ t.Kind = 1) ∧ t.Text = s)
section
variable {l : List api_Token} {i o : Nat}
theorem ok_st : read_Row_OK_1 (st l i o) = some (true, st l i o) := rfl
theorem look_st (hi : i < l.length) : read_Row_Look_1 (st l i o) = some (tkn l i, st l i o) := by
 unfold read_Row_Look_1
 rw [ok_st, bind_some_eq]
 have h1 : ¬ ((i : Nat) : Int) < 0 := by omega
 have h2 : ¬ (l.length : Int) ≤ ((i : Nat) : Int) := by omega
 have h3 : 0 ≤ ((i : Nat) : Int) := by omega
 have h4 : ((i : Nat) : Int) < (l.length : Int) := by omega
 simp only [Bool.not_true, cond_false, st, Int.toNat_natCast, h1, h2, h3, h4, if_true, if_false]; rfl
theorem is_st (hi : i < l.length) (s : List UInt8) : read_Row_Is_1 (st l i o) s = some (isT (tkn l i) s, st l i o) := by
 unfold read_Row_Is_1 isT
 rw [look_st hi, bind_some_eq]
 dsimp only
 by_cases h3 : (tkn l i).Kind = 3
 · rw [if_pos h3]; congr 2; rw [decide_eq_decide]; simp [h3]
 · rw [if_neg h3]
   by_cases h1 : (tkn l i).Kind = 1
   · rw [if_pos h1]; congr 2; rw [decide_eq_decide]; simp [h1]
   · rw [if_neg h1]
     congr 2
     symm
     rw [decide_eq_false_iff_not]
     rintro ⟨h | h, _⟩ <;> contradiction
theorem next_i (hi : i < l.length) (hl : l.length ≤ 100000) : w64 (((i : Nat) : Int) + 1) = ((i + 1 : Nat) : Int) := by rw [w64_in (by omega) (by omega)]; omega
theorem take_st (hi : i < l.length) (hl : l.length ≤ 100000) (s : List UInt8) : read_Row_Take_1 (st l i o) s = some (isT (tkn l i) s, if isT (tkn l i) s = true then st l (i + 1) o else st l i o) := by
 unfold read_Row_Take_1
 rw [is_st hi, bind_some_eq]
 dsimp only
 cases h : isT (tkn l i) s with
 | true =>
  rw [cond_true, if_pos rfl]
  show some (true, (⟨⟨l, w64 (((i : Nat) : Int) + 1), ⟨0, 0⟩⟩, (o : Int)⟩ : expr_reader)) = _
  rw [next_i hi hl]; rfl
 | false => rw [cond_false, if_neg (by simp)]
theorem want_st (hi : i < l.length) (hl : l.length ≤ 100000) {s : List UInt8} (h : isT (tkn l i) s = true) : read_Row_Want_1 (st l i o) s = some (st l (i + 1) o) := by
 unfold read_Row_Want_1
 rw [take_st hi hl, bind_some_eq, h]; rfl
theorem isname_st (hi : i < l.length) : read_Row_IsName_1 (st l i o) = some (decide ((tkn l i).Kind = 1) && !resP (tkn l i).Text, st l i o) := by
 unfold read_Row_IsName_1
 rw [look_st hi, bind_some_eq]
 dsimp only
 by_cases h1 : (tkn l i).Kind = 1
 · rw [if_pos h1, lres_eq, bind_some_eq, decide_eq_true h1]; rfl
 · rw [if_neg h1, decide_eq_false h1]; rfl
theorem name_st (hi : i < l.length) (hl : l.length ≤ 100000) (h1 : (tkn l i).Kind = 1) (h2 : resP (tkn l i).Text = false) : read_Row_Name_1 (st l i o) = some ((tkn l i).Text, st l (i + 1) o) := by
 unfold read_Row_Name_1
 rw [isname_st hi, bind_some_eq]
 dsimp only
 rw [decide_eq_true h1, h2]
 show (if 0 ≤ w64 (w64 (((i : Nat) : Int) + 1) - 1) then if w64 (w64 (((i : Nat) : Int) + 1) - 1) < (l.length : Int) then some ((l.getD (w64 (w64 (((i : Nat) : Int) + 1) - 1)).toNat api_Token.z).Text, (⟨⟨l, w64 (((i : Nat) : Int) + 1), ⟨0, 0⟩⟩, (o : Int)⟩ : expr_reader)) else none else none) = _
 rw [next_i hi hl, show w64 (((i + 1 : Nat) : Int) - 1) = ((i : Nat) : Int) from by rw [w64_in (by omega) (by omega)]; omega, if_pos (by omega), if_pos (by omega), Int.toNat_natCast]
 rfl
theorem deep_st (hi : i < l.length) (hl : l.length ≤ 100000) (ho : o < 12) (a : Int) : expr_reader_deep (st l i o) a = some (true, st l (i + 1) (o + 1)) := by
 unfold expr_reader_deep
 show (if ((o : Nat) : Int) = 12 then _ else some (true, (⟨⟨l, w64 (((i : Nat) : Int) + 1), ⟨0, 0⟩⟩, w64 (((o : Nat) : Int) + 1)⟩ : expr_reader))) = _
 rw [if_neg (by omega), next_i hi hl, show w64 (((o : Nat) : Int) + 1) = ((o + 1 : Nat) : Int) from by rw [w64_in (by omega) (by omega)]; omega]
 rfl
end
def Seq (l : List api_Token) (i : Nat) : List Tk → Prop
 | [] => True
 | k :: K => i < l.length ∧ strip (tkn l i) = k ∧ Seq l (i + 1) K
theorem Seq.append {l : List api_Token} : ∀ {i : Nat} {K K' : List Tk}, Seq l i (K ++ K') ↔ Seq l i K ∧ Seq l (i + K.length) K'
 | i, [], K' => by simp [Seq]
 | i, k :: K, K' => by
  rw [List.cons_append]
  simp only [Seq, List.length_cons]
  rw [Seq.append, show i + 1 + K.length = i + (K.length + 1) from by omega]
  constructor
  · rintro ⟨a, b, c, d⟩; exact ⟨⟨a, b, c⟩, d⟩
  · rintro ⟨⟨a, b, c⟩, d⟩; exact ⟨a, b, c, d⟩
def parT (c : Prop) [Decidable c] (K : List Tk) : List Tk := if c then (3, s_lp, 0) :: K ++ [(3, s_rp, 0)] else K
def toks : T → Int → List Tk
 | .num n, a => parT (7 < a) [(2, Lib.itoa n, n)]
 | .var s, a => parT (7 < a) [(1, s, 0)]
 | .arg, a => parT (7 < a) [(3, s_dollar, 0)]
 | .isin s, a => parT (7 < a) [(1, s_in, 0), (3, s_lp, 0), (1, s, 0), (3, s_rp, 0)]
 | .un k t, a => parT (6 < a) ((3, if k = 5 then s_minus else s_bang, 0) :: toks t 6)
 | .bin k x y, a => parT (lvl k < a) (toks x (lft k) ++ (3, txt k, 0) :: toks y (rgt k))
def parN (c : Prop) [Decidable c] (n : Nat) : Nat := if c then n + 1 else n
def nst : T → Int → Nat
 | .un k t, a => parN (6 < a) (nst t 6 + 1)
 | .bin k x y, a => parN (lvl k < a) (max (nst x (lft k)) (nst y (rgt k)))
 | _, a => parN (7 < a) 0
def slv (t : api_Token) : Int := if t.Kind = 3 then (sgn t.Text).2 else 0
def P (t : T) (K : List Tk) (n : Nat) (m : Int) : Prop := ∀ (l : List api_Token) (i o : Nat), l.length ≤ 100000 → Seq l i K → i + K.length < l.length → o + n ≤ 12 → slv (tkn l (i + K.length)) < m →
 ∃ e Z, Is t e ∧ ∀ k, Z ≤ k → expr_reader_part_f k (st l i o) m = some (e, st l (i + K.length) o)
def Sg (t : T) (K : List Tk) (n : Nat) : Prop := ∀ (l : List api_Token) (i o : Nat), l.length ≤ 100000 → Seq l i K → i + K.length < l.length → o + n ≤ 12 →
 ∃ e Z Z2, Is t e ∧ ∀ k, Z ≤ k → ∀ k2, Z2 ≤ k2 → expr_reader_signed_f (expr_reader_part_f k) k2 (st l i o) = some (e, st l (i + K.length) o)
noncomputable def loop (k k' : Nat) (l : List api_Token) (i o : Nat) (m : Int) (e : api_Expr) : Option (api_Expr × expr_reader) :=
 expr_reader_part_l0 (expr_reader_part_f k) k' l ((i : Nat) : Int) 0 0 ((o : Nat) : Int) m 0 0 [] [] 0 e.Kind e.N e.Name e.Kids e.At
def Qp (t : T) (K : List Tk) (n : Nat) (m : Int) : Prop := ∀ (l : List api_Token) (i o : Nat), l.length ≤ 100000 → Seq l i K → i + K.length < l.length → o + n ≤ 12 → slv (tkn l (i + K.length)) ≤ m →
 ∃ e Z j, Is t e ∧ j < Z ∧ ∀ k, Z ≤ k → expr_reader_part_f (k + 1) (st l i o) m = loop k (k - j) l (i + K.length) o m e
theorem part_succ (k : Nat) (l : List api_Token) (i o : Nat) {m : Int} (hm : 1 ≤ m) (hm5 : m ≤ 5) {e : api_Expr} {i' : Nat} (h : expr_reader_part_f k (st l i o) (m + 1) = some (e, st l i' o)) :
 expr_reader_part_f (k + 1) (st l i o) m = loop k k l i' o m e := by
 show expr_reader_part_b (expr_reader_part_f k) k (st l i o) m = _
 unfold expr_reader_part_b
 rw [if_neg (by omega), w64_in (by omega) (by omega), h, bind_some_eq]
 rfl
theorem loop_end (k k' : Nat) (l : List api_Token) (i o : Nat) {m : Int} (hm : 1 ≤ m) (hi : i < l.length) (hs : slv (tkn l i) ≠ m) (e : api_Expr) (hk : 1 ≤ k') : loop k k' l i o m e = some (e, st l i o) := by
 obtain ⟨k', rfl⟩ : ∃ j, k' = j + 1 := ⟨k' - 1, by omega⟩
 unfold loop
 simp only [expr_reader_part_l0]
 rw [show (expr_reader.mk (read_Row.mk l ((i : Nat) : Int) (api_Fault.mk 0 0)) ((o : Nat) : Int)) = st l i o from rfl, look_st hi, bind_some_eq, sign_eq, bind_some_eq, eta]
 dsimp only
 unfold slv at hs
 by_cases h3 : (tkn l i).Kind = 3
 · rw [if_pos h3] at hs
   rw [if_neg (by simpa using h3), if_pos hs]
 · rw [if_pos h3]
theorem loop_step (k k' : Nat) (l : List api_Token) (hl : l.length ≤ 100000) (i o : Nat) {m : Int} (hm : 1 ≤ m) (hm5 : m ≤ 5) (hi : i < l.length) {kd : Int} {tx : List UInt8} (ht : strip (tkn l i) = (3, tx, 0)) (hg : sgn tx = (kd, m)) (e : api_Expr) {y : api_Expr} {i' : Nat}
 (hy : expr_reader_part_f k (st l (i + 1) o) (m + 1) = some (y, st l i' o)) :
 loop k (k' + 1) l i o m e = if m = 3 then some (api_Expr.mk kd 0 [] [e, y] (tkn l i).At, st l i' o) else loop k k' l i' o m (api_Expr.mk kd 0 [] [e, y] (tkn l i).At) := by
 unfold loop
 simp only [expr_reader_part_l0]
 rw [show (expr_reader.mk (read_Row.mk l ((i : Nat) : Int) (api_Fault.mk 0 0)) ((o : Nat) : Int)) = st l i o from rfl, look_st hi, bind_some_eq, sign_eq, bind_some_eq, eta]
 dsimp only
 unfold strip at ht
 simp only [Prod.mk.injEq] at ht
 rw [ht.2.1, hg]
 dsimp only
 rw [if_neg (by simp [ht.1]), if_neg (by simp)]
 rw [show (expr_reader.mk (read_Row.mk (st l i o).Row.L (w64 ((st l i o).Row.At + 1)) (st l i o).Row.Fault) (st l i o).v_open) = st l (i + 1) o from by
  show (⟨⟨l, w64 (((i : Nat) : Int) + 1), ⟨0, 0⟩⟩, (o : Int)⟩ : expr_reader) = _
  rw [next_i hi hl]; rfl]
 rw [w64_in (by omega) (by omega), hy, bind_some_eq]
 simp only [eta]
 rfl
theorem isT_yes {l : List api_Token} {i : Nat} {k : Int} {s : List UInt8} {n : Int} (h : strip (tkn l i) = (k, s, n)) (hk : k = 3 ∨ k = 1) : isT (tkn l i) s = true := by
 unfold strip at h
 simp only [Prod.mk.injEq] at h
 unfold isT
 rw [decide_eq_true_eq, h.1, h.2.1]
 exact ⟨hk, rfl⟩
theorem isT_no {l : List api_Token} {i : Nat} {k : Int} {s s' : List UInt8} {n : Int} (h : strip (tkn l i) = (k, s, n)) (hne : (k ≠ 3 ∧ k ≠ 1) ∨ s ≠ s') : isT (tkn l i) s' = false := by
 unfold strip at h
 simp only [Prod.mk.injEq] at h
 unfold isT
 rw [decide_eq_false_iff_not, h.1, h.2.1]
 rintro ⟨h1, h2⟩
 rcases hne with hne | hne
 · rcases h1 with h1 | h1
   · exact hne.1 h1
   · exact hne.2 h1
 · exact hne h2
end Go.Sy.Ex
namespace Go.Sy.Ex
open Go.Sy
theorem part_6 (k : Nat) (s : expr_reader) : expr_reader_part_f (k + 1) s 6 = (expr_reader_signed (expr_reader_part_f k) s).bind fun r1 => some (api_Expr.mk r1.1.Kind r1.1.N r1.1.Name r1.1.Kids r1.1.At, r1.2) := by
 show expr_reader_part_b (expr_reader_part_f k) k s 6 = _
 unfold expr_reader_part_b
 rw [if_pos rfl]
theorem P6 {t : T} {K : List Tk} {n : Nat} (h : Sg t K n) : P t K n 6 := fun l i o hl hs hi ho _ => by
 obtain ⟨e, Z, Z2, he, hr⟩ := h l i o hl hs hi ho
 refine ⟨e, Z + 1, he, fun k hk => ?_⟩
 obtain ⟨k, rfl⟩ : ∃ j, k = j + 1 := ⟨k - 1, by omega⟩
 rw [part_6, show expr_reader_signed (expr_reader_part_f k) (st l i o) = some (e, st l (i + K.length) o) from lim_eq Z2 fun j hj => hr k (by omega) j hj, bind_some_eq, eta]
theorem Qend {t : T} {K : List Tk} {n : Nat} {m : Int} (h1 : 1 ≤ m) (h : Qp t K n m) : P t K n m := fun l i o hl hs hi ho hv => by
 obtain ⟨e, Z, j, he, hj, hr⟩ := h l i o hl hs hi ho (by omega)
 refine ⟨e, Z + 1, he, fun k hk => ?_⟩
 obtain ⟨k, rfl⟩ : ∃ j, k = j + 1 := ⟨k - 1, by omega⟩
 rw [hr k (by omega)]
 exact loop_end k _ l _ o h1 hi (by omega) e (by omega)
theorem Qdown {t : T} {K : List Tk} {n : Nat} {m : Int} (h1 : 1 ≤ m) (h5 : m ≤ 5) (h : P t K n (m + 1)) : Qp t K n m := fun l i o hl hs hi ho hv => by
 obtain ⟨e, Z, he, hr⟩ := h l i o hl hs hi ho (by omega)
 exact ⟨e, Z + 1, 0, he, by omega, fun k hk => by rw [part_succ k l i o h1 h5 (hr k (by omega)), Nat.sub_zero]⟩
theorem Pdown {t : T} {K : List Tk} {n : Nat} {m : Int} (h1 : 1 ≤ m) (h5 : m ≤ 5) (h : P t K n (m + 1)) : P t K n m := Qend h1 (Qdown h1 h5 h)
theorem par_no {c : Prop} [Decidable c] (h : ¬ c) (K : List Tk) : parT c K = K := if_neg h
theorem par_yes {c : Prop} [Decidable c] (h : c) (K : List Tk) : parT c K = (3, s_lp, 0) :: K ++ [(3, s_rp, 0)] := if_pos h
theorem parN_no {c : Prop} [Decidable c] (h : ¬ c) (n : Nat) : parN c n = n := if_neg h
theorem parN_yes {c : Prop} [Decidable c] (h : c) (n : Nat) : parN c n = n + 1 := if_pos h
theorem slv_of {t : api_Token} {tx : List UInt8} (h : strip t = (3, tx, 0)) : slv t = (sgn tx).2 := by
 unfold strip at h
 simp only [Prod.mk.injEq] at h
 unfold slv
 rw [if_pos h.1, h.2.1]
theorem sgn_txt {k : Int} (h : 7 ≤ k ∧ k ≤ 19) : sgn (txt k) = (k, lvl k) := by
 have hk : k = 7 ∨ k = 8 ∨ k = 9 ∨ k = 10 ∨ k = 11 ∨ k = 12 ∨ k = 13 ∨ k = 14 ∨ k = 15 ∨ k = 16 ∨ k = 17 ∨ k = 18 ∨ k = 19 := by omega
 rcases hk with rfl | rfl | rfl | rfl | rfl | rfl | rfl | rfl | rfl | rfl | rfl | rfl | rfl <;> decide
theorem Qbin {k : Int} {x y : T} {Kx Ky : List Tk} {nx ny : Nat} (hk : 7 ≤ k ∧ k ≤ 19) (h3 : lvl k ≠ 3) (hx : Qp x Kx nx (lvl k)) (hy : P y Ky ny (lvl k + 1)) : Qp (.bin k x y) (Kx ++ (3, txt k, 0) :: Ky) (max nx ny) (lvl k) := fun l i o hl hs hi ho hv => by
 have hr := (btw_in hk.1 hk.2).2
 simp only [List.length_append, List.length_cons] at hi hv ⊢
 obtain ⟨hsx, hio, hop, hsy⟩ := Seq.append.1 hs
 obtain ⟨e, Z, j, he, hj, hr1⟩ := hx l i o hl hsx hio (by omega) (by rw [slv_of hop, sgn_txt hk]; exact Int.le_refl _)
 have hlen : i + Kx.length + 1 + Ky.length = i + (Kx.length + (Ky.length + 1)) := by omega
 obtain ⟨f, Z', hf, hr2⟩ := hy l (i + Kx.length + 1) o hl hsy (by omega) (by omega) (by rw [hlen]; omega)
 refine ⟨api_Expr.mk k 0 [] [e, f] (tkn l (i + Kx.length)).At, max Z Z' + 2, j + 1, ⟨rfl, rfl, rfl, e, f, rfl, he, hf⟩, by omega, fun q hq => ?_⟩
 rw [hr1 q (by omega), show q - j = (q - (j + 1)) + 1 from by omega]
 rw [loop_step q _ l hl _ o hr.1 hr.2 hio hop (sgn_txt hk) e (hr2 q (by omega)), if_neg h3, hlen]
theorem bin3 {k : Int} {x y : T} {Kx Ky : List Tk} {nx ny : Nat} (hk : 7 ≤ k ∧ k ≤ 19) (h3 : lvl k = 3) (hx : P x Kx nx 4) (hy : P y Ky ny 4) (l : List api_Token) (i o : Nat) (hl : l.length ≤ 100000) (hs : Seq l i (Kx ++ (3, txt k, 0) :: Ky)) (hi : i + (Kx ++ (3, txt k, 0) :: Ky).length < l.length) (ho : o + max nx ny ≤ 12) (hv : slv (tkn l (i + (Kx ++ (3, txt k, 0) :: Ky).length)) < 4) :
 ∃ e Z, Is (.bin k x y) e ∧ ∀ q, Z ≤ q → expr_reader_part_f q (st l i o) 3 = some (e, st l (i + (Kx ++ (3, txt k, 0) :: Ky).length) o) := by
 simp only [List.length_append, List.length_cons] at hi hv ⊢
 obtain ⟨hsx, hio, hop, hsy⟩ := Seq.append.1 hs
 obtain ⟨e, Z, he, hr1⟩ := hx l i o hl hsx hio (by omega) (by rw [slv_of hop, sgn_txt hk, h3]; show (3 : Int) < 4; decide)
 have hlen : i + Kx.length + 1 + Ky.length = i + (Kx.length + (Ky.length + 1)) := by omega
 obtain ⟨f, Z', hf, hr2⟩ := hy l (i + Kx.length + 1) o hl hsy (by omega) (by omega) (by rw [hlen]; omega)
 refine ⟨api_Expr.mk k 0 [] [e, f] (tkn l (i + Kx.length)).At, max Z Z' + 2, ⟨rfl, rfl, rfl, e, f, rfl, he, hf⟩, fun q hq => ?_⟩
 obtain ⟨q, rfl⟩ : ∃ j, q = j + 2 := ⟨q - 2, by omega⟩
 rw [part_succ (q + 1) l i o (by decide) (by decide) (hr1 (q + 1) (by omega))]
 rw [loop_step (q + 1) q l hl _ o (by decide) (by decide) hio hop (by rw [sgn_txt hk, h3]) e (hr2 (q + 1) (by omega)), if_pos rfl, hlen]
theorem Pbin3 {k : Int} {x y : T} {Kx Ky : List Tk} {nx ny : Nat} (hk : 7 ≤ k ∧ k ≤ 19) (h3 : lvl k = 3) (hx : P x Kx nx 4) (hy : P y Ky ny 4) : P (.bin k x y) (Kx ++ (3, txt k, 0) :: Ky) (max nx ny) 3 := fun l i o hl hs hi ho hv => bin3 hk h3 hx hy l i o hl hs hi ho (by omega)
theorem is_lit {l : List api_Token} {i o : Nat} (hi : i < l.length) {k : Int} {s : List UInt8} {n : Int} (h : strip (tkn l i) = (k, s, n)) (s' : List UInt8) (b : Bool) (hb : b = decide ((k = 3 ∨ k = 1) ∧ s = s')) : read_Row_Is_1 (st l i o) s' = some (b, st l i o) := by
 rw [is_st hi]
 unfold strip at h
 simp only [Prod.mk.injEq] at h
 unfold isT
 rw [h.1, h.2.1, hb]
theorem take_lit {l : List api_Token} {i o : Nat} (hi : i < l.length) (hl : l.length ≤ 100000) {k : Int} {s : List UInt8} {n : Int} (h : strip (tkn l i) = (k, s, n)) (s' : List UInt8) (b : Bool) (hb : b = decide ((k = 3 ∨ k = 1) ∧ s = s')) : read_Row_Take_1 (st l i o) s' = some (b, if b = true then st l (i + 1) o else st l i o) := by
 rw [take_st hi hl]
 unfold strip at h
 simp only [Prod.mk.injEq] at h
 unfold isT
 rw [h.1, h.2.1, hb]
theorem signed_prim {self : expr_reader → Int → Option (api_Expr × expr_reader)} {l : List api_Token} {i o : Nat} (hi : i < l.length) {k : Int} {s : List UInt8} {n : Int} (h : strip (tkn l i) = (k, s, n)) (h1 : decide ((k = 3 ∨ k = 1) ∧ s = s_minus) = false) (h2 : decide ((k = 3 ∨ k = 1) ∧ s = s_bang) = false) (k2 : Nat) {e : api_Expr} {st' : expr_reader} (hp : expr_reader_prim self (st l i o) = some (e, st')) :
 expr_reader_signed_f self (k2 + 1) (st l i o) = some (e, st') := by
 show expr_reader_signed_b (expr_reader_signed_f self k2) self k2 (st l i o) = _
 unfold expr_reader_signed_b
 rw [look_st hi, bind_some_eq]
 dsimp only
 rw [is_lit hi h s_minus false h1.symm, bind_some_eq]
 dsimp only [cond_false]
 rw [is_lit hi h s_bang false h2.symm, bind_some_eq]
 dsimp only [cond_false]
 rw [hp, bind_some_eq, eta]
theorem kind_of {t : api_Token} {k : Int} {s : List UInt8} {n : Int} (h : strip t = (k, s, n)) : t.Kind = k ∧ t.Text = s ∧ t.N = n := by
 unfold strip at h
 simpa only [Prod.mk.injEq] using h
theorem Sg_num {n : Int} : Sg (.num n) [(2, Lib.itoa n, n)] 0 := fun l i o hl hs hi ho => by
 obtain ⟨h1, h2, -⟩ := hs
 refine ⟨api_Expr.mk 1 n [] [] (tkn l i).At, 0, 1, ⟨rfl, rfl, rfl, rfl⟩, fun k _ k2 hk2 => ?_⟩
 obtain ⟨k2, rfl⟩ : ∃ j, k2 = j + 1 := ⟨k2 - 1, by omega⟩
 refine signed_prim h1 h2 (by rw [decide_eq_false_iff_not]; rintro ⟨h | h, _⟩ <;> cases h) (by rw [decide_eq_false_iff_not]; rintro ⟨h | h, _⟩ <;> cases h) k2 ?_
 unfold expr_reader_prim
 rw [look_st h1, bind_some_eq]
 dsimp only
 rw [if_pos (kind_of h2).1, (kind_of h2).2.2]
 show some (_, (⟨⟨l, w64 (((i : Nat) : Int) + 1), ⟨0, 0⟩⟩, (o : Int)⟩ : expr_reader)) = _
 rw [next_i h1 hl]; rfl
theorem name_ne {s : List UInt8} (h : nameP s = true) {c : UInt8} (hc : lt c = false) (u : List UInt8) : s ≠ c :: u := fun e => by
 have := (name_split h).2.2.2.1
 rw [e] at this
 rw [List.getD_cons_zero] at this
 rw [hc] at this; cases this
theorem Sg_var {s : List UInt8} (h : nameP s = true) : Sg (.var s) [(1, s, 0)] 0 := fun l i o hl hs hi ho => by
 obtain ⟨h1, h2, -⟩ := hs
 refine ⟨api_Expr.mk 2 0 s [] (tkn l i).At, 0, 1, ⟨rfl, rfl, rfl, rfl⟩, fun k _ k2 hk2 => ?_⟩
 obtain ⟨k2, rfl⟩ : ∃ j, k2 = j + 1 := ⟨k2 - 1, by omega⟩
 refine signed_prim h1 h2 (by rw [decide_eq_false_iff_not]; rintro ⟨_, h'⟩; exact name_ne h (by decide) _ h') (by rw [decide_eq_false_iff_not]; rintro ⟨_, h'⟩; exact name_ne h (by decide) _ h') k2 ?_
 unfold expr_reader_prim
 rw [look_st h1, bind_some_eq]
 dsimp only
 rw [if_neg (by rw [(kind_of h2).1]; decide)]
 rw [take_lit h1 hl h2 s_dollar false (by symm; rw [decide_eq_false_iff_not]; rintro ⟨_, h'⟩; exact name_ne h (by decide) _ h'), bind_some_eq]
 dsimp only [cond_false]
 rw [if_neg (by decide), isname_st h1, bind_some_eq]
 dsimp only
 rw [(kind_of h2).1, (kind_of h2).2.1, (name_split h).2.2.1]
 simp only [decide_true, Bool.not_false, Bool.and_true, cond_true]
 rw [name_st h1 hl (kind_of h2).1 (by rw [(kind_of h2).2.1]; exact (name_split h).2.2.1), bind_some_eq, (kind_of h2).2.1]
 rfl
theorem Sg_arg : Sg .arg [(3, s_dollar, 0)] 0 := fun l i o hl hs hi ho => by
 obtain ⟨h1, h2, -⟩ := hs
 refine ⟨api_Expr.mk 3 0 [] [] (tkn l i).At, 0, 1, ⟨rfl, rfl, rfl, rfl⟩, fun k _ k2 hk2 => ?_⟩
 obtain ⟨k2, rfl⟩ : ∃ j, k2 = j + 1 := ⟨k2 - 1, by omega⟩
 refine signed_prim h1 h2 (by decide) (by decide) k2 ?_
 unfold expr_reader_prim
 rw [look_st h1, bind_some_eq]
 dsimp only
 rw [if_neg (by rw [(kind_of h2).1]; decide)]
 rw [take_lit h1 hl h2 s_dollar true (by decide), bind_some_eq]
 rfl
theorem Sg_isin {s : List UInt8} (h : nameP s = true) : Sg (.isin s) [(1, s_in, 0), (3, s_lp, 0), (1, s, 0), (3, s_rp, 0)] 0 := fun l i o hl hs hi ho => by
 obtain ⟨h1, h2, h3, h4, h5, h6, h7, h8, -⟩ := hs
 refine ⟨api_Expr.mk 4 0 s [] (tkn l i).At, 0, 1, ⟨rfl, rfl, rfl, rfl⟩, fun k _ k2 hk2 => ?_⟩
 obtain ⟨k2, rfl⟩ : ∃ j, k2 = j + 1 := ⟨k2 - 1, by omega⟩
 refine signed_prim h1 h2 (by decide) (by decide) k2 ?_
 unfold expr_reader_prim
 rw [look_st h1, bind_some_eq]
 dsimp only
 rw [if_neg (by rw [(kind_of h2).1]; decide)]
 rw [take_lit h1 hl h2 s_dollar false (by decide), bind_some_eq]
 dsimp only [cond_false]
 rw [if_neg (by decide), isname_st h1, bind_some_eq]
 dsimp only
 rw [(kind_of h2).2.1, show (!resP s_in) = false from by decide]
 simp only [Bool.and_false, cond_false]
 rw [take_lit h1 hl h2 s_in true (by decide), bind_some_eq]
 dsimp only [cond_true]
 rw [if_pos rfl, want_st h3 hl (isT_yes h4 (Or.inl rfl)), bind_some_eq]
 rw [name_st h5 hl (kind_of h6).1 (by rw [(kind_of h6).2.1]; exact (name_split h).2.2.1), bind_some_eq, (kind_of h6).2.1]
 dsimp only
 rw [want_st h7 hl (isT_yes h8 (Or.inl rfl)), bind_some_eq]
 rfl
theorem Sg_par {t : T} {K : List Tk} {n : Nat} (h : P t K n 1) : Sg t ((3, s_lp, 0) :: K ++ [(3, s_rp, 0)]) (n + 1) := fun l i o hl hs hi ho => by
 simp only [List.length_append, List.length_cons, List.length_nil] at hi ⊢
 obtain ⟨⟨h1, h2, h3⟩, hr⟩ := Seq.append.1 hs
 obtain ⟨h4, h5, -⟩ := hr
 simp only [List.length_cons] at h4 h5
 have hlen : i + 1 + K.length = i + (K.length + 1) := by omega
 obtain ⟨e, Z, he, hp⟩ := h l (i + 1) (o + 1) hl h3 (by omega) (by omega) (by rw [hlen, slv_of h5]; decide)
 refine ⟨e, Z, 1, he, fun k hk k2 hk2 => ?_⟩
 obtain ⟨k2, rfl⟩ : ∃ j, k2 = j + 1 := ⟨k2 - 1, by omega⟩
 refine signed_prim h1 h2 (by decide) (by decide) k2 ?_
 unfold expr_reader_prim
 rw [look_st h1, bind_some_eq]
 dsimp only
 rw [if_neg (by rw [(kind_of h2).1]; decide)]
 rw [take_lit h1 hl h2 s_dollar false (by decide), bind_some_eq]
 dsimp only [cond_false]
 rw [if_neg (by decide), isname_st h1, bind_some_eq]
 dsimp only
 rw [show decide ((tkn l i).Kind = 1) = false from by rw [(kind_of h2).1]; decide]
 simp only [Bool.false_and, cond_false]
 rw [take_lit h1 hl h2 s_in false (by decide), bind_some_eq]
 dsimp only [cond_false]
 rw [if_neg (by decide), is_lit h1 h2 s_lp true (by decide), bind_some_eq]
 dsimp only [Bool.not_true, cond_false]
 rw [deep_st h1 hl (by omega), bind_some_eq]
 dsimp only [Bool.not_true, cond_false]
 rw [hp k hk, bind_some_eq]
 dsimp only
 rw [hlen, want_st h4 hl (isT_yes h5 (Or.inl rfl)), bind_some_eq, eta]
 show some (e, (⟨⟨l, ((i + (K.length + 1) + 1 : Nat) : Int), ⟨0, 0⟩⟩, w64 (((o + 1 : Nat) : Int) - 1)⟩ : expr_reader)) = _
 rw [show w64 (((o + 1 : Nat) : Int) - 1) = (o : Int) from by rw [w64_in (by omega) (by omega)]; omega]
 rfl
theorem Sg_un {k : Int} {t : T} {K : List Tk} {n : Nat} (hk : k = 5 ∨ k = 6) (h : Sg t K n) : Sg (.un k t) ((3, if k = 5 then s_minus else s_bang, 0) :: K) (n + 1) := fun l i o hl hs hi ho => by
 simp only [List.length_cons] at hi ⊢
 obtain ⟨h1, h2, h3⟩ := hs
 have hlen : i + 1 + K.length = i + (K.length + 1) := by omega
 obtain ⟨e, Z, Z2, he, hr⟩ := h l (i + 1) (o + 1) hl h3 (by omega) (by omega)
 refine ⟨api_Expr.mk k 0 [] [e] (tkn l i).At, Z, Z2 + 1, ⟨rfl, rfl, rfl, e, rfl, he⟩, fun q hq k2 hk2 => ?_⟩
 obtain ⟨k2, rfl⟩ : ∃ j, k2 = j + 1 := ⟨k2 - 1, by omega⟩
 show expr_reader_signed_b (expr_reader_signed_f (expr_reader_part_f q) k2) (expr_reader_part_f q) k2 (st l i o) = _
 unfold expr_reader_signed_b
 rw [look_st h1, bind_some_eq]
 dsimp only
 have hw : w64 (((o + 1 : Nat) : Int) - 1) = (o : Int) := by rw [w64_in (by omega) (by omega)]; omega
 rcases hk with rfl | rfl
 · rw [if_pos rfl] at h2
   rw [is_lit h1 h2 s_minus true (by decide), bind_some_eq]
   dsimp only [cond_true]
   rw [deep_st h1 hl (by omega), bind_some_eq]
   dsimp only [Bool.not_true, cond_false]
   rw [hr q hq k2 (by omega), bind_some_eq, eta, hlen]
   show some (_, (⟨⟨l, ((i + (K.length + 1) : Nat) : Int), ⟨0, 0⟩⟩, w64 (((o + 1 : Nat) : Int) - 1)⟩ : expr_reader)) = _
   rw [hw]; rfl
 · rw [if_neg (by decide)] at h2
   rw [is_lit h1 h2 s_minus false (by decide), bind_some_eq]
   dsimp only [cond_false]
   rw [is_lit h1 h2 s_bang true (by decide), bind_some_eq]
   dsimp only [cond_true]
   rw [deep_st h1 hl (by omega), bind_some_eq]
   dsimp only [Bool.not_true, cond_false]
   rw [hr q hq k2 (by omega), bind_some_eq, eta, hlen]
   show some (_, (⟨⟨l, ((i + (K.length + 1) : Nat) : Int), ⟨0, 0⟩⟩, w64 (((o + 1 : Nat) : Int) - 1)⟩ : expr_reader)) = _
   rw [hw]; rfl
def All (t : T) : Prop := Sg t (toks t 6) (nst t 6) ∧ (∀ m : Int, 1 ≤ m → m ≤ 6 → P t (toks t m) (nst t m) m) ∧ ∀ m : Int, 1 ≤ m → m ≤ 5 → m ≠ 3 → Qp t (toks t m) (nst t m) m
theorem down {t : T} {K : List Tk} {n : Nat} (h6 : P t K n 6) : ∀ (j : Nat) (m : Int), m = 6 - (j : Int) → 1 ≤ m → P t K n m
 | 0, m, hm, _ => by have : m = 6 := by omega
                     subst this; exact h6
 | j + 1, m, hm, hl => Pdown (by omega) (by omega) (down h6 j (m + 1) (by omega) (by omega))
theorem downTo {t : T} {K : List Tk} {n : Nat} {a : Int} (ha : a ≤ 6) (h6 : P t K n a) : ∀ (j : Nat) (m : Int), m = a - (j : Int) → 1 ≤ m → P t K n m
 | 0, m, hm, _ => by have : m = a := by omega
                     subst this; exact h6
 | j + 1, m, hm, hl => Pdown (by omega) (by omega) (downTo ha h6 j (m + 1) (by omega) (by omega))
theorem Sg.at {t : T} {K : List Tk} {n : Nat} (h : Sg t K n) (m : Int) (h1 : 1 ≤ m) (h6 : m ≤ 6) : P t K n m := down (P6 h) (6 - m).toNat m (by omega) h1
theorem All_high {t : T} {K : List Tk} {n : Nat} (hS : Sg t K n) (hs : ∀ m : Int, 1 ≤ m → m ≤ 6 → toks t m = K ∧ nst t m = n) : All t := by
 have hP : ∀ m : Int, 1 ≤ m → m ≤ 6 → P t (toks t m) (nst t m) m := fun m h1 h6 => by rw [(hs m h1 h6).1, (hs m h1 h6).2]; exact hS.at m h1 h6
 refine ⟨?_, hP, fun m h1 h5 _ => ?_⟩
 · rw [(hs 6 (by decide) (by decide)).1, (hs 6 (by decide) (by decide)).2]; exact hS
 · rw [(hs m h1 (by omega)).1, (hs m h1 (by omega)).2]
   exact Qdown h1 h5 (hS.at (m + 1) (by omega) (by omega))
theorem All_bin {k : Int} {x y : T} (hk : 7 ≤ k ∧ k ≤ 19) (hx : All x) (hy : All y) : All (.bin k x y) := by
 have hr := (btw_in hk.1 hk.2).2
 have hb : toks x (lft k) ++ (3, txt k, 0) :: toks y (rgt k) = toks (.bin k x y) 1 ∧ max (nst x (lft k)) (nst y (rgt k)) = nst (.bin k x y) 1 := by
  simp only [toks, nst]; rw [par_no (by omega), parN_no (by omega)]; exact ⟨rfl, rfl⟩
 have hlo : ∀ m : Int, m ≤ lvl k → toks (.bin k x y) m = toks (.bin k x y) 1 ∧ nst (.bin k x y) m = nst (.bin k x y) 1 := fun m hm => by
  simp only [toks, nst]; rw [par_no (by omega), par_no (by omega), parN_no (by omega), parN_no (by omega)]; exact ⟨rfl, rfl⟩
 have hhi : ∀ m : Int, lvl k < m → toks (.bin k x y) m = (3, s_lp, 0) :: toks (.bin k x y) 1 ++ [(3, s_rp, 0)] ∧ nst (.bin k x y) m = nst (.bin k x y) 1 + 1 := fun m hm => by
  simp only [toks, nst]; rw [par_yes (by omega), par_no (by omega), parN_yes (by omega), parN_no (by omega)]; exact ⟨rfl, rfl⟩
 have hQ : lvl k ≠ 3 → Qp (.bin k x y) (toks (.bin k x y) 1) (nst (.bin k x y) 1) (lvl k) := fun h3 => by
  have hlf : lft k = lvl k := by unfold lft; rw [if_neg h3]
  have hrg : rgt k = lvl k + 1 := by unfold rgt; rw [if_neg h3]
  rw [← hb.1, ← hb.2, hlf, hrg]
  exact Qbin hk h3 (hx.2.2 (lvl k) hr.1 hr.2 h3) (hy.2.1 (lvl k + 1) (by omega) (by omega))
 have hP : P (.bin k x y) (toks (.bin k x y) 1) (nst (.bin k x y) 1) (lvl k) := by
  by_cases h3 : lvl k = 3
  · have hlf : lft k = 4 := by unfold lft; rw [if_pos h3]
    have hrg : rgt k = 4 := by unfold rgt; rw [if_pos h3]
    rw [← hb.1, ← hb.2, hlf, hrg, h3]
    exact Pbin3 hk h3 (hx.2.1 4 (by decide) (by decide)) (hy.2.1 4 (by decide) (by decide))
  · exact Qend hr.1 (hQ h3)
 have hS : Sg (.bin k x y) (toks (.bin k x y) 6) (nst (.bin k x y) 6) := by
  rw [(hhi 6 (by omega)).1, (hhi 6 (by omega)).2]
  exact Sg_par (downTo (by omega) hP (lvl k - 1).toNat 1 (by omega) (by decide))
 have hAll : ∀ m : Int, 1 ≤ m → m ≤ 6 → P (.bin k x y) (toks (.bin k x y) m) (nst (.bin k x y) m) m := fun m h1 h6 => by
  by_cases h : m ≤ lvl k
  · rw [(hlo m h).1, (hlo m h).2]
    exact downTo (by omega) hP (lvl k - m).toNat m (by omega) h1
  · rw [(hhi m (by omega)).1, (hhi m (by omega)).2, ← (hhi 6 (by omega)).1, ← (hhi 6 (by omega)).2]
    exact hS.at m h1 h6
 refine ⟨hS, hAll, fun m h1 h5 h3 => ?_⟩
 by_cases h : m = lvl k
 · subst h
   rw [(hlo _ (Int.le_refl _)).1, (hlo _ (Int.le_refl _)).2]
   exact hQ h3
 · have e : toks (.bin k x y) m = toks (.bin k x y) (m + 1) ∧ nst (.bin k x y) m = nst (.bin k x y) (m + 1) := by
    by_cases hm : m < lvl k
    · rw [(hlo m (by omega)).1, (hlo m (by omega)).2, (hlo (m + 1) (by omega)).1, (hlo (m + 1) (by omega)).2]; exact ⟨rfl, rfl⟩
    · rw [(hhi m (by omega)).1, (hhi m (by omega)).2, (hhi (m + 1) (by omega)).1, (hhi (m + 1) (by omega)).2]; exact ⟨rfl, rfl⟩
   rw [e.1, e.2]
   exact Qdown h1 h5 (hAll (m + 1) (by omega) (by omega))
theorem all_T : ∀ t : T, t.ok → All t
 | .num n, h => All_high Sg_num fun m h1 h6 => by simp only [toks, nst]; rw [par_no (by omega), parN_no (by omega)]; exact ⟨rfl, rfl⟩
 | .var s, h => All_high (Sg_var h) fun m h1 h6 => by simp only [toks, nst]; rw [par_no (by omega), parN_no (by omega)]; exact ⟨rfl, rfl⟩
 | .arg, h => All_high Sg_arg fun m h1 h6 => by simp only [toks, nst]; rw [par_no (by omega), parN_no (by omega)]; exact ⟨rfl, rfl⟩
 | .isin s, h => All_high (Sg_isin h) fun m h1 h6 => by simp only [toks, nst]; rw [par_no (by omega), parN_no (by omega)]; exact ⟨rfl, rfl⟩
 | .un k t, h => All_high (Sg_un h.1 (all_T t h.2).1) fun m h1 h6 => by simp only [toks, nst]; rw [par_no (by omega), parN_no (by omega)]; exact ⟨rfl, rfl⟩
 | .bin k x y, h => All_bin h.1 (all_T x h.2.1) (all_T y h.2.2)
theorem all_P {t : T} (h : t.ok) : P t (toks t 1) (nst t 1) 1 := (all_T t h).2.1 1 (by decide) (by decide)
theorem parse_eq {t : T} {K : List Tk} {n : Nat} (h : P t K n 1) (hn : n ≤ 12) {l : List api_Token} (hl : l.length ≤ 100000) (hs : Seq l 0 K) (hlen : l.length = K.length + 1) (hend : (tkn l K.length).Kind ≠ 3) :
 ∃ e, Is t e ∧ expr_Parse l 0 = some (e, (K.length : Int), ⟨0, 0⟩) := by
 obtain ⟨e, Z, he, hr⟩ := h l 0 0 hl hs (by omega) (by omega) (by rw [Nat.zero_add]; unfold slv; rw [if_neg hend]; decide)
 refine ⟨e, he, ?_⟩
 unfold expr_Parse
 rw [show expr_reader_part (expr_reader.mk (read_Row.mk l 0 (api_Fault.mk 0 0)) 0) 1 = some (e, st l (0 + K.length) 0) from lim_eq Z hr, bind_some_eq, ok_st, bind_some_eq]
 dsimp only [Bool.not_true, cond_false]
 rw [eta, Nat.zero_add]
 rfl
end Go.Sy.Ex
