import Derived.Stop.LaidErr
import Derived.Shelf.Vars
import Derived.MakeChecks
import Derived.LaidHandle
import Derived.ChangeSame
import Derived.ChangeVars
import Derived.JoinedOf
import Derived.RowKit
import Derived.HandedShaped
import Derived.LaidMore
import Derived.LaidLaws
import Derived.Lay
import Derived.Test.YtabknfplmamfmaaGreatDoorRows
import Derived.Test.YtabknfplmamfmaaGreatDoorLActReadsa
set_option linter.unusedVariables false
set_option linter.unusedSimpArgs false
set_option maxRecDepth 100000
namespace Go.Sy.Ex
open Go.Sy Go.Proofs
mutual
noncomputable def ref6_skip_l0 : Nat → (List UInt8) → Int → Option Int
 | 0, _, _ => none
 | k + 1, s, i => if i < (s.length : Int) then
  if 0 ≤ i then
  if i < (s.length : Int) then
  if ((s.getD i.toNat 0).toNat : Int) = 32 then
  ref6_skip_l0 k s (w64 (i + 1)) else
  if 0 ≤ i then
  if i < (s.length : Int) then
  if ((s.getD i.toNat 0).toNat : Int) = 9 then
  ref6_skip_l0 k s (w64 (i + 1)) else
  if 0 ≤ i then
  if i < (s.length : Int) then
  if ((s.getD i.toNat 0).toNat : Int) = 10 then
  ref6_skip_l0 k s (w64 (i + 1)) else
  if 0 ≤ i then
  if i < (s.length : Int) then
  if ((s.getD i.toNat 0).toNat : Int) = 13 then
  ref6_skip_l0 k s (w64 (i + 1)) else
  if 0 ≤ i then
  if i < (s.length : Int) then
  if ((s.getD i.toNat 0).toNat : Int) = 35 then
  ref6_skip_l1 k s i else
  some i else none else none else none else none else none else none else none else none else none else none else
  some i
noncomputable def ref6_skip_l1 : Nat → (List UInt8) → Int → Option Int
 | 0, _, _ => none
 | k + 1, s, i => if i < (s.length : Int) then
  if 0 ≤ i then
  if i < (s.length : Int) then
  if ((s.getD i.toNat 0).toNat : Int) ≠ 10 then
  ref6_skip_l1 k s (w64 (i + 1)) else
  ref6_skip_l0 k s i else none else none else
  ref6_skip_l0 k s i
end
noncomputable def ref6_skip_f (k : Nat) (s : List UInt8) (i : Int) : Option Int := ref6_skip_l0 k s i
noncomputable def ref6_skip  (s : List UInt8) (i : Int) : Option Int := lim (fun k (x : List UInt8 × Int) => ref6_skip_f k x.1 x.2) (s, i)
noncomputable abbrev ref6_skip_T : Tab S := ⟨[], [], false, false, none, []⟩
noncomputable def ref6_skip_L (k : Nat) : Nat → List (Lab S Int)
 | 0 => [⟨[0, 1], [.val (.data .str), .val (.data (.int .i64))], fun x => ref6_skip_l0 k x.1 x.2, false⟩]
 | 1 => []
 | 2 => [⟨[0, 1], [.val (.data .str), .val (.data (.int .i64))], fun x => ref6_skip_l1 k x.1 x.2, false⟩]
 | _ + 3 => []
theorem ref6_skip_eq (k : Nat) (s : List UInt8) (i : Int) : ref6_skip_f k s i = exec S (ref6_skip_T) byt (labs S (ref6_skip_T) (ref6_skip_L k)) (ac [] Tryz.f25) (frame0 S [.val (.data .str), .val (.data (.int .i64))] (s, i)) (retK S (ref6_skip_T) Tryz.f25 [.val (.data .str), .val (.data (.int .i64))] [.val (.data (.int .i64))]) := by kernel_rfl
theorem ref6_skip_vc (k : Nat) : VC S (ref6_skip_T) byt (ref6_skip_L k) (ref6_skip_L (k + 1)) (ac [] Tryz.f25) (retK S (ref6_skip_T) Tryz.f25 [.val (.data .str), .val (.data (.int .i64))] [.val (.data (.int .i64))]) = [∀ x : List UInt8 × Int, ref6_skip_l1 (k + 1) x.1 x.2 = ref6_skip_l1 (k + 1) x.1 x.2, ∀ x : List UInt8 × Int, ref6_skip_l0 (k + 1) x.1 x.2 = ref6_skip_l0 (k + 1) x.1 x.2] := by kernel_rfl
theorem ref6_skip_sndk (k : Nat) : Snd Tryz.prog S ⟨25, [.val (.data .str), .val (.data (.int .i64))], [.val (.data (.int .i64))], fun x => ref6_skip_f k x.1 x.2⟩ :=
 fn_ok progOk (T := (ref6_skip_T)) (all_nil) (all_nil) (all_nil) mixed Tryz.func25 rfl (by kernel_rfl) (ac_code [] Tryz.f25 rfl) (L := ref6_skip_L)
  (fun n l h x => by match n, h with
   | 0, h =>
    rcases List.mem_cons.1 h with rfl | h
    · rfl
    cases h
   | 1, h => cases h
   | 2, h =>
    rcases List.mem_cons.1 h with rfl | h
    · rfl
    cases h
   | _ + 3, h => cases h) (fun k n l h => by match n, h with
   | 0, h =>
    rcases List.mem_cons.1 h with rfl | h
    · rfl
    cases h
   | 1, h => cases h
   | 2, h =>
    rcases List.mem_cons.1 h with rfl | h
    · rfl
    cases h
   | _ + 3, h => cases h)
  (fun k => All.mem (ref6_skip_vc k) ⟨fun _ => rfl, ⟨fun _ => rfl, trivial⟩⟩) (fun x r h => ⟨k, (ref6_skip_eq k x.1 x.2).symm.trans h⟩) (by kernel_rfl) (by kernel_rfl) (Nat.le_of_ble_eq_true (by kernel_rfl)) (by kernel_rfl)
theorem ref6_skip_snd : Snd Tryz.prog S ⟨25, [.val (.data .str), .val (.data (.int .i64))], [.val (.data (.int .i64))], fun x => ref6_skip x.1 x.2⟩ := Snd.lim (ref6_skip_sndk)
noncomputable def ref6_letter  (x : Int) : Option Bool := if 97 ≤ x then
 if x ≤ 122 then
 some true else
 if 65 ≤ x then
 if x ≤ 90 then
 some true else
 some (decide (x = 95)) else
 some (decide (x = 95)) else
 if 65 ≤ x then
 if x ≤ 90 then
 some true else
 some (decide (x = 95)) else
 some (decide (x = 95))
noncomputable abbrev ref6_letter_T : Tab S := ⟨[], [], false, false, none, []⟩
theorem ref6_letter_snd : Snd Tryz.prog S ⟨49, [.val (.data (.int .u8))], [.val (.data .bool)], fun x => ref6_letter x⟩ :=
 fn_ok0 progOk (T := (ref6_letter_T)) (all_nil) (all_nil) (all_nil) mixed Tryz.func49 rfl (by kernel_rfl) (ac_code [] Tryz.f49 rfl) (by kernel_rfl) (fun _ => by kernel_rfl) (by kernel_rfl) (by kernel_rfl) (Nat.le_of_ble_eq_true (by kernel_rfl)) (by kernel_rfl)
noncomputable def ref6_digit  (x : Int) : Option Bool := if 48 ≤ x then some (decide (x ≤ 57)) else some false
noncomputable abbrev ref6_digit_T : Tab S := ⟨[], [], false, false, none, []⟩
theorem ref6_digit_snd : Snd Tryz.prog S ⟨50, [.val (.data (.int .u8))], [.val (.data .bool)], fun x => ref6_digit x⟩ :=
 fn_ok0 progOk (T := (ref6_digit_T)) (all_nil) (all_nil) (all_nil) mixed Tryz.func50 rfl (by kernel_rfl) (ac_code [] Tryz.f50 rfl) (by kernel_rfl) (fun _ => by kernel_rfl) (by kernel_rfl) (by kernel_rfl) (Nat.le_of_ble_eq_true (by kernel_rfl)) (by kernel_rfl)
noncomputable def ref6_sign_l1 : Nat → (List UInt8) → Int → (List UInt8) → Int → Option Int
 | 0, _, _, _, _ => none
 | k + 1, s, i, one, k_ => if k_ < (one.length : Int) then
  if 0 ≤ i then
  if i < (s.length : Int) then
  if 0 ≤ k_ then
  if k_ < (one.length : Int) then
  if ((s.getD i.toNat 0).toNat : Int) = ((one.getD k_.toNat 0).toNat : Int) then
  some 1 else
  ref6_sign_l1 k s i one (w64 (k_ + 1)) else none else none else none else none else
  some 0
noncomputable def ref6_sign_l0 : Nat → (List UInt8) → Int → (List UInt8 × List UInt8 × List UInt8 × List UInt8 × List UInt8 × List UInt8 × List UInt8) → Int → Option Int
 | 0, _, _, _, _ => none
 | k + 1, s, i, two, k_ => if k_ < 7 then
  if (w64 (i + 1)) < (s.length : Int) then
  if 0 ≤ (w64 (i + 2)) then
  if (w64 (i + 2)) ≤ (s.length : Int) then
  if 0 ≤ i then
  if i ≤ (w64 (i + 2)) then
  if 0 ≤ k_ then
  if k_ < ([two.1, two.2.1, two.2.2.1, two.2.2.2.1, two.2.2.2.2.1, two.2.2.2.2.2.1, two.2.2.2.2.2.2].length : Int) then
  if (cut s i (w64 (i + 2))) = ([two.1, two.2.1, two.2.2.1, two.2.2.2.1, two.2.2.2.2.1, two.2.2.2.2.2.1, two.2.2.2.2.2.2].getD k_.toNat []) then
  some 2 else
  ref6_sign_l0 k s i two (w64 (k_ + 1)) else none else none else none else none else none else none else
  ref6_sign_l0 k s i two (w64 (k_ + 1)) else
  ref6_sign_l1 k s i s_x5d46a 0
noncomputable def ref6_sign_f (k : Nat) (s : List UInt8) (i : Int) : Option Int := ref6_sign_l0 k s i arr_xb6ce8 0
noncomputable def ref6_sign  (s : List UInt8) (i : Int) : Option Int := lim (fun k (x : List UInt8 × Int) => ref6_sign_f k x.1 x.2) (s, i)
noncomputable abbrev ref6_sign_T : Tab S := ⟨[], [], false, false, none, []⟩
noncomputable def ref6_sign_L (k : Nat) : Nat → List (Lab S Int)
 | 0 => [⟨[0, 1, 5, 6], [.val (.data .str), .val (.data (.int .i64)), .ro (.st 2), .val (.data (.int .i64))], fun x => ref6_sign_l0 k x.1 x.2.1 x.2.2.1 x.2.2.2, false⟩]
 | 1 => []
 | 2 => [⟨[0, 1, 7, 8], [.val (.data .str), .val (.data (.int .i64)), .val (.data .str), .val (.data (.int .i64))], fun x => ref6_sign_l1 k x.1 x.2.1 x.2.2.1 x.2.2.2, false⟩]
 | _ + 3 => []
theorem ref6_sign_eq (k : Nat) (s : List UInt8) (i : Int) : ref6_sign_f k s i = exec S (ref6_sign_T) byt (labs S (ref6_sign_T) (ref6_sign_L k)) (ac [] Tryz.f52) (frame0 S [.val (.data .str), .val (.data (.int .i64))] (s, i)) (retK S (ref6_sign_T) Tryz.f52 [.val (.data .str), .val (.data (.int .i64))] [.val (.data (.int .i64))]) := by kernel_rfl
theorem ref6_sign_vc (k : Nat) : VC S (ref6_sign_T) byt (ref6_sign_L k) (ref6_sign_L (k + 1)) (ac [] Tryz.f52) (retK S (ref6_sign_T) Tryz.f52 [.val (.data .str), .val (.data (.int .i64))] [.val (.data (.int .i64))]) = [∀ x : List UInt8 × Int × (List UInt8 × List UInt8 × List UInt8 × List UInt8 × List UInt8 × List UInt8 × List UInt8) × Int, ref6_sign_l0 (k + 1) x.1 x.2.1 x.2.2.1 x.2.2.2 = ref6_sign_l0 (k + 1) x.1 x.2.1 x.2.2.1 x.2.2.2, ∀ x : List UInt8 × Int × List UInt8 × Int, ref6_sign_l1 (k + 1) x.1 x.2.1 x.2.2.1 x.2.2.2 = ref6_sign_l1 (k + 1) x.1 x.2.1 x.2.2.1 x.2.2.2] := by kernel_rfl
theorem ref6_sign_sndk (k : Nat) : Snd Tryz.prog S ⟨52, [.val (.data .str), .val (.data (.int .i64))], [.val (.data (.int .i64))], fun x => ref6_sign_f k x.1 x.2⟩ :=
 fn_ok progOk (T := (ref6_sign_T)) (all_nil) (all_nil) (all_nil) mixed Tryz.func52 rfl (by kernel_rfl) (ac_code [] Tryz.f52 rfl) (L := ref6_sign_L)
  (fun n l h x => by match n, h with
   | 0, h =>
    rcases List.mem_cons.1 h with rfl | h
    · rfl
    cases h
   | 1, h => cases h
   | 2, h =>
    rcases List.mem_cons.1 h with rfl | h
    · rfl
    cases h
   | _ + 3, h => cases h) (fun k n l h => by match n, h with
   | 0, h =>
    rcases List.mem_cons.1 h with rfl | h
    · rfl
    cases h
   | 1, h => cases h
   | 2, h =>
    rcases List.mem_cons.1 h with rfl | h
    · rfl
    cases h
   | _ + 3, h => cases h)
  (fun k => All.mem (ref6_sign_vc k) ⟨fun _ => rfl, ⟨fun _ => rfl, trivial⟩⟩) (fun x r h => ⟨k, (ref6_sign_eq k x.1 x.2).symm.trans h⟩) (by kernel_rfl) (by kernel_rfl) (Nat.le_of_ble_eq_true (by kernel_rfl)) (by kernel_rfl)
theorem ref6_sign_snd : Snd Tryz.prog S ⟨52, [.val (.data .str), .val (.data (.int .i64))], [.val (.data (.int .i64))], fun x => ref6_sign x.1 x.2⟩ := Snd.lim (ref6_sign_sndk)
noncomputable def ref6_value_l0 : Nat → (List UInt8) → Int → Int → Option (Int × Bool)
 | 0, _, _, _ => none
 | k + 1, s, n, i => if i < (s.length : Int) then
  if 0 ≤ i then
  if i < (s.length : Int) then
  if ¬ (10 : Int) = 0 then
  if (w64 ((w64 (9223372036854775807 - (w64 (wu8 (((s.getD i.toNat 0).toNat : Int) - 48))))).tdiv 10)) < n then
  some (0, false) else
  ref6_value_l0 k s (w64 ((w64 (10 * n)) + (w64 (wu8 (((s.getD i.toNat 0).toNat : Int) - 48))))) (w64 (i + 1)) else none else none else none else
  some (n, true)
noncomputable def ref6_value_f (k : Nat) (s : List UInt8) : Option (Int × Bool) := ref6_value_l0 k s 0 0
noncomputable def ref6_value  (s : List UInt8) : Option (Int × Bool) := lim (fun k (x : List UInt8) => ref6_value_f k x) s
noncomputable abbrev ref6_value_T : Tab S := ⟨[], [], false, false, none, []⟩
noncomputable def ref6_value_L (k : Nat) : Nat → List (Lab S (Int × Bool))
 | 0 => [⟨[0, 4, 5], [.val (.data .str), .val (.data (.int .i64)), .val (.data (.int .i64))], fun x => ref6_value_l0 k x.1 x.2.1 x.2.2, false⟩]
 | _ + 1 => []
theorem ref6_value_eq (k : Nat) (s : List UInt8) : ref6_value_f k s = exec S (ref6_value_T) byt (labs S (ref6_value_T) (ref6_value_L k)) (ac [] Tryz.f51) (frame0 S [.val (.data .str)] s) (retK S (ref6_value_T) Tryz.f51 [.val (.data .str)] [.val (.data (.int .i64)), .val (.data .bool)]) := by kernel_rfl
theorem ref6_value_vc (k : Nat) : VC S (ref6_value_T) byt (ref6_value_L k) (ref6_value_L (k + 1)) (ac [] Tryz.f51) (retK S (ref6_value_T) Tryz.f51 [.val (.data .str)] [.val (.data (.int .i64)), .val (.data .bool)]) = [∀ x : List UInt8 × Int × Int, ref6_value_l0 (k + 1) x.1 x.2.1 x.2.2 = ref6_value_l0 (k + 1) x.1 x.2.1 x.2.2] := by kernel_rfl
theorem ref6_value_sndk (k : Nat) : Snd Tryz.prog S ⟨51, [.val (.data .str)], [.val (.data (.int .i64)), .val (.data .bool)], fun x => ref6_value_f k x⟩ :=
 fn_ok progOk (T := (ref6_value_T)) (all_nil) (all_nil) (all_nil) mixed Tryz.func51 rfl (by kernel_rfl) (ac_code [] Tryz.f51 rfl) (L := ref6_value_L)
  (fun n l h x => by match n, h with
   | 0, h =>
    rcases List.mem_cons.1 h with rfl | h
    · rfl
    cases h
   | _ + 1, h => cases h) (fun k n l h => by match n, h with
   | 0, h =>
    rcases List.mem_cons.1 h with rfl | h
    · rfl
    cases h
   | _ + 1, h => cases h)
  (fun k => All.mem (ref6_value_vc k) ⟨fun _ => rfl, trivial⟩) (fun x r h => ⟨k, (ref6_value_eq k x).symm.trans h⟩) (by kernel_rfl) (by kernel_rfl) (Nat.le_of_ble_eq_true (by kernel_rfl)) (by kernel_rfl)
theorem ref6_value_snd : Snd Tryz.prog S ⟨51, [.val (.data .str)], [.val (.data (.int .i64)), .val (.data .bool)], fun x => ref6_value x⟩ := Snd.lim (ref6_value_sndk)
noncomputable def ref6_one_l0 : Nat → (List UInt8) → Int → Int → Int → Int → (List UInt8) → Int → Int → Int → Int → Int → (List UInt8) → Int → Option (api_Token × Int)
 | 0, _, _, _, _, _, _, _, _, _, _, _, _, _ => none
 | k + 1, s, i, x4_Kind, x4_At, x4_End, x4_Text, x4_N, j, t_Kind, t_At, t_End, t_Text, t_N => if j < (s.length : Int) then
  if 0 ≤ j then
  if j < (s.length : Int) then
  (ref6_letter ((s.getD j.toNat 0).toNat : Int)).bind fun r4 =>
  bif r4 then
  ref6_one_l0 k s i x4_Kind x4_At x4_End x4_Text x4_N (w64 (j + 1)) t_Kind t_At t_End t_Text t_N else
  if 0 ≤ j then
  if j < (s.length : Int) then
  (ref6_digit ((s.getD j.toNat 0).toNat : Int)).bind fun r5 =>
  bif r5 then
  ref6_one_l0 k s i x4_Kind x4_At x4_End x4_Text x4_N (w64 (j + 1)) t_Kind t_At t_End t_Text t_N else
  if 24 < (w64 (j - i)) then
  some (api_Token.mk 0 0 0 [] 0, 13) else
  if 0 ≤ j then
  if j ≤ (s.length : Int) then
  if 0 ≤ i then
  if i ≤ j then
  some (api_Token.mk 1 t_At j (cut s i j) t_N, 0) else none else none else none else none else none else none else none else none else
  if 24 < (w64 (j - i)) then
  some (api_Token.mk 0 0 0 [] 0, 13) else
  if 0 ≤ j then
  if j ≤ (s.length : Int) then
  if 0 ≤ i then
  if i ≤ j then
  some (api_Token.mk 1 t_At j (cut s i j) t_N, 0) else none else none else none else none
noncomputable def ref6_one_l1 : Nat → (List UInt8) → Int → Int → Int → Int → (List UInt8) → Int → Int → Int → Int → Int → (List UInt8) → Int → Option (api_Token × Int)
 | 0, _, _, _, _, _, _, _, _, _, _, _, _, _ => none
 | k + 1, s, i, x4_Kind, x4_At, x4_End, x4_Text, x4_N, j, t_Kind, t_At, t_End, t_Text, t_N => if j < (s.length : Int) then
  if 0 ≤ j then
  if j < (s.length : Int) then
  (ref6_digit ((s.getD j.toNat 0).toNat : Int)).bind fun r6 =>
  bif r6 then
  ref6_one_l1 k s i x4_Kind x4_At x4_End x4_Text x4_N (w64 (j + 1)) t_Kind t_At t_End t_Text t_N else
  if 1 < (w64 (j - i)) then
  if 0 ≤ i then
  if i < (s.length : Int) then
  if ((s.getD i.toNat 0).toNat : Int) = 48 then
  some (api_Token.mk 0 0 0 [] 0, 11) else
  if 0 ≤ j then
  if j ≤ (s.length : Int) then
  if 0 ≤ i then
  if i ≤ j then
  (ref6_value (cut s i j)).bind fun r7 =>
  bif !r7.2 then
  some (api_Token.mk 0 0 0 [] 0, 16) else
  if 0 ≤ j then
  if j ≤ (s.length : Int) then
  if 0 ≤ i then
  if i ≤ j then
  some (api_Token.mk 2 t_At j (cut s i j) r7.1, 0) else none else none else none else none else none else none else none else none else none else none else
  if 0 ≤ j then
  if j ≤ (s.length : Int) then
  if 0 ≤ i then
  if i ≤ j then
  (ref6_value (cut s i j)).bind fun r8 =>
  bif !r8.2 then
  some (api_Token.mk 0 0 0 [] 0, 16) else
  if 0 ≤ j then
  if j ≤ (s.length : Int) then
  if 0 ≤ i then
  if i ≤ j then
  some (api_Token.mk 2 t_At j (cut s i j) r8.1, 0) else none else none else none else none else none else none else none else none else none else none else
  if 1 < (w64 (j - i)) then
  if 0 ≤ i then
  if i < (s.length : Int) then
  if ((s.getD i.toNat 0).toNat : Int) = 48 then
  some (api_Token.mk 0 0 0 [] 0, 11) else
  if 0 ≤ j then
  if j ≤ (s.length : Int) then
  if 0 ≤ i then
  if i ≤ j then
  (ref6_value (cut s i j)).bind fun r9 =>
  bif !r9.2 then
  some (api_Token.mk 0 0 0 [] 0, 16) else
  if 0 ≤ j then
  if j ≤ (s.length : Int) then
  if 0 ≤ i then
  if i ≤ j then
  some (api_Token.mk 2 t_At j (cut s i j) r9.1, 0) else none else none else none else none else none else none else none else none else none else none else
  if 0 ≤ j then
  if j ≤ (s.length : Int) then
  if 0 ≤ i then
  if i ≤ j then
  (ref6_value (cut s i j)).bind fun r10 =>
  bif !r10.2 then
  some (api_Token.mk 0 0 0 [] 0, 16) else
  if 0 ≤ j then
  if j ≤ (s.length : Int) then
  if 0 ≤ i then
  if i ≤ j then
  some (api_Token.mk 2 t_At j (cut s i j) r10.1, 0) else none else none else none else none else none else none else none else none
noncomputable def ref6_one_f (k : Nat) (s : List UInt8) (i : Int) : Option (api_Token × Int) := if 0 ≤ i then
 if i < (s.length : Int) then
 (ref6_letter ((s.getD i.toNat 0).toNat : Int)).bind fun r1 =>
 bif r1 then
 ref6_one_l0 k s i 0 0 0 [] 0 i 0 i 0 [] 0 else
 if 0 ≤ i then
 if i < (s.length : Int) then
 (ref6_digit ((s.getD i.toNat 0).toNat : Int)).bind fun r2 =>
 bif r2 then
 ref6_one_l1 k s i 0 0 0 [] 0 i 0 i 0 [] 0 else
 (ref6_sign s i).bind fun r3 =>
 if r3 = 0 then
 some (api_Token.mk 0 0 0 [] 0, 10) else
 if 0 ≤ (w64 (i + r3)) then
 if (w64 (i + r3)) ≤ (s.length : Int) then
 if 0 ≤ i then
 if i ≤ (w64 (i + r3)) then
 some (api_Token.mk 3 i (w64 (i + r3)) (cut s i (w64 (i + r3))) 0, 0) else none else none else none else none else none else none else none else none
noncomputable def ref6_one  (s : List UInt8) (i : Int) : Option (api_Token × Int) := lim (fun k (x : List UInt8 × Int) => ref6_one_f k x.1 x.2) (s, i)
noncomputable abbrev ref6_one_T : Tab S := ⟨[⟨49, [.val (.data (.int .u8))], [.val (.data .bool)], fun x => ref6_letter x⟩, ⟨50, [.val (.data (.int .u8))], [.val (.data .bool)], fun x => ref6_digit x⟩, ⟨52, [.val (.data .str), .val (.data (.int .i64))], [.val (.data (.int .i64))], fun x => ref6_sign x.1 x.2⟩, ⟨51, [.val (.data .str)], [.val (.data (.int .i64)), .val (.data .bool)], fun x => ref6_value x⟩], [], false, false, none, []⟩
noncomputable def ref6_one_L (k : Nat) : Nat → List (Lab S (api_Token × Int))
 | 0 => [⟨[0, 1, 4, 6, 7], [.val (.data .str), .val (.data (.int .i64)), .obj [.data (.int .i64), .data (.int .i64), .data (.int .i64), .data .str, .data (.int .i64)], .val (.data (.int .i64)), .obj [.data (.int .i64), .data (.int .i64), .data (.int .i64), .data .str, .data (.int .i64)]], fun x => ref6_one_l0 k x.1 x.2.1 x.2.2.1.1 x.2.2.1.2.1 x.2.2.1.2.2.1 x.2.2.1.2.2.2.1 x.2.2.1.2.2.2.2 x.2.2.2.1 x.2.2.2.2.1 x.2.2.2.2.2.1 x.2.2.2.2.2.2.1 x.2.2.2.2.2.2.2.1 x.2.2.2.2.2.2.2.2, false⟩]
 | 1 => []
 | 2 => [⟨[0, 1, 4, 6, 7], [.val (.data .str), .val (.data (.int .i64)), .obj [.data (.int .i64), .data (.int .i64), .data (.int .i64), .data .str, .data (.int .i64)], .val (.data (.int .i64)), .obj [.data (.int .i64), .data (.int .i64), .data (.int .i64), .data .str, .data (.int .i64)]], fun x => ref6_one_l1 k x.1 x.2.1 x.2.2.1.1 x.2.2.1.2.1 x.2.2.1.2.2.1 x.2.2.1.2.2.2.1 x.2.2.1.2.2.2.2 x.2.2.2.1 x.2.2.2.2.1 x.2.2.2.2.2.1 x.2.2.2.2.2.2.1 x.2.2.2.2.2.2.2.1 x.2.2.2.2.2.2.2.2, false⟩]
 | _ + 3 => []
theorem ref6_one_eq (k : Nat) (s : List UInt8) (i : Int) : ref6_one_f k s i = exec S (ref6_one_T) byt (labs S (ref6_one_T) (ref6_one_L k)) (ac [] Tryz.f26) (frame0 S [.val (.data .str), .val (.data (.int .i64))] (s, i)) (retK S (ref6_one_T) Tryz.f26 [.val (.data .str), .val (.data (.int .i64))] [.val (.data (.st 0)), .val (.data (.int .i64))]) := by kernel_rfl
theorem ref6_one_vc (k : Nat) : VC S (ref6_one_T) byt (ref6_one_L k) (ref6_one_L (k + 1)) (ac [] Tryz.f26) (retK S (ref6_one_T) Tryz.f26 [.val (.data .str), .val (.data (.int .i64))] [.val (.data (.st 0)), .val (.data (.int .i64))]) = [∀ x : List UInt8 × Int × (Int × Int × Int × List UInt8 × Int) × Int × (Int × Int × Int × List UInt8 × Int), ref6_one_l0 (k + 1) x.1 x.2.1 x.2.2.1.1 x.2.2.1.2.1 x.2.2.1.2.2.1 x.2.2.1.2.2.2.1 x.2.2.1.2.2.2.2 x.2.2.2.1 x.2.2.2.2.1 x.2.2.2.2.2.1 x.2.2.2.2.2.2.1 x.2.2.2.2.2.2.2.1 x.2.2.2.2.2.2.2.2 = ref6_one_l0 (k + 1) x.1 x.2.1 x.2.2.1.1 x.2.2.1.2.1 x.2.2.1.2.2.1 x.2.2.1.2.2.2.1 x.2.2.1.2.2.2.2 x.2.2.2.1 x.2.2.2.2.1 x.2.2.2.2.2.1 x.2.2.2.2.2.2.1 x.2.2.2.2.2.2.2.1 x.2.2.2.2.2.2.2.2, ∀ x : List UInt8 × Int × (Int × Int × Int × List UInt8 × Int) × Int × (Int × Int × Int × List UInt8 × Int), ref6_one_l1 (k + 1) x.1 x.2.1 x.2.2.1.1 x.2.2.1.2.1 x.2.2.1.2.2.1 x.2.2.1.2.2.2.1 x.2.2.1.2.2.2.2 x.2.2.2.1 x.2.2.2.2.1 x.2.2.2.2.2.1 x.2.2.2.2.2.2.1 x.2.2.2.2.2.2.2.1 x.2.2.2.2.2.2.2.2 = ref6_one_l1 (k + 1) x.1 x.2.1 x.2.2.1.1 x.2.2.1.2.1 x.2.2.1.2.2.1 x.2.2.1.2.2.2.1 x.2.2.1.2.2.2.2 x.2.2.2.1 x.2.2.2.2.1 x.2.2.2.2.2.1 x.2.2.2.2.2.2.1 x.2.2.2.2.2.2.2.1 x.2.2.2.2.2.2.2.2] := by kernel_rfl
theorem ref6_one_sndk (k : Nat) : Snd Tryz.prog S ⟨26, [.val (.data .str), .val (.data (.int .i64))], [.val (.data (.st 0)), .val (.data (.int .i64))], fun x => ref6_one_f k x.1 x.2⟩ :=
 fn_ok progOk (T := (ref6_one_T)) (all_cons ref6_letter_snd (all_cons ref6_digit_snd (all_cons ref6_sign_snd (all_cons ref6_value_snd (all_nil))))) (all_nil) (all_nil) mixed Tryz.func26 rfl (by kernel_rfl) (ac_code [] Tryz.f26 rfl) (L := ref6_one_L)
  (fun n l h x => by match n, h with
   | 0, h =>
    rcases List.mem_cons.1 h with rfl | h
    · rfl
    cases h
   | 1, h => cases h
   | 2, h =>
    rcases List.mem_cons.1 h with rfl | h
    · rfl
    cases h
   | _ + 3, h => cases h) (fun k n l h => by match n, h with
   | 0, h =>
    rcases List.mem_cons.1 h with rfl | h
    · rfl
    cases h
   | 1, h => cases h
   | 2, h =>
    rcases List.mem_cons.1 h with rfl | h
    · rfl
    cases h
   | _ + 3, h => cases h)
  (fun k => All.mem (ref6_one_vc k) ⟨fun _ => rfl, ⟨fun _ => rfl, trivial⟩⟩) (fun x r h => ⟨k, (ref6_one_eq k x.1 x.2).symm.trans h⟩) (by kernel_rfl) (by kernel_rfl) (Nat.le_of_ble_eq_true (by kernel_rfl)) (by kernel_rfl)
theorem ref6_one_snd : Snd Tryz.prog S ⟨26, [.val (.data .str), .val (.data (.int .i64))], [.val (.data (.st 0)), .val (.data (.int .i64))], fun x => ref6_one x.1 x.2⟩ := Snd.lim (ref6_one_sndk)
noncomputable def ref6_All_l0 : Nat → (List UInt8) → Int → Int → (List api_Token) → Int → Option (List api_Token × api_Fault)
 | 0, _, _, _, _, _ => none
 | k + 1, s, x3_Code, x3_At, out, i => if i < (s.length : Int) then
  (ref6_one s i).bind fun r2 =>
  if r2.2 ≠ 0 then
  some ([], api_Fault.mk r2.2 i) else
  if (out.length + [r2.1].length) * 48 ≤ 140737488355328 then
  (ref6_skip s r2.1.End).bind fun r3 =>
  ref6_All_l0 k s x3_Code x3_At (out ++ [r2.1]) r3 else none else
  if (out.length + [api_Token.mk 4 (s.length : Int) (s.length : Int) [] 0].length) * 48 ≤ 140737488355328 then
  some (out ++ [api_Token.mk 4 (s.length : Int) (s.length : Int) [] 0], api_Fault.mk 0 0) else none
noncomputable def ref6_All_f (k : Nat) (s : List UInt8) : Option (List api_Token × api_Fault) := if 16384 < (s.length : Int) then
 some ([], api_Fault.mk 13 16384) else
 (ref6_skip s 0).bind fun r1 =>
 ref6_All_l0 k s 0 0 [] r1
noncomputable def ref6_All  (s : List UInt8) : Option (List api_Token × api_Fault) := lim (fun k (x : List UInt8) => ref6_All_f k x) s
noncomputable abbrev ref6_All_T : Tab S := ⟨[⟨25, [.val (.data .str), .val (.data (.int .i64))], [.val (.data (.int .i64))], fun x => ref6_skip x.1 x.2⟩, ⟨26, [.val (.data .str), .val (.data (.int .i64))], [.val (.data (.st 0)), .val (.data (.int .i64))], fun x => ref6_one x.1 x.2⟩], [], false, false, none, []⟩
noncomputable def ref6_All_L (k : Nat) : Nat → List (Lab S (List api_Token × api_Fault))
 | 0 => [⟨[0, 3, 4, 5], [.val (.data .str), .obj [.data (.int .i64), .data (.int .i64)], .val (.town (.st 0)), .val (.data (.int .i64))], fun x => ref6_All_l0 k x.1 x.2.1.1 x.2.1.2 x.2.2.1 x.2.2.2, false⟩]
 | _ + 1 => []
theorem ref6_All_eq (k : Nat) (s : List UInt8) : ref6_All_f k s = exec S (ref6_All_T) byt (labs S (ref6_All_T) (ref6_All_L k)) (ac [] Tryz.f8) (frame0 S [.val (.data .str)] s) (retK S (ref6_All_T) Tryz.f8 [.val (.data .str)] [.val (.town (.st 0)), .val (.data (.st 1))]) := by kernel_rfl
theorem ref6_All_vc (k : Nat) : VC S (ref6_All_T) byt (ref6_All_L k) (ref6_All_L (k + 1)) (ac [] Tryz.f8) (retK S (ref6_All_T) Tryz.f8 [.val (.data .str)] [.val (.town (.st 0)), .val (.data (.st 1))]) = [∀ x : List UInt8 × (Int × Int) × List api_Token × Int, ref6_All_l0 (k + 1) x.1 x.2.1.1 x.2.1.2 x.2.2.1 x.2.2.2 = ref6_All_l0 (k + 1) x.1 x.2.1.1 x.2.1.2 x.2.2.1 x.2.2.2] := by kernel_rfl
theorem ref6_All_sndk (k : Nat) : Snd Tryz.prog S ⟨8, [.val (.data .str)], [.val (.town (.st 0)), .val (.data (.st 1))], fun x => ref6_All_f k x⟩ :=
 fn_ok progOk (T := (ref6_All_T)) (all_cons ref6_skip_snd (all_cons ref6_one_snd (all_nil))) (all_nil) (all_nil) mixed Tryz.func8 rfl (by kernel_rfl) (ac_code [] Tryz.f8 rfl) (L := ref6_All_L)
  (fun n l h x => by match n, h with
   | 0, h =>
    rcases List.mem_cons.1 h with rfl | h
    · rfl
    cases h
   | _ + 1, h => cases h) (fun k n l h => by match n, h with
   | 0, h =>
    rcases List.mem_cons.1 h with rfl | h
    · rfl
    cases h
   | _ + 1, h => cases h)
  (fun k => All.mem (ref6_All_vc k) ⟨fun _ => rfl, trivial⟩) (fun x r h => ⟨k, (ref6_All_eq k x).symm.trans h⟩) (by kernel_rfl) (by kernel_rfl) (Nat.le_of_ble_eq_true (by kernel_rfl)) (by kernel_rfl)
theorem ref6_All_snd : Snd Tryz.prog S ⟨8, [.val (.data .str)], [.val (.town (.st 0)), .val (.data (.st 1))], fun x => ref6_All x⟩ := Snd.lim (ref6_All_sndk)
mutual
noncomputable def lex_skip_l0 : Nat → (List UInt8) → Int → Option Int
 | 0, _, _ => none
 | k + 1, text, v_at => if v_at < (text.length : Int) then
  if 0 ≤ v_at then
  if v_at < (text.length : Int) then
  (p_IndexByte s_sp_tab_nl_cr ((text.getD v_at.toNat 0).toNat : Int)).bind fun r1 =>
  if 0 ≤ r1 then
  lex_skip_l0 k text (w64 (v_at + 1)) else
  if 0 ≤ v_at then
  if v_at < (text.length : Int) then
  if ((text.getD v_at.toNat 0).toNat : Int) = 35 then
  lex_skip_l1 k text v_at else
  some v_at else none else none else none else none else
  some v_at
noncomputable def lex_skip_l1 : Nat → (List UInt8) → Int → Option Int
 | 0, _, _ => none
 | k + 1, text, v_at => if v_at < (text.length : Int) then
  if 0 ≤ v_at then
  if v_at < (text.length : Int) then
  if ((text.getD v_at.toNat 0).toNat : Int) ≠ 10 then
  lex_skip_l1 k text (w64 (v_at + 1)) else
  lex_skip_l0 k text v_at else none else none else
  lex_skip_l0 k text v_at
end
noncomputable def lex_skip_f (k : Nat) (text : List UInt8) (v_at : Int) : Option Int := lex_skip_l0 k text v_at
noncomputable def lex_skip  (text : List UInt8) (v_at : Int) : Option Int := lim (fun k (x : List UInt8 × Int) => lex_skip_f k x.1 x.2) (text, v_at)
noncomputable abbrev lex_skip_T : Tab S := ⟨[⟨69, [.val (.data .str), .val (.data (.int .u8))], [.val (.data (.int .i64))], fun x => p_IndexByte x.1 x.2⟩], [], false, false, none, []⟩
noncomputable def lex_skip_L (k : Nat) : Nat → List (Lab S Int)
 | 0 => [⟨[0, 1], [.val (.data .str), .val (.data (.int .i64))], fun x => lex_skip_l0 k x.1 x.2, false⟩]
 | 1 => []
 | 2 => [⟨[0, 1], [.val (.data .str), .val (.data (.int .i64))], fun x => lex_skip_l1 k x.1 x.2, false⟩]
 | _ + 3 => []
theorem lex_skip_eq (k : Nat) (text : List UInt8) (v_at : Int) : lex_skip_f k text v_at = exec S (lex_skip_T) byt (labs S (lex_skip_T) (lex_skip_L k)) (ac [] Tryz.f38) (frame0 S [.val (.data .str), .val (.data (.int .i64))] (text, v_at)) (retK S (lex_skip_T) Tryz.f38 [.val (.data .str), .val (.data (.int .i64))] [.val (.data (.int .i64))]) := by kernel_rfl
theorem lex_skip_vc (k : Nat) : VC S (lex_skip_T) byt (lex_skip_L k) (lex_skip_L (k + 1)) (ac [] Tryz.f38) (retK S (lex_skip_T) Tryz.f38 [.val (.data .str), .val (.data (.int .i64))] [.val (.data (.int .i64))]) = [∀ x : List UInt8 × Int, lex_skip_l1 (k + 1) x.1 x.2 = lex_skip_l1 (k + 1) x.1 x.2, ∀ x : List UInt8 × Int, lex_skip_l0 (k + 1) x.1 x.2 = lex_skip_l0 (k + 1) x.1 x.2] := by kernel_rfl
theorem lex_skip_sndk (k : Nat) : Snd Tryz.prog S ⟨38, [.val (.data .str), .val (.data (.int .i64))], [.val (.data (.int .i64))], fun x => lex_skip_f k x.1 x.2⟩ :=
 fn_ok progOk (T := (lex_skip_T)) (all_cons p_IndexByte_snd69 (all_nil)) (all_nil) (all_nil) mixed Tryz.func38 rfl (by kernel_rfl) (ac_code [] Tryz.f38 rfl) (L := lex_skip_L)
  (fun n l h x => by match n, h with
   | 0, h =>
    rcases List.mem_cons.1 h with rfl | h
    · rfl
    cases h
   | 1, h => cases h
   | 2, h =>
    rcases List.mem_cons.1 h with rfl | h
    · rfl
    cases h
   | _ + 3, h => cases h) (fun k n l h => by match n, h with
   | 0, h =>
    rcases List.mem_cons.1 h with rfl | h
    · rfl
    cases h
   | 1, h => cases h
   | 2, h =>
    rcases List.mem_cons.1 h with rfl | h
    · rfl
    cases h
   | _ + 3, h => cases h)
  (fun k => All.mem (lex_skip_vc k) ⟨fun _ => rfl, ⟨fun _ => rfl, trivial⟩⟩) (fun x r h => ⟨k, (lex_skip_eq k x.1 x.2).symm.trans h⟩) (by kernel_rfl) (by kernel_rfl) (Nat.le_of_ble_eq_true (by kernel_rfl)) (by kernel_rfl)
theorem lex_skip_snd : Snd Tryz.prog S ⟨38, [.val (.data .str), .val (.data (.int .i64))], [.val (.data (.int .i64))], fun x => lex_skip x.1 x.2⟩ := Snd.lim (lex_skip_sndk)
noncomputable def lex_kind  (c : Int) : Option (Bool × Bool) := if 48 ≤ c then
 if c ≤ 57 then
 some (true, true) else
 if 97 ≤ c then
 if c ≤ 122 then
 if c ≤ 122 then
 some (true, false) else
 some (false, false) else
 if 65 ≤ c then
 if c ≤ 90 then
 if c ≤ 90 then
 some (true, false) else
 some (false, false) else
 if c = 95 then
 some (true, false) else
 some (false, false) else
 if c = 95 then
 some (true, false) else
 some (false, false) else
 if 65 ≤ c then
 if c ≤ 90 then
 if c ≤ 90 then
 some (true, false) else
 some (false, false) else
 if c = 95 then
 some (true, false) else
 some (false, false) else
 if c = 95 then
 some (true, false) else
 some (false, false) else
 if 97 ≤ c then
 if c ≤ 122 then
 if c ≤ 122 then
 some (true, false) else
 some (false, false) else
 if 65 ≤ c then
 if c ≤ 90 then
 if c ≤ 90 then
 some (true, false) else
 some (false, false) else
 if c = 95 then
 some (true, false) else
 some (false, false) else
 if c = 95 then
 some (true, false) else
 some (false, false) else
 if 65 ≤ c then
 if c ≤ 90 then
 if c ≤ 90 then
 some (true, false) else
 some (false, false) else
 if c = 95 then
 some (true, false) else
 some (false, false) else
 if c = 95 then
 some (true, false) else
 some (false, false)
noncomputable abbrev lex_kind_T : Tab S := ⟨[], [], false, false, none, []⟩
theorem lex_kind_snd : Snd Tryz.prog S ⟨70, [.val (.data (.int .u8))], [.val (.data .bool), .val (.data .bool)], fun x => lex_kind x⟩ :=
 fn_ok0 progOk (T := (lex_kind_T)) (all_nil) (all_nil) (all_nil) mixed Tryz.func70 rfl (by kernel_rfl) (ac_code [] Tryz.f70 rfl) (by kernel_rfl) (fun _ => by kernel_rfl) (by kernel_rfl) (by kernel_rfl) (Nat.le_of_ble_eq_true (by kernel_rfl)) (by kernel_rfl)
noncomputable def lex_end_l0 : Nat → (List UInt8) → Int → Bool → Option Int
 | 0, _, _, _ => none
 | k + 1, text, v_at, number => if v_at < (text.length : Int) then
  if 0 ≤ v_at then
  if v_at < (text.length : Int) then
  (lex_kind ((text.getD v_at.toNat 0).toNat : Int)).bind fun r2 =>
  bif !r2.1 then
  some v_at else
  bif number then
  bif !r2.2 then
  some v_at else
  lex_end_l0 k text (w64 (v_at + 1)) number else
  lex_end_l0 k text (w64 (v_at + 1)) number else none else none else
  some v_at
noncomputable def lex_end_f (k : Nat) (text : List UInt8) (v_at : Int) : Option Int := if 0 ≤ v_at then
 if v_at < (text.length : Int) then
 (lex_kind ((text.getD v_at.toNat 0).toNat : Int)).bind fun r1 =>
 lex_end_l0 k text v_at r1.2 else none else none
noncomputable def lex_end  (text : List UInt8) (v_at : Int) : Option Int := lim (fun k (x : List UInt8 × Int) => lex_end_f k x.1 x.2) (text, v_at)
noncomputable abbrev lex_end_T : Tab S := ⟨[⟨70, [.val (.data (.int .u8))], [.val (.data .bool), .val (.data .bool)], fun x => lex_kind x⟩], [], false, false, none, []⟩
noncomputable def lex_end_L (k : Nat) : Nat → List (Lab S Int)
 | 0 => [⟨[0, 1, 6], [.val (.data .str), .val (.data (.int .i64)), .val (.data .bool)], fun x => lex_end_l0 k x.1 x.2.1 x.2.2, false⟩]
 | _ + 1 => []
theorem lex_end_eq (k : Nat) (text : List UInt8) (v_at : Int) : lex_end_f k text v_at = exec S (lex_end_T) byt (labs S (lex_end_T) (lex_end_L k)) (ac [] Tryz.f71) (frame0 S [.val (.data .str), .val (.data (.int .i64))] (text, v_at)) (retK S (lex_end_T) Tryz.f71 [.val (.data .str), .val (.data (.int .i64))] [.val (.data (.int .i64))]) := by kernel_rfl
theorem lex_end_vc (k : Nat) : VC S (lex_end_T) byt (lex_end_L k) (lex_end_L (k + 1)) (ac [] Tryz.f71) (retK S (lex_end_T) Tryz.f71 [.val (.data .str), .val (.data (.int .i64))] [.val (.data (.int .i64))]) = [∀ x : List UInt8 × Int × Bool, lex_end_l0 (k + 1) x.1 x.2.1 x.2.2 = lex_end_l0 (k + 1) x.1 x.2.1 x.2.2] := by kernel_rfl
theorem lex_end_sndk (k : Nat) : Snd Tryz.prog S ⟨71, [.val (.data .str), .val (.data (.int .i64))], [.val (.data (.int .i64))], fun x => lex_end_f k x.1 x.2⟩ :=
 fn_ok progOk (T := (lex_end_T)) (all_cons lex_kind_snd (all_nil)) (all_nil) (all_nil) mixed Tryz.func71 rfl (by kernel_rfl) (ac_code [] Tryz.f71 rfl) (L := lex_end_L)
  (fun n l h x => by match n, h with
   | 0, h =>
    rcases List.mem_cons.1 h with rfl | h
    · rfl
    cases h
   | _ + 1, h => cases h) (fun k n l h => by match n, h with
   | 0, h =>
    rcases List.mem_cons.1 h with rfl | h
    · rfl
    cases h
   | _ + 1, h => cases h)
  (fun k => All.mem (lex_end_vc k) ⟨fun _ => rfl, trivial⟩) (fun x r h => ⟨k, (lex_end_eq k x.1 x.2).symm.trans h⟩) (by kernel_rfl) (by kernel_rfl) (Nat.le_of_ble_eq_true (by kernel_rfl)) (by kernel_rfl)
theorem lex_end_snd : Snd Tryz.prog S ⟨71, [.val (.data .str), .val (.data (.int .i64))], [.val (.data (.int .i64))], fun x => lex_end x.1 x.2⟩ := Snd.lim (lex_end_sndk)
noncomputable def lex_number  (s : List UInt8) : Option (Int × Int) := if 1 < (s.length : Int) then
 if (0 : Int) ≤ 0 then
 if 0 < (s.length : Int) then
 if ((s.getD (0 : Int).toNat 0).toNat : Int) = 48 then
 some (0, 11) else
 (p_ParseInt s 10 64).bind fun r1 =>
 bif !r1.2 then
 some (0, 16) else
 some (r1.1, 0) else none else none else
 (p_ParseInt s 10 64).bind fun r2 =>
 bif !r2.2 then
 some (0, 16) else
 some (r2.1, 0)
noncomputable abbrev lex_number_T : Tab S := ⟨[⟨99, [.val (.data .str), .val (.data (.int .i64)), .val (.data (.int .i64))], [.val (.data (.int .i64)), .err], fun x => p_ParseInt x.1 x.2.1 x.2.2⟩], [], false, false, none, []⟩
theorem lex_number_snd : Snd Tryz.prog S ⟨72, [.val (.data .str)], [.val (.data (.int .i64)), .val (.data (.int .i64))], fun x => lex_number x⟩ :=
 fn_ok0 progOk (T := (lex_number_T)) (all_cons p_ParseInt_snd99 (all_nil)) (all_nil) (all_nil) mixed Tryz.func72 rfl (by kernel_rfl) (ac_code [] Tryz.f72 rfl) (by kernel_rfl) (fun _ => by kernel_rfl) (by kernel_rfl) (by kernel_rfl) (Nat.le_of_ble_eq_true (by kernel_rfl)) (by kernel_rfl)
noncomputable def lex_sign  (text : List UInt8) (v_at : Int) : Option Int := if (w64 (v_at + 1)) < (text.length : Int) then
 if 0 ≤ (w64 (v_at + 1)) then
 if (w64 (v_at + 1)) < (text.length : Int) then
 if ((text.getD (w64 (v_at + 1)).toNat 0).toNat : Int) ≠ 32 then
 if 0 ≤ (w64 (v_at + 2)) then
 if (w64 (v_at + 2)) ≤ (text.length : Int) then
 if 0 ≤ v_at then
 if v_at ≤ (w64 (v_at + 2)) then
 (p_Contains s_xe6575 (cut text v_at (w64 (v_at + 2)))).bind fun r1 =>
 bif r1 then
 some (w64 (v_at + 2)) else
 if 0 ≤ v_at then
 if v_at < (text.length : Int) then
 (p_IndexByte s_x5d46a ((text.getD v_at.toNat 0).toNat : Int)).bind fun r2 =>
 if 0 ≤ r2 then
 some (w64 (v_at + 1)) else
 some v_at else none else none else none else none else none else none else
 if 0 ≤ v_at then
 if v_at < (text.length : Int) then
 (p_IndexByte s_x5d46a ((text.getD v_at.toNat 0).toNat : Int)).bind fun r3 =>
 if 0 ≤ r3 then
 some (w64 (v_at + 1)) else
 some v_at else none else none else none else none else
 if 0 ≤ v_at then
 if v_at < (text.length : Int) then
 (p_IndexByte s_x5d46a ((text.getD v_at.toNat 0).toNat : Int)).bind fun r4 =>
 if 0 ≤ r4 then
 some (w64 (v_at + 1)) else
 some v_at else none else none
noncomputable abbrev lex_sign_T : Tab S := ⟨[⟨100, [.val (.data .str), .val (.data .str)], [.val (.data .bool)], fun x => p_Contains x.1 x.2⟩, ⟨69, [.val (.data .str), .val (.data (.int .u8))], [.val (.data (.int .i64))], fun x => p_IndexByte x.1 x.2⟩], [], false, false, none, []⟩
theorem lex_sign_snd : Snd Tryz.prog S ⟨73, [.val (.data .str), .val (.data (.int .i64))], [.val (.data (.int .i64))], fun x => lex_sign x.1 x.2⟩ :=
 fn_ok0 progOk (T := (lex_sign_T)) (all_cons p_Contains_snd100 (all_cons p_IndexByte_snd69 (all_nil))) (all_nil) (all_nil) mixed Tryz.func73 rfl (by kernel_rfl) (ac_code [] Tryz.f73 rfl) (by kernel_rfl) (fun _ => by kernel_rfl) (by kernel_rfl) (by kernel_rfl) (Nat.le_of_ble_eq_true (by kernel_rfl)) (by kernel_rfl)
noncomputable def lex_token  (text : List UInt8) (v_at : Int) : Option (api_Token × Int) := if 0 ≤ v_at then
 if v_at < (text.length : Int) then
 (lex_kind ((text.getD v_at.toNat 0).toNat : Int)).bind fun r1 =>
 bif r1.2 then
 (lex_end text v_at).bind fun r2 =>
 if 0 ≤ r2 then
 if r2 ≤ (text.length : Int) then
 if 0 ≤ v_at then
 if v_at ≤ r2 then
 (lex_number (cut text v_at r2)).bind fun r3 =>
 if r3.2 ≠ 0 then
 some (api_Token.mk 0 0 0 [] 0, r3.2) else
 if 0 ≤ r2 then
 if r2 ≤ (text.length : Int) then
 if 0 ≤ v_at then
 if v_at ≤ r2 then
 some (api_Token.mk 2 v_at r2 (cut text v_at r2) r3.1, 0) else none else none else none else none else none else none else none else none else
 bif r1.1 then
 (lex_end text v_at).bind fun r4 =>
 if 24 < (w64 (r4 - v_at)) then
 some (api_Token.mk 0 0 0 [] 0, 13) else
 if 0 ≤ r4 then
 if r4 ≤ (text.length : Int) then
 if 0 ≤ v_at then
 if v_at ≤ r4 then
 some (api_Token.mk 1 v_at r4 (cut text v_at r4) 0, 0) else none else none else none else none else
 (lex_sign text v_at).bind fun r5 =>
 if r5 = v_at then
 some (api_Token.mk 0 0 0 [] 0, 10) else
 if 0 ≤ r5 then
 if r5 ≤ (text.length : Int) then
 if 0 ≤ v_at then
 if v_at ≤ r5 then
 some (api_Token.mk 3 v_at r5 (cut text v_at r5) 0, 0) else none else none else none else none else none else none
noncomputable abbrev lex_token_T : Tab S := ⟨[⟨70, [.val (.data (.int .u8))], [.val (.data .bool), .val (.data .bool)], fun x => lex_kind x⟩, ⟨71, [.val (.data .str), .val (.data (.int .i64))], [.val (.data (.int .i64))], fun x => lex_end x.1 x.2⟩, ⟨72, [.val (.data .str)], [.val (.data (.int .i64)), .val (.data (.int .i64))], fun x => lex_number x⟩, ⟨73, [.val (.data .str), .val (.data (.int .i64))], [.val (.data (.int .i64))], fun x => lex_sign x.1 x.2⟩], [], false, false, none, []⟩
theorem lex_token_snd : Snd Tryz.prog S ⟨39, [.val (.data .str), .val (.data (.int .i64))], [.val (.data (.st 0)), .val (.data (.int .i64))], fun x => lex_token x.1 x.2⟩ :=
 fn_ok0 progOk (T := (lex_token_T)) (all_cons lex_kind_snd (all_cons lex_end_snd (all_cons lex_number_snd (all_cons lex_sign_snd (all_nil))))) (all_nil) (all_nil) mixed Tryz.func39 rfl (by kernel_rfl) (ac_code [] Tryz.f39 rfl) (by kernel_rfl) (fun _ => by kernel_rfl) (by kernel_rfl) (by kernel_rfl) (Nat.le_of_ble_eq_true (by kernel_rfl)) (by kernel_rfl)
noncomputable def lex_All_l0 : Nat → (List UInt8) → Int → Int → (List api_Token) → Int → Option (List api_Token × api_Fault)
 | 0, _, _, _, _, _ => none
 | k + 1, text, x3_Code, x3_At, l, v_at => if v_at < (text.length : Int) then
  (lex_token text v_at).bind fun r2 =>
  if r2.2 ≠ 0 then
  some ([], api_Fault.mk r2.2 v_at) else
  if (l.length + [r2.1].length) * 48 ≤ 140737488355328 then
  (lex_skip text r2.1.End).bind fun r3 =>
  lex_All_l0 k text x3_Code x3_At (l ++ [r2.1]) r3 else none else
  if (l.length + [api_Token.mk 4 v_at v_at [] 0].length) * 48 ≤ 140737488355328 then
  some (l ++ [api_Token.mk 4 v_at v_at [] 0], api_Fault.mk 0 0) else none
noncomputable def lex_All_f (k : Nat) (text : List UInt8) : Option (List api_Token × api_Fault) := if 16384 < (text.length : Int) then
 some ([], api_Fault.mk 13 16384) else
 (lex_skip text 0).bind fun r1 =>
 lex_All_l0 k text 0 0 [] r1
noncomputable def lex_All  (text : List UInt8) : Option (List api_Token × api_Fault) := lim (fun k (x : List UInt8) => lex_All_f k x) text
noncomputable abbrev lex_All_T : Tab S := ⟨[⟨38, [.val (.data .str), .val (.data (.int .i64))], [.val (.data (.int .i64))], fun x => lex_skip x.1 x.2⟩, ⟨39, [.val (.data .str), .val (.data (.int .i64))], [.val (.data (.st 0)), .val (.data (.int .i64))], fun x => lex_token x.1 x.2⟩], [], false, false, none, []⟩
noncomputable def lex_All_L (k : Nat) : Nat → List (Lab S (List api_Token × api_Fault))
 | 0 => [⟨[0, 3, 4, 5], [.val (.data .str), .obj [.data (.int .i64), .data (.int .i64)], .val (.town (.st 0)), .val (.data (.int .i64))], fun x => lex_All_l0 k x.1 x.2.1.1 x.2.1.2 x.2.2.1 x.2.2.2, false⟩]
 | _ + 1 => []
theorem lex_All_eq (k : Nat) (text : List UInt8) : lex_All_f k text = exec S (lex_All_T) byt (labs S (lex_All_T) (lex_All_L k)) (ac [] Tryz.f18) (frame0 S [.val (.data .str)] text) (retK S (lex_All_T) Tryz.f18 [.val (.data .str)] [.val (.town (.st 0)), .val (.data (.st 1))]) := by kernel_rfl
theorem lex_All_vc (k : Nat) : VC S (lex_All_T) byt (lex_All_L k) (lex_All_L (k + 1)) (ac [] Tryz.f18) (retK S (lex_All_T) Tryz.f18 [.val (.data .str)] [.val (.town (.st 0)), .val (.data (.st 1))]) = [∀ x : List UInt8 × (Int × Int) × List api_Token × Int, lex_All_l0 (k + 1) x.1 x.2.1.1 x.2.1.2 x.2.2.1 x.2.2.2 = lex_All_l0 (k + 1) x.1 x.2.1.1 x.2.1.2 x.2.2.1 x.2.2.2] := by kernel_rfl
theorem lex_All_sndk (k : Nat) : Snd Tryz.prog S ⟨18, [.val (.data .str)], [.val (.town (.st 0)), .val (.data (.st 1))], fun x => lex_All_f k x⟩ :=
 fn_ok progOk (T := (lex_All_T)) (all_cons lex_skip_snd (all_cons lex_token_snd (all_nil))) (all_nil) (all_nil) mixed Tryz.func18 rfl (by kernel_rfl) (ac_code [] Tryz.f18 rfl) (L := lex_All_L)
  (fun n l h x => by match n, h with
   | 0, h =>
    rcases List.mem_cons.1 h with rfl | h
    · rfl
    cases h
   | _ + 1, h => cases h) (fun k n l h => by match n, h with
   | 0, h =>
    rcases List.mem_cons.1 h with rfl | h
    · rfl
    cases h
   | _ + 1, h => cases h)
  (fun k => All.mem (lex_All_vc k) ⟨fun _ => rfl, trivial⟩) (fun x r h => ⟨k, (lex_All_eq k x).symm.trans h⟩) (by kernel_rfl) (by kernel_rfl) (Nat.le_of_ble_eq_true (by kernel_rfl)) (by kernel_rfl)
theorem lex_All_snd : Snd Tryz.prog S ⟨18, [.val (.data .str)], [.val (.town (.st 0)), .val (.data (.st 1))], fun x => lex_All x⟩ := Snd.lim (lex_All_sndk)
noncomputable def read_Row_OK  (r_ : act_reader) : Option (Bool × act_reader) := some (decide (r_.Row.Fault.Code = 0), r_)
noncomputable abbrev read_Row_OK_T : Tab S := ⟨[], [], false, false, none, []⟩
theorem read_Row_OK_snd : Snd Tryz.prog S ⟨28, [.obj [.data (.st 6)]], [.val (.data .bool)], fun x => read_Row_OK x⟩ :=
 fn_ok0 progOk (T := (read_Row_OK_T)) (all_nil) (all_nil) (all_nil) mixed Tryz.func28 rfl (by kernel_rfl) (ac_code [] Tryz.f28 rfl) (by kernel_rfl) (fun _ => by kernel_rfl) (by kernel_rfl) (by kernel_rfl) (Nat.le_of_ble_eq_true (by kernel_rfl)) (by kernel_rfl)
noncomputable def read_Row_Look  (r_ : act_reader) : Option (api_Token × act_reader) := (read_Row_OK r_).bind fun r1 =>
 bif !r1.1 then
 some (api_Token.mk 4 0 0 [] 0, r1.2) else
 if r1.2.Row.At < 0 then
 some (api_Token.mk 4 0 0 [] 0, r1.2) else
 if (r1.2.Row.L.length : Int) ≤ r1.2.Row.At then
 some (api_Token.mk 4 0 0 [] 0, r1.2) else
 if 0 ≤ r1.2.Row.At then
 if r1.2.Row.At < (r1.2.Row.L.length : Int) then
 some (r1.2.Row.L.getD r1.2.Row.At.toNat api_Token.z, r1.2) else none else none
noncomputable abbrev read_Row_Look_T : Tab S := ⟨[⟨28, [.obj [.data (.st 6)]], [.val (.data .bool)], fun x => read_Row_OK x⟩], [], false, false, none, []⟩
theorem read_Row_Look_snd : Snd Tryz.prog S ⟨55, [.obj [.data (.st 6)]], [.val (.data (.st 0))], fun x => read_Row_Look x⟩ :=
 fn_ok0 progOk (T := (read_Row_Look_T)) (all_cons read_Row_OK_snd (all_nil)) (all_nil) (all_nil) mixed Tryz.func55 rfl (by kernel_rfl) (ac_code [] Tryz.f55 rfl) (by kernel_rfl) (fun _ => by kernel_rfl) (by kernel_rfl) (by kernel_rfl) (Nat.le_of_ble_eq_true (by kernel_rfl)) (by kernel_rfl)
noncomputable def read_Row_Is  (r_ : act_reader) (s : List UInt8) : Option (Bool × act_reader) := (read_Row_Look r_).bind fun r1 =>
 if r1.1.Kind = 3 then
 some (decide (r1.1.Text = s), r1.2) else
 if r1.1.Kind = 1 then
 some (decide (r1.1.Text = s), r1.2) else
 some (false, r1.2)
noncomputable abbrev read_Row_Is_T : Tab S := ⟨[⟨55, [.obj [.data (.st 6)]], [.val (.data (.st 0))], fun x => read_Row_Look x⟩], [], false, false, none, []⟩
theorem read_Row_Is_snd : Snd Tryz.prog S ⟨53, [.obj [.data (.st 6)], .val (.data .str)], [.val (.data .bool)], fun x => read_Row_Is x.1 x.2⟩ :=
 fn_ok0 progOk (T := (read_Row_Is_T)) (all_cons read_Row_Look_snd (all_nil)) (all_nil) (all_nil) mixed Tryz.func53 rfl (by kernel_rfl) (ac_code [] Tryz.f53 rfl) (by kernel_rfl) (fun _ => by kernel_rfl) (by kernel_rfl) (by kernel_rfl) (Nat.le_of_ble_eq_true (by kernel_rfl)) (by kernel_rfl)
noncomputable def read_Row_Fail  (r_ : act_reader) (code : Int) (v_at : Int) : Option act_reader := (read_Row_OK r_).bind fun r1 =>
 bif r1.1 then
 some (act_reader.mk (read_Row.mk r1.2.Row.L r1.2.Row.At (api_Fault.mk code v_at)) r1.2.v_open) else
 some r1.2
noncomputable abbrev read_Row_Fail_T : Tab S := ⟨[⟨28, [.obj [.data (.st 6)]], [.val (.data .bool)], fun x => read_Row_OK x⟩], [], false, false, none, []⟩
theorem read_Row_Fail_snd : Snd Tryz.prog S ⟨54, [.obj [.data (.st 6)], .val (.data (.int .i64)), .val (.data (.int .i64))], [], fun x => read_Row_Fail x.1 x.2.1 x.2.2⟩ :=
 fn_ok0 progOk (T := (read_Row_Fail_T)) (all_cons read_Row_OK_snd (all_nil)) (all_nil) (all_nil) mixed Tryz.func54 rfl (by kernel_rfl) (ac_code [] Tryz.f54 rfl) (by kernel_rfl) (fun _ => by kernel_rfl) (by kernel_rfl) (by kernel_rfl) (Nat.le_of_ble_eq_true (by kernel_rfl)) (by kernel_rfl)
noncomputable def read_Row_Take  (r_ : act_reader) (s : List UInt8) : Option (Bool × act_reader) := (read_Row_Is r_ s).bind fun r1 =>
 bif r1.1 then
 some (r1.1, act_reader.mk (read_Row.mk r1.2.Row.L (w64 (r1.2.Row.At + 1)) r1.2.Row.Fault) r1.2.v_open) else
 some (r1.1, r1.2)
noncomputable abbrev read_Row_Take_T : Tab S := ⟨[⟨53, [.obj [.data (.st 6)], .val (.data .str)], [.val (.data .bool)], fun x => read_Row_Is x.1 x.2⟩], [], false, false, none, []⟩
theorem read_Row_Take_snd : Snd Tryz.prog S ⟨57, [.obj [.data (.st 6)], .val (.data .str)], [.val (.data .bool)], fun x => read_Row_Take x.1 x.2⟩ :=
 fn_ok0 progOk (T := (read_Row_Take_T)) (all_cons read_Row_Is_snd (all_nil)) (all_nil) (all_nil) mixed Tryz.func57 rfl (by kernel_rfl) (ac_code [] Tryz.f57 rfl) (by kernel_rfl) (fun _ => by kernel_rfl) (by kernel_rfl) (by kernel_rfl) (Nat.le_of_ble_eq_true (by kernel_rfl)) (by kernel_rfl)
noncomputable def read_Row_Wrong  (r_ : act_reader) : Option act_reader := (read_Row_Look r_).bind fun r1 =>
 if r1.1.Kind = 4 then
 (read_Row_Fail r1.2 12 r1.1.At).bind fun r2 =>
 some r2 else
 (read_Row_Fail r1.2 11 r1.1.At).bind fun r3 =>
 some r3
noncomputable abbrev read_Row_Wrong_T : Tab S := ⟨[⟨55, [.obj [.data (.st 6)]], [.val (.data (.st 0))], fun x => read_Row_Look x⟩, ⟨54, [.obj [.data (.st 6)], .val (.data (.int .i64)), .val (.data (.int .i64))], [], fun x => read_Row_Fail x.1 x.2.1 x.2.2⟩], [], false, false, none, []⟩
theorem read_Row_Wrong_snd : Snd Tryz.prog S ⟨83, [.obj [.data (.st 6)]], [], fun x => read_Row_Wrong x⟩ :=
 fn_ok0 progOk (T := (read_Row_Wrong_T)) (all_cons read_Row_Look_snd (all_cons read_Row_Fail_snd (all_nil))) (all_nil) (all_nil) mixed Tryz.func83 rfl (by kernel_rfl) (ac_code [] Tryz.f83 rfl) (by kernel_rfl) (fun _ => by kernel_rfl) (by kernel_rfl) (by kernel_rfl) (Nat.le_of_ble_eq_true (by kernel_rfl)) (by kernel_rfl)
noncomputable def read_Row_Want  (r_ : act_reader) (s : List UInt8) : Option act_reader := (read_Row_Take r_ s).bind fun r1 =>
 bif !r1.1 then
 (read_Row_Wrong r1.2).bind fun r2 =>
 some r2 else
 some r1.2
noncomputable abbrev read_Row_Want_T : Tab S := ⟨[⟨57, [.obj [.data (.st 6)], .val (.data .str)], [.val (.data .bool)], fun x => read_Row_Take x.1 x.2⟩, ⟨83, [.obj [.data (.st 6)]], [], fun x => read_Row_Wrong x⟩], [], false, false, none, []⟩
theorem read_Row_Want_snd : Snd Tryz.prog S ⟨56, [.obj [.data (.st 6)], .val (.data .str)], [], fun x => read_Row_Want x.1 x.2⟩ :=
 fn_ok0 progOk (T := (read_Row_Want_T)) (all_cons read_Row_Take_snd (all_cons read_Row_Wrong_snd (all_nil))) (all_nil) (all_nil) mixed Tryz.func56 rfl (by kernel_rfl) (ac_code [] Tryz.f56 rfl) (by kernel_rfl) (fun _ => by kernel_rfl) (by kernel_rfl) (by kernel_rfl) (Nat.le_of_ble_eq_true (by kernel_rfl)) (by kernel_rfl)
noncomputable def lex_Reserved  (s : List UInt8) : Option Bool := if s = s_system then
 if s = s_system then
 some true else
 some false else
 if s = s_age then
 if s = s_age then
 some true else
 some false else
 if s = s_chart then
 if s = s_chart then
 some true else
 some false else
 if s = s_steps then
 if s = s_steps then
 some true else
 some false else
 if s = s_fuel then
 if s = s_fuel then
 some true else
 some false else
 if s = s_var then
 if s = s_var then
 some true else
 some false else
 if s = s_port then
 if s = s_port then
 some true else
 some false else
 if s = s_timer then
 if s = s_timer then
 some true else
 some false else
 if s = s_state then
 if s = s_state then
 some true else
 some false else
 if s = s_parallel then
 if s = s_parallel then
 some true else
 some false else
 if s = s_history then
 if s = s_history then
 some true else
 some false else
 if s = s_deep then
 if s = s_deep then
 some true else
 some false else
 if s = s_entry then
 if s = s_entry then
 some true else
 some false else
 if s = s_exit then
 if s = s_exit then
 some true else
 some false else
 if s = s_on then
 if s = s_on then
 some true else
 some false else
 if s = s_auto then
 if s = s_auto then
 some true else
 some false else
 if s = s_raise then
 if s = s_raise then
 some true else
 some false else
 if s = s_send then
 if s = s_send then
 some true else
 some false else
 if s = s_arm then
 if s = s_arm then
 some true else
 some false else
 if s = s_cancel then
 if s = s_cancel then
 some true else
 some false else
 if s = s_if then
 if s = s_if then
 some true else
 some false else
 if s = s_else then
 if s = s_else then
 some true else
 some false else
 if s = s_loop then
 if s = s_loop then
 some true else
 some false else
 if s = s_in then
 if s = s_in then
 some true else
 some false else
 if s = s_inst then
 if s = s_inst then
 some true else
 some false else
 if s = s_quantum then
 if s = s_quantum then
 some true else
 some false else
 if s = s_ext then
 if s = s_ext then
 some true else
 some false else
 if s = s_prio then
 if s = s_prio then
 some true else
 some false else
 if s = s_chan then
 if s = s_chan then
 some true else
 some false else
 if s = s_cap then
 if s = s_cap then
 some true else
 some false else
 if s = s_cert then
 if s = s_cert then
 some true else
 some false else
 if s = s_insts then
 if s = s_insts then
 some true else
 some false else
 if s = s_chans then
 if s = s_chans then
 some true else
 some false else
 if s = s_cell then
 if s = s_cell then
 some true else
 some false else
 if s = s_off then
 some true else
 some false
noncomputable abbrev lex_Reserved_T : Tab S := ⟨[], [], false, false, none, []⟩
theorem lex_Reserved_snd : Snd Tryz.prog S ⟨113, [.val (.data .str)], [.val (.data .bool)], fun x => lex_Reserved x⟩ :=
 fn_ok0 progOk (T := (lex_Reserved_T)) (all_nil) (all_nil) (all_nil) mixed Tryz.func113 rfl (by kernel_rfl) (ac_code [] Tryz.f113 rfl) (by kernel_rfl) (fun _ => by kernel_rfl) (by kernel_rfl) (by kernel_rfl) (Nat.le_of_ble_eq_true (by kernel_rfl)) (by kernel_rfl)
noncomputable def read_Row_IsName  (r_ : act_reader) : Option (Bool × act_reader) := (read_Row_Look r_).bind fun r1 =>
 if r1.1.Kind = 1 then
 (lex_Reserved r1.1.Text).bind fun r2 =>
 some (!r2, r1.2) else
 some (false, r1.2)
noncomputable abbrev read_Row_IsName_T : Tab S := ⟨[⟨55, [.obj [.data (.st 6)]], [.val (.data (.st 0))], fun x => read_Row_Look x⟩, ⟨113, [.val (.data .str)], [.val (.data .bool)], fun x => lex_Reserved x⟩], [], false, false, none, []⟩
theorem read_Row_IsName_snd : Snd Tryz.prog S ⟨84, [.obj [.data (.st 6)]], [.val (.data .bool)], fun x => read_Row_IsName x⟩ :=
 fn_ok0 progOk (T := (read_Row_IsName_T)) (all_cons read_Row_Look_snd (all_cons lex_Reserved_snd (all_nil))) (all_nil) (all_nil) mixed Tryz.func84 rfl (by kernel_rfl) (ac_code [] Tryz.f84 rfl) (by kernel_rfl) (fun _ => by kernel_rfl) (by kernel_rfl) (by kernel_rfl) (Nat.le_of_ble_eq_true (by kernel_rfl)) (by kernel_rfl)
noncomputable def read_Row_Name  (r_ : act_reader) : Option (List UInt8 × act_reader) := (read_Row_IsName r_).bind fun r1 =>
 bif !r1.1 then
 (read_Row_Wrong r1.2).bind fun r2 =>
 some ([], r2) else
 if 0 ≤ (w64 ((w64 (r1.2.Row.At + 1)) - 1)) then
 if (w64 ((w64 (r1.2.Row.At + 1)) - 1)) < (r1.2.Row.L.length : Int) then
 some ((r1.2.Row.L.getD (w64 ((w64 (r1.2.Row.At + 1)) - 1)).toNat api_Token.z).Text, act_reader.mk (read_Row.mk r1.2.Row.L (w64 (r1.2.Row.At + 1)) r1.2.Row.Fault) r1.2.v_open) else none else none
noncomputable abbrev read_Row_Name_T : Tab S := ⟨[⟨84, [.obj [.data (.st 6)]], [.val (.data .bool)], fun x => read_Row_IsName x⟩, ⟨83, [.obj [.data (.st 6)]], [], fun x => read_Row_Wrong x⟩], [], false, false, none, []⟩
theorem read_Row_Name_snd : Snd Tryz.prog S ⟨85, [.obj [.data (.st 6)]], [.val (.data .str)], fun x => read_Row_Name x⟩ :=
 fn_ok0 progOk (T := (read_Row_Name_T)) (all_cons read_Row_IsName_snd (all_cons read_Row_Wrong_snd (all_nil))) (all_nil) (all_nil) mixed Tryz.func85 rfl (by kernel_rfl) (ac_code [] Tryz.f85 rfl) (by kernel_rfl) (fun _ => by kernel_rfl) (by kernel_rfl) (by kernel_rfl) (Nat.le_of_ble_eq_true (by kernel_rfl)) (by kernel_rfl)
noncomputable def read_Row_OK_1  (r_ : expr_reader) : Option (Bool × expr_reader) := some (decide (r_.Row.Fault.Code = 0), r_)
noncomputable abbrev read_Row_OK_1_T : Tab S := ⟨[], [], false, false, none, []⟩
theorem read_Row_OK_1_snd : Snd Tryz.prog S ⟨28, [.obj [.data (.st 7)]], [.val (.data .bool)], fun x => read_Row_OK_1 x⟩ :=
 fn_ok0 progOk (T := (read_Row_OK_1_T)) (all_nil) (all_nil) (all_nil) mixed Tryz.func28 rfl (by kernel_rfl) (ac_code [] Tryz.f28 rfl) (by kernel_rfl) (fun _ => by kernel_rfl) (by kernel_rfl) (by kernel_rfl) (Nat.le_of_ble_eq_true (by kernel_rfl)) (by kernel_rfl)
noncomputable def read_Row_Look_1  (r_ : expr_reader) : Option (api_Token × expr_reader) := (read_Row_OK_1 r_).bind fun r1 =>
 bif !r1.1 then
 some (api_Token.mk 4 0 0 [] 0, r1.2) else
 if r1.2.Row.At < 0 then
 some (api_Token.mk 4 0 0 [] 0, r1.2) else
 if (r1.2.Row.L.length : Int) ≤ r1.2.Row.At then
 some (api_Token.mk 4 0 0 [] 0, r1.2) else
 if 0 ≤ r1.2.Row.At then
 if r1.2.Row.At < (r1.2.Row.L.length : Int) then
 some (r1.2.Row.L.getD r1.2.Row.At.toNat api_Token.z, r1.2) else none else none
noncomputable abbrev read_Row_Look_1_T : Tab S := ⟨[⟨28, [.obj [.data (.st 7)]], [.val (.data .bool)], fun x => read_Row_OK_1 x⟩], [], false, false, none, []⟩
theorem read_Row_Look_1_snd : Snd Tryz.prog S ⟨55, [.obj [.data (.st 7)]], [.val (.data (.st 0))], fun x => read_Row_Look_1 x⟩ :=
 fn_ok0 progOk (T := (read_Row_Look_1_T)) (all_cons read_Row_OK_1_snd (all_nil)) (all_nil) (all_nil) mixed Tryz.func55 rfl (by kernel_rfl) (ac_code [] Tryz.f55 rfl) (by kernel_rfl) (fun _ => by kernel_rfl) (by kernel_rfl) (by kernel_rfl) (Nat.le_of_ble_eq_true (by kernel_rfl)) (by kernel_rfl)
noncomputable def read_Row_Is_1  (r_ : expr_reader) (s : List UInt8) : Option (Bool × expr_reader) := (read_Row_Look_1 r_).bind fun r1 =>
 if r1.1.Kind = 3 then
 some (decide (r1.1.Text = s), r1.2) else
 if r1.1.Kind = 1 then
 some (decide (r1.1.Text = s), r1.2) else
 some (false, r1.2)
noncomputable abbrev read_Row_Is_1_T : Tab S := ⟨[⟨55, [.obj [.data (.st 7)]], [.val (.data (.st 0))], fun x => read_Row_Look_1 x⟩], [], false, false, none, []⟩
theorem read_Row_Is_1_snd : Snd Tryz.prog S ⟨53, [.obj [.data (.st 7)], .val (.data .str)], [.val (.data .bool)], fun x => read_Row_Is_1 x.1 x.2⟩ :=
 fn_ok0 progOk (T := (read_Row_Is_1_T)) (all_cons read_Row_Look_1_snd (all_nil)) (all_nil) (all_nil) mixed Tryz.func53 rfl (by kernel_rfl) (ac_code [] Tryz.f53 rfl) (by kernel_rfl) (fun _ => by kernel_rfl) (by kernel_rfl) (by kernel_rfl) (Nat.le_of_ble_eq_true (by kernel_rfl)) (by kernel_rfl)
noncomputable def read_Row_Fail_1  (r_ : expr_reader) (code : Int) (v_at : Int) : Option expr_reader := (read_Row_OK_1 r_).bind fun r1 =>
 bif r1.1 then
 some (expr_reader.mk (read_Row.mk r1.2.Row.L r1.2.Row.At (api_Fault.mk code v_at)) r1.2.v_open) else
 some r1.2
noncomputable abbrev read_Row_Fail_1_T : Tab S := ⟨[⟨28, [.obj [.data (.st 7)]], [.val (.data .bool)], fun x => read_Row_OK_1 x⟩], [], false, false, none, []⟩
theorem read_Row_Fail_1_snd : Snd Tryz.prog S ⟨54, [.obj [.data (.st 7)], .val (.data (.int .i64)), .val (.data (.int .i64))], [], fun x => read_Row_Fail_1 x.1 x.2.1 x.2.2⟩ :=
 fn_ok0 progOk (T := (read_Row_Fail_1_T)) (all_cons read_Row_OK_1_snd (all_nil)) (all_nil) (all_nil) mixed Tryz.func54 rfl (by kernel_rfl) (ac_code [] Tryz.f54 rfl) (by kernel_rfl) (fun _ => by kernel_rfl) (by kernel_rfl) (by kernel_rfl) (Nat.le_of_ble_eq_true (by kernel_rfl)) (by kernel_rfl)
noncomputable def expr_reader_deep  (r_ : expr_reader) (v_at : Int) : Option (Bool × expr_reader) := if r_.v_open = 12 then
 (read_Row_Fail_1 r_ 14 v_at).bind fun r1 =>
 some (false, r1) else
 some (true, expr_reader.mk (read_Row.mk r_.Row.L (w64 (r_.Row.At + 1)) r_.Row.Fault) (w64 (r_.v_open + 1)))
noncomputable abbrev expr_reader_deep_T : Tab S := ⟨[⟨54, [.obj [.data (.st 7)], .val (.data (.int .i64)), .val (.data (.int .i64))], [], fun x => read_Row_Fail_1 x.1 x.2.1 x.2.2⟩], [], false, false, none, []⟩
theorem expr_reader_deep_snd : Snd Tryz.prog S ⟨163, [.obj [.data (.st 7)], .val (.data (.int .i64))], [.val (.data .bool)], fun x => expr_reader_deep x.1 x.2⟩ :=
 fn_ok0 progOk (T := (expr_reader_deep_T)) (all_cons read_Row_Fail_1_snd (all_nil)) (all_nil) (all_nil) mixed Tryz.func163 rfl (by kernel_rfl) (ac_code [] Tryz.f163 rfl) (by kernel_rfl) (fun _ => by kernel_rfl) (by kernel_rfl) (by kernel_rfl) (Nat.le_of_ble_eq_true (by kernel_rfl)) (by kernel_rfl)
noncomputable def read_Row_Take_1  (r_ : expr_reader) (s : List UInt8) : Option (Bool × expr_reader) := (read_Row_Is_1 r_ s).bind fun r1 =>
 bif r1.1 then
 some (r1.1, expr_reader.mk (read_Row.mk r1.2.Row.L (w64 (r1.2.Row.At + 1)) r1.2.Row.Fault) r1.2.v_open) else
 some (r1.1, r1.2)
noncomputable abbrev read_Row_Take_1_T : Tab S := ⟨[⟨53, [.obj [.data (.st 7)], .val (.data .str)], [.val (.data .bool)], fun x => read_Row_Is_1 x.1 x.2⟩], [], false, false, none, []⟩
theorem read_Row_Take_1_snd : Snd Tryz.prog S ⟨57, [.obj [.data (.st 7)], .val (.data .str)], [.val (.data .bool)], fun x => read_Row_Take_1 x.1 x.2⟩ :=
 fn_ok0 progOk (T := (read_Row_Take_1_T)) (all_cons read_Row_Is_1_snd (all_nil)) (all_nil) (all_nil) mixed Tryz.func57 rfl (by kernel_rfl) (ac_code [] Tryz.f57 rfl) (by kernel_rfl) (fun _ => by kernel_rfl) (by kernel_rfl) (by kernel_rfl) (Nat.le_of_ble_eq_true (by kernel_rfl)) (by kernel_rfl)
noncomputable def read_Row_IsName_1  (r_ : expr_reader) : Option (Bool × expr_reader) := (read_Row_Look_1 r_).bind fun r1 =>
 if r1.1.Kind = 1 then
 (lex_Reserved r1.1.Text).bind fun r2 =>
 some (!r2, r1.2) else
 some (false, r1.2)
noncomputable abbrev read_Row_IsName_1_T : Tab S := ⟨[⟨55, [.obj [.data (.st 7)]], [.val (.data (.st 0))], fun x => read_Row_Look_1 x⟩, ⟨113, [.val (.data .str)], [.val (.data .bool)], fun x => lex_Reserved x⟩], [], false, false, none, []⟩
theorem read_Row_IsName_1_snd : Snd Tryz.prog S ⟨84, [.obj [.data (.st 7)]], [.val (.data .bool)], fun x => read_Row_IsName_1 x⟩ :=
 fn_ok0 progOk (T := (read_Row_IsName_1_T)) (all_cons read_Row_Look_1_snd (all_cons lex_Reserved_snd (all_nil))) (all_nil) (all_nil) mixed Tryz.func84 rfl (by kernel_rfl) (ac_code [] Tryz.f84 rfl) (by kernel_rfl) (fun _ => by kernel_rfl) (by kernel_rfl) (by kernel_rfl) (Nat.le_of_ble_eq_true (by kernel_rfl)) (by kernel_rfl)
noncomputable def read_Row_Wrong_1  (r_ : expr_reader) : Option expr_reader := (read_Row_Look_1 r_).bind fun r1 =>
 if r1.1.Kind = 4 then
 (read_Row_Fail_1 r1.2 12 r1.1.At).bind fun r2 =>
 some r2 else
 (read_Row_Fail_1 r1.2 11 r1.1.At).bind fun r3 =>
 some r3
noncomputable abbrev read_Row_Wrong_1_T : Tab S := ⟨[⟨55, [.obj [.data (.st 7)]], [.val (.data (.st 0))], fun x => read_Row_Look_1 x⟩, ⟨54, [.obj [.data (.st 7)], .val (.data (.int .i64)), .val (.data (.int .i64))], [], fun x => read_Row_Fail_1 x.1 x.2.1 x.2.2⟩], [], false, false, none, []⟩
theorem read_Row_Wrong_1_snd : Snd Tryz.prog S ⟨83, [.obj [.data (.st 7)]], [], fun x => read_Row_Wrong_1 x⟩ :=
 fn_ok0 progOk (T := (read_Row_Wrong_1_T)) (all_cons read_Row_Look_1_snd (all_cons read_Row_Fail_1_snd (all_nil))) (all_nil) (all_nil) mixed Tryz.func83 rfl (by kernel_rfl) (ac_code [] Tryz.f83 rfl) (by kernel_rfl) (fun _ => by kernel_rfl) (by kernel_rfl) (by kernel_rfl) (Nat.le_of_ble_eq_true (by kernel_rfl)) (by kernel_rfl)
noncomputable def read_Row_Name_1  (r_ : expr_reader) : Option (List UInt8 × expr_reader) := (read_Row_IsName_1 r_).bind fun r1 =>
 bif !r1.1 then
 (read_Row_Wrong_1 r1.2).bind fun r2 =>
 some ([], r2) else
 if 0 ≤ (w64 ((w64 (r1.2.Row.At + 1)) - 1)) then
 if (w64 ((w64 (r1.2.Row.At + 1)) - 1)) < (r1.2.Row.L.length : Int) then
 some ((r1.2.Row.L.getD (w64 ((w64 (r1.2.Row.At + 1)) - 1)).toNat api_Token.z).Text, expr_reader.mk (read_Row.mk r1.2.Row.L (w64 (r1.2.Row.At + 1)) r1.2.Row.Fault) r1.2.v_open) else none else none
noncomputable abbrev read_Row_Name_1_T : Tab S := ⟨[⟨84, [.obj [.data (.st 7)]], [.val (.data .bool)], fun x => read_Row_IsName_1 x⟩, ⟨83, [.obj [.data (.st 7)]], [], fun x => read_Row_Wrong_1 x⟩], [], false, false, none, []⟩
theorem read_Row_Name_1_snd : Snd Tryz.prog S ⟨85, [.obj [.data (.st 7)]], [.val (.data .str)], fun x => read_Row_Name_1 x⟩ :=
 fn_ok0 progOk (T := (read_Row_Name_1_T)) (all_cons read_Row_IsName_1_snd (all_cons read_Row_Wrong_1_snd (all_nil))) (all_nil) (all_nil) mixed Tryz.func85 rfl (by kernel_rfl) (ac_code [] Tryz.f85 rfl) (by kernel_rfl) (fun _ => by kernel_rfl) (by kernel_rfl) (by kernel_rfl) (Nat.le_of_ble_eq_true (by kernel_rfl)) (by kernel_rfl)
noncomputable def read_Row_Want_1  (r_ : expr_reader) (s : List UInt8) : Option expr_reader := (read_Row_Take_1 r_ s).bind fun r1 =>
 bif !r1.1 then
 (read_Row_Wrong_1 r1.2).bind fun r2 =>
 some r2 else
 some r1.2
noncomputable abbrev read_Row_Want_1_T : Tab S := ⟨[⟨57, [.obj [.data (.st 7)], .val (.data .str)], [.val (.data .bool)], fun x => read_Row_Take_1 x.1 x.2⟩, ⟨83, [.obj [.data (.st 7)]], [], fun x => read_Row_Wrong_1 x⟩], [], false, false, none, []⟩
theorem read_Row_Want_1_snd : Snd Tryz.prog S ⟨56, [.obj [.data (.st 7)], .val (.data .str)], [], fun x => read_Row_Want_1 x.1 x.2⟩ :=
 fn_ok0 progOk (T := (read_Row_Want_1_T)) (all_cons read_Row_Take_1_snd (all_cons read_Row_Wrong_1_snd (all_nil))) (all_nil) (all_nil) mixed Tryz.func56 rfl (by kernel_rfl) (ac_code [] Tryz.f56 rfl) (by kernel_rfl) (fun _ => by kernel_rfl) (by kernel_rfl) (by kernel_rfl) (Nat.le_of_ble_eq_true (by kernel_rfl)) (by kernel_rfl)
noncomputable def expr_reader_prim (self_expr_reader_part : expr_reader → Int → Option (api_Expr × expr_reader))  (r_ : expr_reader) : Option (api_Expr × expr_reader) := (read_Row_Look_1 r_).bind fun r1 =>
 if r1.1.Kind = 2 then
 some (api_Expr.mk 1 r1.1.N [] [] r1.1.At, expr_reader.mk (read_Row.mk r1.2.Row.L (w64 (r1.2.Row.At + 1)) r1.2.Row.Fault) r1.2.v_open) else
 (read_Row_Take_1 r1.2 s_dollar).bind fun r2 =>
 bif r2.1 then
 some (api_Expr.mk 3 0 [] [] r1.1.At, r2.2) else
 (read_Row_IsName_1 r2.2).bind fun r3 =>
 bif r3.1 then
 (read_Row_Name_1 r3.2).bind fun r4 =>
 some (api_Expr.mk 2 0 r4.1 [] r1.1.At, r4.2) else
 (read_Row_Take_1 r3.2 s_in).bind fun r5 =>
 bif r5.1 then
 (read_Row_Want_1 r5.2 s_lp).bind fun r6 =>
 (read_Row_Name_1 r6).bind fun r7 =>
 (read_Row_Want_1 r7.2 s_rp).bind fun r8 =>
 some (api_Expr.mk 4 0 r7.1 [] r1.1.At, r8) else
 (read_Row_Is_1 r5.2 s_lp).bind fun r9 =>
 bif !r9.1 then
 (read_Row_Wrong_1 r9.2).bind fun r10 =>
 some (api_Expr.mk 0 0 [] [] 0, r10) else
 (expr_reader_deep r9.2 r1.1.At).bind fun r11 =>
 bif !r11.1 then
 some (api_Expr.mk 0 0 [] [] 0, r11.2) else
 (self_expr_reader_part r11.2 1).bind fun r12 =>
 (read_Row_Want_1 r12.2 s_rp).bind fun r13 =>
 some (api_Expr.mk r12.1.Kind r12.1.N r12.1.Name r12.1.Kids r12.1.At, expr_reader.mk r13.Row (w64 (r13.v_open - 1)))
noncomputable abbrev expr_reader_prim_T (self_expr_reader_part : expr_reader → Int → Option (api_Expr × expr_reader)) : Tab S := ⟨[⟨55, [.obj [.data (.st 7)]], [.val (.data (.st 0))], fun x => read_Row_Look_1 x⟩, ⟨57, [.obj [.data (.st 7)], .val (.data .str)], [.val (.data .bool)], fun x => read_Row_Take_1 x.1 x.2⟩, ⟨84, [.obj [.data (.st 7)]], [.val (.data .bool)], fun x => read_Row_IsName_1 x⟩, ⟨85, [.obj [.data (.st 7)]], [.val (.data .str)], fun x => read_Row_Name_1 x⟩, ⟨56, [.obj [.data (.st 7)], .val (.data .str)], [], fun x => read_Row_Want_1 x.1 x.2⟩, ⟨53, [.obj [.data (.st 7)], .val (.data .str)], [.val (.data .bool)], fun x => read_Row_Is_1 x.1 x.2⟩, ⟨83, [.obj [.data (.st 7)]], [], fun x => read_Row_Wrong_1 x⟩, ⟨163, [.obj [.data (.st 7)], .val (.data (.int .i64))], [.val (.data .bool)], fun x => expr_reader_deep x.1 x.2⟩, ⟨135, [.obj [.data (.st 7)], .val (.data (.int .i64))], [.val (.data (.st 4))], fun x => self_expr_reader_part x.1 x.2⟩], [], false, false, none, []⟩
theorem expr_reader_prim_snd (self_expr_reader_part : expr_reader → Int → Option (api_Expr × expr_reader)) (hself_expr_reader_part : Snd Tryz.prog S ⟨135, [.obj [.data (.st 7)], .val (.data (.int .i64))], [.val (.data (.st 4))], fun x => self_expr_reader_part x.1 x.2⟩) : Snd Tryz.prog S ⟨162, [.obj [.data (.st 7)]], [.val (.data (.st 4))], fun x => expr_reader_prim self_expr_reader_part x⟩ :=
 fn_ok0 progOk (T := (expr_reader_prim_T self_expr_reader_part)) (all_cons read_Row_Look_1_snd (all_cons read_Row_Take_1_snd (all_cons read_Row_IsName_1_snd (all_cons read_Row_Name_1_snd (all_cons read_Row_Want_1_snd (all_cons read_Row_Is_1_snd (all_cons read_Row_Wrong_1_snd (all_cons expr_reader_deep_snd (all_cons hself_expr_reader_part (all_nil)))))))))) (all_nil) (all_nil) mixed Tryz.func162 rfl (by kernel_rfl) (ac_code [] Tryz.f162 rfl) (by kernel_rfl) (fun _ => by kernel_rfl) (by kernel_rfl) (by kernel_rfl) (Nat.le_of_ble_eq_true (by kernel_rfl)) (by kernel_rfl)
noncomputable def expr_reader_signed_b (self_expr_reader_signed : expr_reader → Option (api_Expr × expr_reader)) (self_expr_reader_part : expr_reader → Int → Option (api_Expr × expr_reader)) (k : Nat) (r_ : expr_reader) : Option (api_Expr × expr_reader) := (read_Row_Look_1 r_).bind fun r1 =>
 (read_Row_Is_1 r1.2 s_minus).bind fun r2 =>
 bif r2.1 then
 (expr_reader_deep r2.2 r1.1.At).bind fun r3 =>
 bif !r3.1 then
 some (api_Expr.mk 0 0 [] [] 0, r3.2) else
 (self_expr_reader_signed r3.2).bind fun r4 =>
 some (api_Expr.mk 5 0 [] [api_Expr.mk r4.1.Kind r4.1.N r4.1.Name r4.1.Kids r4.1.At] r1.1.At, expr_reader.mk r4.2.Row (w64 (r4.2.v_open - 1))) else
 (read_Row_Is_1 r2.2 s_bang).bind fun r5 =>
 bif r5.1 then
 (expr_reader_deep r5.2 r1.1.At).bind fun r6 =>
 bif !r6.1 then
 some (api_Expr.mk 0 0 [] [] 0, r6.2) else
 (self_expr_reader_signed r6.2).bind fun r7 =>
 some (api_Expr.mk 6 0 [] [api_Expr.mk r7.1.Kind r7.1.N r7.1.Name r7.1.Kids r7.1.At] r1.1.At, expr_reader.mk r7.2.Row (w64 (r7.2.v_open - 1))) else
 (expr_reader_prim self_expr_reader_part r5.2).bind fun r8 =>
 some (api_Expr.mk r8.1.Kind r8.1.N r8.1.Name r8.1.Kids r8.1.At, r8.2)
noncomputable def expr_reader_signed_f (self_expr_reader_part : expr_reader → Int → Option (api_Expr × expr_reader)) : Nat → expr_reader → Option (api_Expr × expr_reader)
 | 0, _ => none
 | k + 1, x0 => expr_reader_signed_b (expr_reader_signed_f self_expr_reader_part k) self_expr_reader_part k x0
noncomputable def expr_reader_signed (self_expr_reader_part : expr_reader → Int → Option (api_Expr × expr_reader))  (r_ : expr_reader) : Option (api_Expr × expr_reader) := lim (fun k (x : expr_reader) => expr_reader_signed_f self_expr_reader_part k x) r_
noncomputable abbrev expr_reader_signed_T (self_expr_reader_signed : expr_reader → Option (api_Expr × expr_reader)) (self_expr_reader_part : expr_reader → Int → Option (api_Expr × expr_reader)) : Tab S := ⟨[⟨55, [.obj [.data (.st 7)]], [.val (.data (.st 0))], fun x => read_Row_Look_1 x⟩, ⟨53, [.obj [.data (.st 7)], .val (.data .str)], [.val (.data .bool)], fun x => read_Row_Is_1 x.1 x.2⟩, ⟨163, [.obj [.data (.st 7)], .val (.data (.int .i64))], [.val (.data .bool)], fun x => expr_reader_deep x.1 x.2⟩, ⟨147, [.obj [.data (.st 7)]], [.val (.data (.st 4))], fun x => self_expr_reader_signed x⟩, ⟨162, [.obj [.data (.st 7)]], [.val (.data (.st 4))], fun x => expr_reader_prim self_expr_reader_part x⟩], [], false, false, none, []⟩
theorem expr_reader_signed_sndk (self_expr_reader_signed : expr_reader → Option (api_Expr × expr_reader)) (self_expr_reader_part : expr_reader → Int → Option (api_Expr × expr_reader)) (hself : Snd Tryz.prog S ⟨147, [.obj [.data (.st 7)]], [.val (.data (.st 4))], fun x => self_expr_reader_signed x⟩) (hself_expr_reader_part : Snd Tryz.prog S ⟨135, [.obj [.data (.st 7)], .val (.data (.int .i64))], [.val (.data (.st 4))], fun x => self_expr_reader_part x.1 x.2⟩) (k : Nat) : Snd Tryz.prog S ⟨147, [.obj [.data (.st 7)]], [.val (.data (.st 4))], fun x => expr_reader_signed_b self_expr_reader_signed self_expr_reader_part k x⟩ :=
 fn_ok0 progOk (T := (expr_reader_signed_T self_expr_reader_signed self_expr_reader_part)) (all_cons read_Row_Look_1_snd (all_cons read_Row_Is_1_snd (all_cons expr_reader_deep_snd (all_cons hself (all_cons (expr_reader_prim_snd self_expr_reader_part hself_expr_reader_part) (all_nil)))))) (all_nil) (all_nil) mixed Tryz.func147 rfl (by kernel_rfl) (ac_code [] Tryz.f147 rfl) (by kernel_rfl) (fun _ => by kernel_rfl) (by kernel_rfl) (by kernel_rfl) (Nat.le_of_ble_eq_true (by kernel_rfl)) (by kernel_rfl)
theorem expr_reader_signed_sndf (self_expr_reader_part : expr_reader → Int → Option (api_Expr × expr_reader)) (hself_expr_reader_part : Snd Tryz.prog S ⟨135, [.obj [.data (.st 7)], .val (.data (.int .i64))], [.val (.data (.st 4))], fun x => self_expr_reader_part x.1 x.2⟩) : ∀ k, Snd Tryz.prog S ⟨147, [.obj [.data (.st 7)]], [.val (.data (.st 4))], fun x => expr_reader_signed_f self_expr_reader_part k x⟩
 | 0 => Snd.none ⟨_, Tryz.func147, by kernel_rfl, by kernel_rfl⟩ fun _ => rfl
 | k + 1 => expr_reader_signed_sndk (expr_reader_signed_f self_expr_reader_part k) self_expr_reader_part (expr_reader_signed_sndf self_expr_reader_part hself_expr_reader_part k) hself_expr_reader_part k
theorem expr_reader_signed_snd (self_expr_reader_part : expr_reader → Int → Option (api_Expr × expr_reader)) (hself_expr_reader_part : Snd Tryz.prog S ⟨135, [.obj [.data (.st 7)], .val (.data (.int .i64))], [.val (.data (.st 4))], fun x => self_expr_reader_part x.1 x.2⟩) : Snd Tryz.prog S ⟨147, [.obj [.data (.st 7)]], [.val (.data (.st 4))], fun x => expr_reader_signed self_expr_reader_part x⟩ := Snd.lim (expr_reader_signed_sndf self_expr_reader_part hself_expr_reader_part)
noncomputable def expr_sign  (text : List UInt8) : Option (Int × Int) := if text = s_bar_bar then
 some (19, 1) else
 if text = s_amp_amp then
 some (18, 2) else
 if text = s_lt then
 some (12, 3) else
 if text = s_lt_eq then
 some (13, 3) else
 if text = s_gt then
 some (14, 3) else
 if text = s_gt_eq then
 some (15, 3) else
 if text = s_eq_eq then
 some (16, 3) else
 if text = s_bang_eq then
 some (17, 3) else
 if text = s_plus then
 some (10, 4) else
 if text = s_minus then
 some (11, 4) else
 if text = s_star then
 some (7, 5) else
 if text = s_slash then
 some (8, 5) else
 if text = s_pct then
 some (9, 5) else
 some (0, 0)
noncomputable abbrev expr_sign_T : Tab S := ⟨[], [], false, false, none, []⟩
theorem expr_sign_snd : Snd Tryz.prog S ⟨148, [.val (.data .str)], [.val (.data (.int .i64)), .val (.data (.int .i64))], fun x => expr_sign x⟩ :=
 fn_ok0 progOk (T := (expr_sign_T)) (all_nil) (all_nil) (all_nil) mixed Tryz.func148 rfl (by kernel_rfl) (ac_code [] Tryz.f148 rfl) (by kernel_rfl) (fun _ => by kernel_rfl) (by kernel_rfl) (by kernel_rfl) (Nat.le_of_ble_eq_true (by kernel_rfl)) (by kernel_rfl)
noncomputable def expr_reader_part_l0 (self_expr_reader_part : expr_reader → Int → Option (api_Expr × expr_reader)) : Nat → (List api_Token) → Int → Int → Int → Int → Int → Int → Int → (List UInt8) → (List api_Expr) → Int → Int → Int → (List UInt8) → (List api_Expr) → Int → Option (api_Expr × expr_reader)
 | 0, _, _, _, _, _, _, _, _, _, _, _, _, _, _, _, _ => none
 | k + 1, r__Row_L, r__Row_At, r__Row_Fault_Code, r__Row_Fault_At, r__v_open, level, x4_Kind, x4_N, x4_Name, x4_Kids, x4_At, e_Kind, e_N, e_Name, e_Kids, e_At => (read_Row_Look_1 (expr_reader.mk (read_Row.mk r__Row_L r__Row_At (api_Fault.mk r__Row_Fault_Code r__Row_Fault_At)) r__v_open)).bind fun r3 =>
  (expr_sign r3.1.Text).bind fun r4 =>
  if r3.1.Kind ≠ 3 then
  some (api_Expr.mk e_Kind e_N e_Name e_Kids e_At, r3.2) else
  if r4.2 ≠ level then
  some (api_Expr.mk e_Kind e_N e_Name e_Kids e_At, r3.2) else
  (self_expr_reader_part (expr_reader.mk (read_Row.mk r3.2.Row.L (w64 (r3.2.Row.At + 1)) r3.2.Row.Fault) r3.2.v_open) (w64 (level + 1))).bind fun r5 =>
  if level = 3 then
  some (api_Expr.mk r4.1 0 [] [api_Expr.mk e_Kind e_N e_Name e_Kids e_At, api_Expr.mk r5.1.Kind r5.1.N r5.1.Name r5.1.Kids r5.1.At] r3.1.At, r5.2) else
  expr_reader_part_l0 self_expr_reader_part k r5.2.Row.L r5.2.Row.At r5.2.Row.Fault.Code r5.2.Row.Fault.At r5.2.v_open level x4_Kind x4_N x4_Name x4_Kids x4_At r4.1 0 [] [api_Expr.mk e_Kind e_N e_Name e_Kids e_At, api_Expr.mk r5.1.Kind r5.1.N r5.1.Name r5.1.Kids r5.1.At] r3.1.At
noncomputable def expr_reader_part_b (self_expr_reader_part : expr_reader → Int → Option (api_Expr × expr_reader)) (k : Nat) (r_ : expr_reader) (level : Int) : Option (api_Expr × expr_reader) := if level = 6 then
 (expr_reader_signed self_expr_reader_part r_).bind fun r1 =>
 some (api_Expr.mk r1.1.Kind r1.1.N r1.1.Name r1.1.Kids r1.1.At, r1.2) else
 (self_expr_reader_part r_ (w64 (level + 1))).bind fun r2 =>
 expr_reader_part_l0 self_expr_reader_part k r2.2.Row.L r2.2.Row.At r2.2.Row.Fault.Code r2.2.Row.Fault.At r2.2.v_open level 0 0 [] [] 0 r2.1.Kind r2.1.N r2.1.Name r2.1.Kids r2.1.At
noncomputable def expr_reader_part_f : Nat → expr_reader → Int → Option (api_Expr × expr_reader)
 | 0, _, _ => none
 | k + 1, x0, x1 => expr_reader_part_b (expr_reader_part_f k) k x0 x1
noncomputable def expr_reader_part  (r_ : expr_reader) (level : Int) : Option (api_Expr × expr_reader) := lim (fun k (x : expr_reader × Int) => expr_reader_part_f k x.1 x.2) (r_, level)
noncomputable abbrev expr_reader_part_T (self_expr_reader_part : expr_reader → Int → Option (api_Expr × expr_reader)) : Tab S := ⟨[⟨147, [.obj [.data (.st 7)]], [.val (.data (.st 4))], fun x => expr_reader_signed self_expr_reader_part x⟩, ⟨135, [.obj [.data (.st 7)], .val (.data (.int .i64))], [.val (.data (.st 4))], fun x => self_expr_reader_part x.1 x.2⟩, ⟨55, [.obj [.data (.st 7)]], [.val (.data (.st 0))], fun x => read_Row_Look_1 x⟩, ⟨148, [.val (.data .str)], [.val (.data (.int .i64)), .val (.data (.int .i64))], fun x => expr_sign x⟩], [], false, false, none, []⟩
noncomputable def expr_reader_part_L (self_expr_reader_part : expr_reader → Int → Option (api_Expr × expr_reader)) (k : Nat) : Nat → List (Lab S (api_Expr × expr_reader))
 | 0 => [⟨[0, 1, 4, 5], [.obj [.data (.sl (.st 0)), .data (.int .i64), .data (.int .i64), .data (.int .i64), .data (.int .i64)], .val (.data (.int .i64)), .obj [.data (.int .i64), .data (.int .i64), .data .str, .marr (.st 4), .data (.int .i64)], .obj [.data (.int .i64), .data (.int .i64), .data .str, .data (.sl (.st 4)), .data (.int .i64)]], fun x => expr_reader_part_l0 self_expr_reader_part k x.1.1 x.1.2.1 x.1.2.2.1 x.1.2.2.2.1 x.1.2.2.2.2 x.2.1 x.2.2.1.1 x.2.2.1.2.1 x.2.2.1.2.2.1 x.2.2.1.2.2.2.1 x.2.2.1.2.2.2.2 x.2.2.2.1 x.2.2.2.2.1 x.2.2.2.2.2.1 x.2.2.2.2.2.2.1 x.2.2.2.2.2.2.2, false⟩]
 | _ + 1 => []
theorem expr_reader_part_eq (self_expr_reader_part : expr_reader → Int → Option (api_Expr × expr_reader)) (k : Nat) (r_ : expr_reader) (level : Int) : expr_reader_part_b self_expr_reader_part k r_ level = exec S (expr_reader_part_T self_expr_reader_part) byt (labs S (expr_reader_part_T self_expr_reader_part) (expr_reader_part_L self_expr_reader_part k)) (ac [] Tryz.f135) (frame0 S [.obj [.data (.st 7)], .val (.data (.int .i64))] (r_, level)) (retK S (expr_reader_part_T self_expr_reader_part) Tryz.f135 [.obj [.data (.st 7)], .val (.data (.int .i64))] [.val (.data (.st 4))]) := by kernel_rfl
theorem expr_reader_part_vc (self_expr_reader_part : expr_reader → Int → Option (api_Expr × expr_reader)) (k : Nat) : VC S (expr_reader_part_T self_expr_reader_part) byt (expr_reader_part_L self_expr_reader_part k) (expr_reader_part_L self_expr_reader_part (k + 1)) (ac [] Tryz.f135) (retK S (expr_reader_part_T self_expr_reader_part) Tryz.f135 [.obj [.data (.st 7)], .val (.data (.int .i64))] [.val (.data (.st 4))]) = [∀ x : (List api_Token × Int × Int × Int × Int) × Int × (Int × Int × List UInt8 × List api_Expr × Int) × (Int × Int × List UInt8 × List api_Expr × Int), expr_reader_part_l0 self_expr_reader_part (k + 1) x.1.1 x.1.2.1 x.1.2.2.1 x.1.2.2.2.1 x.1.2.2.2.2 x.2.1 x.2.2.1.1 x.2.2.1.2.1 x.2.2.1.2.2.1 x.2.2.1.2.2.2.1 x.2.2.1.2.2.2.2 x.2.2.2.1 x.2.2.2.2.1 x.2.2.2.2.2.1 x.2.2.2.2.2.2.1 x.2.2.2.2.2.2.2 = expr_reader_part_l0 self_expr_reader_part (k + 1) x.1.1 x.1.2.1 x.1.2.2.1 x.1.2.2.2.1 x.1.2.2.2.2 x.2.1 x.2.2.1.1 x.2.2.1.2.1 x.2.2.1.2.2.1 x.2.2.1.2.2.2.1 x.2.2.1.2.2.2.2 x.2.2.2.1 x.2.2.2.2.1 x.2.2.2.2.2.1 x.2.2.2.2.2.2.1 x.2.2.2.2.2.2.2] := by kernel_rfl
theorem expr_reader_part_sndk (self_expr_reader_part : expr_reader → Int → Option (api_Expr × expr_reader)) (hself : Snd Tryz.prog S ⟨135, [.obj [.data (.st 7)], .val (.data (.int .i64))], [.val (.data (.st 4))], fun x => self_expr_reader_part x.1 x.2⟩) (k : Nat) : Snd Tryz.prog S ⟨135, [.obj [.data (.st 7)], .val (.data (.int .i64))], [.val (.data (.st 4))], fun x => expr_reader_part_b self_expr_reader_part k x.1 x.2⟩ :=
 fn_ok progOk (T := (expr_reader_part_T self_expr_reader_part)) (all_cons (expr_reader_signed_snd self_expr_reader_part hself) (all_cons hself (all_cons read_Row_Look_1_snd (all_cons expr_sign_snd (all_nil))))) (all_nil) (all_nil) mixed Tryz.func135 rfl (by kernel_rfl) (ac_code [] Tryz.f135 rfl) (L := expr_reader_part_L self_expr_reader_part)
  (fun n l h x => by match n, h with
   | 0, h =>
    rcases List.mem_cons.1 h with rfl | h
    · rfl
    cases h
   | _ + 1, h => cases h) (fun k n l h => by match n, h with
   | 0, h =>
    rcases List.mem_cons.1 h with rfl | h
    · rfl
    cases h
   | _ + 1, h => cases h)
  (fun k => All.mem (expr_reader_part_vc self_expr_reader_part k) ⟨fun _ => rfl, trivial⟩) (fun x r h => ⟨k, (expr_reader_part_eq self_expr_reader_part k x.1 x.2).symm.trans h⟩) (by kernel_rfl) (by kernel_rfl) (Nat.le_of_ble_eq_true (by kernel_rfl)) (by kernel_rfl)
theorem expr_reader_part_sndf : ∀ k, Snd Tryz.prog S ⟨135, [.obj [.data (.st 7)], .val (.data (.int .i64))], [.val (.data (.st 4))], fun x => expr_reader_part_f k x.1 x.2⟩
 | 0 => Snd.none ⟨_, Tryz.func135, by kernel_rfl, by kernel_rfl⟩ fun _ => rfl
 | k + 1 => expr_reader_part_sndk (expr_reader_part_f k) (expr_reader_part_sndf k) k
theorem expr_reader_part_snd : Snd Tryz.prog S ⟨135, [.obj [.data (.st 7)], .val (.data (.int .i64))], [.val (.data (.st 4))], fun x => expr_reader_part x.1 x.2⟩ := Snd.lim (expr_reader_part_sndf)
noncomputable def expr_Parse  (l : List api_Token) (v_at : Int) : Option (api_Expr × Int × api_Fault) := (expr_reader_part (expr_reader.mk (read_Row.mk l v_at (api_Fault.mk 0 0)) 0) 1).bind fun r1 =>
 (read_Row_OK_1 r1.2).bind fun r2 =>
 bif !r2.1 then
 some (api_Expr.mk 0 0 [] [] 0, 0, r2.2.Row.Fault) else
 some (api_Expr.mk r1.1.Kind r1.1.N r1.1.Name r1.1.Kids r1.1.At, r2.2.Row.At, api_Fault.mk 0 0)
noncomputable abbrev expr_Parse_T : Tab S := ⟨[⟨135, [.obj [.data (.st 7)], .val (.data (.int .i64))], [.val (.data (.st 4))], fun x => expr_reader_part x.1 x.2⟩, ⟨28, [.obj [.data (.st 7)]], [.val (.data .bool)], fun x => read_Row_OK_1 x⟩], [], false, false, none, []⟩
theorem expr_Parse_snd : Snd Tryz.prog S ⟨114, [.val (.data (.sl (.st 0))), .val (.data (.int .i64))], [.val (.data (.st 4)), .val (.data (.int .i64)), .val (.data (.st 1))], fun x => expr_Parse x.1 x.2⟩ :=
 fn_ok0 progOk (T := (expr_Parse_T)) (all_cons expr_reader_part_snd (all_cons read_Row_OK_1_snd (all_nil))) (all_nil) (all_nil) mixed Tryz.func114 rfl (by kernel_rfl) (ac_code [] Tryz.f114 rfl) (by kernel_rfl) (fun _ => by kernel_rfl) (by kernel_rfl) (by kernel_rfl) (Nat.le_of_ble_eq_true (by kernel_rfl)) (by kernel_rfl)
noncomputable def act_reader_expr  (r_ : act_reader) : Option (List api_Expr × act_reader) := (read_Row_OK r_).bind fun r1 =>
 bif !r1.1 then
 some ([], r1.2) else
 (expr_Parse r1.2.Row.L r1.2.Row.At).bind fun r2 =>
 (read_Row_Fail r1.2 r2.2.2.Code r2.2.2.At).bind fun r3 =>
 some ([api_Expr.mk r2.1.Kind r2.1.N r2.1.Name r2.1.Kids r2.1.At], act_reader.mk (read_Row.mk r3.Row.L r2.2.1 r3.Row.Fault) r3.v_open)
noncomputable abbrev act_reader_expr_T : Tab S := ⟨[⟨28, [.obj [.data (.st 6)]], [.val (.data .bool)], fun x => read_Row_OK x⟩, ⟨114, [.val (.data (.sl (.st 0))), .val (.data (.int .i64))], [.val (.data (.st 4)), .val (.data (.int .i64)), .val (.data (.st 1))], fun x => expr_Parse x.1 x.2⟩, ⟨54, [.obj [.data (.st 6)], .val (.data (.int .i64)), .val (.data (.int .i64))], [], fun x => read_Row_Fail x.1 x.2.1 x.2.2⟩], [], false, false, none, []⟩
theorem act_reader_expr_snd : Snd Tryz.prog S ⟨86, [.obj [.data (.st 6)]], [.val (.data (.sl (.st 4)))], fun x => act_reader_expr x⟩ :=
 fn_ok0 progOk (T := (act_reader_expr_T)) (all_cons read_Row_OK_snd (all_cons expr_Parse_snd (all_cons read_Row_Fail_snd (all_nil)))) (all_nil) (all_nil) mixed Tryz.func86 rfl (by kernel_rfl) (ac_code [] Tryz.f86 rfl) (by kernel_rfl) (fun _ => by kernel_rfl) (by kernel_rfl) (by kernel_rfl) (Nat.le_of_ble_eq_true (by kernel_rfl)) (by kernel_rfl)
noncomputable def act_reader_inside  (r_ : act_reader) : Option (List api_Expr × act_reader) := (read_Row_Want r_ s_lp).bind fun r1 =>
 (act_reader_expr r1).bind fun r2 =>
 (read_Row_Want r2.2 s_rp).bind fun r3 =>
 some (r2.1, r3)
noncomputable abbrev act_reader_inside_T : Tab S := ⟨[⟨56, [.obj [.data (.st 6)], .val (.data .str)], [], fun x => read_Row_Want x.1 x.2⟩, ⟨86, [.obj [.data (.st 6)]], [.val (.data (.sl (.st 4)))], fun x => act_reader_expr x⟩], [], false, false, none, []⟩
theorem act_reader_inside_snd : Snd Tryz.prog S ⟨88, [.obj [.data (.st 6)]], [.val (.data (.sl (.st 4)))], fun x => act_reader_inside x⟩ :=
 fn_ok0 progOk (T := (act_reader_inside_T)) (all_cons read_Row_Want_snd (all_cons act_reader_expr_snd (all_nil))) (all_nil) (all_nil) mixed Tryz.func88 rfl (by kernel_rfl) (ac_code [] Tryz.f88 rfl) (by kernel_rfl) (fun _ => by kernel_rfl) (by kernel_rfl) (by kernel_rfl) (Nat.le_of_ble_eq_true (by kernel_rfl)) (by kernel_rfl)
noncomputable def act_reader_number  (r_ : act_reader) : Option (List api_Expr × act_reader) := (read_Row_Is r_ s_lp).bind fun r1 =>
 bif !r1.1 then
 some ([], r1.2) else
 (act_reader_inside r1.2).bind fun r2 =>
 some (r2.1, r2.2)
noncomputable abbrev act_reader_number_T : Tab S := ⟨[⟨53, [.obj [.data (.st 6)], .val (.data .str)], [.val (.data .bool)], fun x => read_Row_Is x.1 x.2⟩, ⟨88, [.obj [.data (.st 6)]], [.val (.data (.sl (.st 4)))], fun x => act_reader_inside x⟩], [], false, false, none, []⟩
theorem act_reader_number_snd : Snd Tryz.prog S ⟨87, [.obj [.data (.st 6)]], [.val (.data (.sl (.st 4)))], fun x => act_reader_number x⟩ :=
 fn_ok0 progOk (T := (act_reader_number_T)) (all_cons read_Row_Is_snd (all_cons act_reader_inside_snd (all_nil))) (all_nil) (all_nil) mixed Tryz.func87 rfl (by kernel_rfl) (ac_code [] Tryz.f87 rfl) (by kernel_rfl) (fun _ => by kernel_rfl) (by kernel_rfl) (by kernel_rfl) (Nat.le_of_ble_eq_true (by kernel_rfl)) (by kernel_rfl)
noncomputable def read_Row_Number  (r_ : act_reader) : Option (Int × act_reader) := (read_Row_Look r_).bind fun r1 =>
 if r1.1.Kind ≠ 2 then
 (read_Row_Wrong r1.2).bind fun r2 =>
 some (0, r2) else
 some (r1.1.N, act_reader.mk (read_Row.mk r1.2.Row.L (w64 (r1.2.Row.At + 1)) r1.2.Row.Fault) r1.2.v_open)
noncomputable abbrev read_Row_Number_T : Tab S := ⟨[⟨55, [.obj [.data (.st 6)]], [.val (.data (.st 0))], fun x => read_Row_Look x⟩, ⟨83, [.obj [.data (.st 6)]], [], fun x => read_Row_Wrong x⟩], [], false, false, none, []⟩
theorem read_Row_Number_snd : Snd Tryz.prog S ⟨115, [.obj [.data (.st 6)]], [.val (.data (.int .i64))], fun x => read_Row_Number x⟩ :=
 fn_ok0 progOk (T := (read_Row_Number_T)) (all_cons read_Row_Look_snd (all_cons read_Row_Wrong_snd (all_nil))) (all_nil) (all_nil) mixed Tryz.func115 rfl (by kernel_rfl) (ac_code [] Tryz.f115 rfl) (by kernel_rfl) (fun _ => by kernel_rfl) (by kernel_rfl) (by kernel_rfl) (Nat.le_of_ble_eq_true (by kernel_rfl)) (by kernel_rfl)
noncomputable def act_reader_whole_1 (self_act_reader_block : act_reader → Option (List api_Act × act_reader))  (r_ : act_reader) (a : api_Act) : Option (api_Act × act_reader) := (read_Row_Take r_ s_loop).bind fun r1 =>
 bif r1.1 then
 (read_Row_Number r1.2).bind fun r2 =>
 (self_act_reader_block r2.2).bind fun r3 =>
 some (api_Act.mk 7 a.Name a.Event a.X r2.1 r3.1 a.Else a.At, r3.2) else
 (read_Row_Want r1.2 s_if).bind fun r4 =>
 (act_reader_inside r4).bind fun r5 =>
 (self_act_reader_block r5.2).bind fun r6 =>
 (read_Row_Take r6.2 s_else).bind fun r7 =>
 bif r7.1 then
 (self_act_reader_block r7.2).bind fun r8 =>
 some (api_Act.mk 6 a.Name a.Event r5.1 a.N r6.1 r8.1 a.At, r8.2) else
 some (api_Act.mk 6 a.Name a.Event r5.1 a.N r6.1 a.Else a.At, r7.2)
noncomputable abbrev act_reader_whole_1_T (self_act_reader_block : act_reader → Option (List api_Act × act_reader)) : Tab S := ⟨[⟨57, [.obj [.data (.st 6)], .val (.data .str)], [.val (.data .bool)], fun x => read_Row_Take x.1 x.2⟩, ⟨115, [.obj [.data (.st 6)]], [.val (.data (.int .i64))], fun x => read_Row_Number x⟩, ⟨27, [.obj [.data (.st 6)]], [.val (.town (.st 3))], fun x => self_act_reader_block x⟩, ⟨56, [.obj [.data (.st 6)], .val (.data .str)], [], fun x => read_Row_Want x.1 x.2⟩, ⟨88, [.obj [.data (.st 6)]], [.val (.data (.sl (.st 4)))], fun x => act_reader_inside x⟩], [], false, false, none, []⟩
theorem act_reader_whole_1_snd (self_act_reader_block : act_reader → Option (List api_Act × act_reader)) (hself_act_reader_block : Snd Tryz.prog S ⟨27, [.obj [.data (.st 6)]], [.val (.town (.st 3))], fun x => self_act_reader_block x⟩) : Snd Tryz.prog S ⟨89, [.obj [.data (.st 6)], .val (.data (.st 3))], [.val (.data (.st 3))], fun x => act_reader_whole_1 self_act_reader_block x.1 x.2⟩ :=
 fn_ok0 progOk (T := (act_reader_whole_1_T self_act_reader_block)) (all_cons read_Row_Take_snd (all_cons read_Row_Number_snd (all_cons hself_act_reader_block (all_cons read_Row_Want_snd (all_cons act_reader_inside_snd (all_nil)))))) (all_nil) (all_nil) mixed Tryz.func89 rfl (by kernel_rfl) (ac_code [] Tryz.f89 rfl) (by kernel_rfl) (fun _ => by kernel_rfl) (by kernel_rfl) (by kernel_rfl) (Nat.le_of_ble_eq_true (by kernel_rfl)) (by kernel_rfl)
noncomputable def act_reader_act_1 (self_act_reader_block : act_reader → Option (List api_Act × act_reader))  (r_ : act_reader) : Option (api_Act × act_reader) := (read_Row_Look r_).bind fun r1 =>
 (read_Row_IsName r1.2).bind fun r2 =>
 bif r2.1 then
 (read_Row_Name r2.2).bind fun r3 =>
 (read_Row_Want r3.2 s_eq).bind fun r4 =>
 (act_reader_expr r4).bind fun r5 =>
 (read_Row_Want r5.2 s_semi).bind fun r6 =>
 some (api_Act.mk 1 r3.1 [] r5.1 0 [] [] r1.1.At, r6) else
 (read_Row_Take r2.2 s_raise).bind fun r7 =>
 bif r7.1 then
 (read_Row_Name r7.2).bind fun r8 =>
 (act_reader_number r8.2).bind fun r9 =>
 (read_Row_Want r9.2 s_semi).bind fun r10 =>
 some (api_Act.mk 2 [] r8.1 r9.1 0 [] [] r1.1.At, r10) else
 (read_Row_Take r7.2 s_send).bind fun r11 =>
 bif r11.1 then
 (read_Row_Name r11.2).bind fun r12 =>
 (read_Row_Name r12.2).bind fun r13 =>
 (act_reader_number r13.2).bind fun r14 =>
 (read_Row_Want r14.2 s_semi).bind fun r15 =>
 some (api_Act.mk 3 r12.1 r13.1 r14.1 0 [] [] r1.1.At, r15) else
 (read_Row_Take r11.2 s_arm).bind fun r16 =>
 bif r16.1 then
 (read_Row_Name r16.2).bind fun r17 =>
 (act_reader_inside r17.2).bind fun r18 =>
 (read_Row_Want r18.2 s_semi).bind fun r19 =>
 some (api_Act.mk 4 r17.1 [] r18.1 0 [] [] r1.1.At, r19) else
 (read_Row_Take r16.2 s_cancel).bind fun r20 =>
 bif r20.1 then
 (read_Row_Name r20.2).bind fun r21 =>
 (read_Row_Want r21.2 s_semi).bind fun r22 =>
 some (api_Act.mk 5 r21.1 [] [] 0 [] [] r1.1.At, r22) else
 (read_Row_Is r20.2 s_if).bind fun r23 =>
 bif r23.1 then
 bif r23.1 then
 (act_reader_whole_1 self_act_reader_block r23.2 (api_Act.mk 0 [] [] [] 0 [] [] r1.1.At)).bind fun r24 =>
 some (api_Act.mk r24.1.Kind r24.1.Name r24.1.Event r24.1.X r24.1.N r24.1.Then r24.1.Else r24.1.At, r24.2) else
 (read_Row_Wrong r23.2).bind fun r25 =>
 (read_Row_Want r25 s_semi).bind fun r26 =>
 some (api_Act.mk 0 [] [] [] 0 [] [] r1.1.At, r26) else
 (read_Row_Is r23.2 s_loop).bind fun r27 =>
 bif r27.1 then
 (act_reader_whole_1 self_act_reader_block r27.2 (api_Act.mk 0 [] [] [] 0 [] [] r1.1.At)).bind fun r28 =>
 some (api_Act.mk r28.1.Kind r28.1.Name r28.1.Event r28.1.X r28.1.N r28.1.Then r28.1.Else r28.1.At, r28.2) else
 (read_Row_Wrong r27.2).bind fun r29 =>
 (read_Row_Want r29 s_semi).bind fun r30 =>
 some (api_Act.mk 0 [] [] [] 0 [] [] r1.1.At, r30)
noncomputable abbrev act_reader_act_1_T (self_act_reader_block : act_reader → Option (List api_Act × act_reader)) : Tab S := ⟨[⟨55, [.obj [.data (.st 6)]], [.val (.data (.st 0))], fun x => read_Row_Look x⟩, ⟨84, [.obj [.data (.st 6)]], [.val (.data .bool)], fun x => read_Row_IsName x⟩, ⟨85, [.obj [.data (.st 6)]], [.val (.data .str)], fun x => read_Row_Name x⟩, ⟨56, [.obj [.data (.st 6)], .val (.data .str)], [], fun x => read_Row_Want x.1 x.2⟩, ⟨86, [.obj [.data (.st 6)]], [.val (.data (.sl (.st 4)))], fun x => act_reader_expr x⟩, ⟨57, [.obj [.data (.st 6)], .val (.data .str)], [.val (.data .bool)], fun x => read_Row_Take x.1 x.2⟩, ⟨87, [.obj [.data (.st 6)]], [.val (.data (.sl (.st 4)))], fun x => act_reader_number x⟩, ⟨88, [.obj [.data (.st 6)]], [.val (.data (.sl (.st 4)))], fun x => act_reader_inside x⟩, ⟨53, [.obj [.data (.st 6)], .val (.data .str)], [.val (.data .bool)], fun x => read_Row_Is x.1 x.2⟩, ⟨89, [.obj [.data (.st 6)], .val (.data (.st 3))], [.val (.data (.st 3))], fun x => act_reader_whole_1 self_act_reader_block x.1 x.2⟩, ⟨83, [.obj [.data (.st 6)]], [], fun x => read_Row_Wrong x⟩], [], false, false, none, []⟩
theorem act_reader_act_1_snd (self_act_reader_block : act_reader → Option (List api_Act × act_reader)) (hself_act_reader_block : Snd Tryz.prog S ⟨27, [.obj [.data (.st 6)]], [.val (.town (.st 3))], fun x => self_act_reader_block x⟩) : Snd Tryz.prog S ⟨58, [.obj [.data (.st 6)]], [.val (.data (.st 3))], fun x => act_reader_act_1 self_act_reader_block x⟩ :=
 fn_ok0 progOk (T := (act_reader_act_1_T self_act_reader_block)) (all_cons read_Row_Look_snd (all_cons read_Row_IsName_snd (all_cons read_Row_Name_snd (all_cons read_Row_Want_snd (all_cons act_reader_expr_snd (all_cons read_Row_Take_snd (all_cons act_reader_number_snd (all_cons act_reader_inside_snd (all_cons read_Row_Is_snd (all_cons (act_reader_whole_1_snd self_act_reader_block hself_act_reader_block) (all_cons read_Row_Wrong_snd (all_nil)))))))))))) (all_nil) (all_nil) mixed Tryz.func58 rfl (by kernel_rfl) (ac_code [] Tryz.f58 rfl) (by kernel_rfl) (fun _ => by kernel_rfl) (by kernel_rfl) (by kernel_rfl) (Nat.le_of_ble_eq_true (by kernel_rfl)) (by kernel_rfl)
noncomputable def act_reader_block_l0 (self_act_reader_block : act_reader → Option (List api_Act × act_reader)) : Nat → (List api_Token) → Int → Int → Int → Int → (List api_Act) → Option (List api_Act × act_reader)
 | 0, _, _, _, _, _, _ => none
 | k + 1, r__Row_L, r__Row_At, r__Row_Fault_Code, r__Row_Fault_At, r__v_open, l => (read_Row_OK (act_reader.mk (read_Row.mk r__Row_L r__Row_At (api_Fault.mk r__Row_Fault_Code r__Row_Fault_At)) r__v_open)).bind fun r5 =>
  bif r5.1 then
  (read_Row_Take r5.2 s_rb).bind fun r6 =>
  bif !r6.1 then
  (act_reader_act_1 self_act_reader_block r6.2).bind fun r7 =>
  if (l.length + [r7.1].length) * 128 ≤ 140737488355328 then
  act_reader_block_l0 self_act_reader_block k r7.2.Row.L r7.2.Row.At r7.2.Row.Fault.Code r7.2.Row.Fault.At r7.2.v_open (l ++ [r7.1]) else none else
  some (l, act_reader.mk r6.2.Row (w64 (r6.2.v_open - 1))) else
  some (l, act_reader.mk r5.2.Row (w64 (r5.2.v_open - 1)))
noncomputable def act_reader_block_c0 (self_act_reader_block : act_reader → Option (List api_Act × act_reader)) : Nat → (List api_Token) → Int → Int → Int → Int → Option (List api_Act × act_reader)
 | 0, _, _, _, _, _ => none
 | k + 1, r__Row_L, r__Row_At, r__Row_Fault_Code, r__Row_Fault_At, r__v_open => (read_Row_Want (act_reader.mk (read_Row.mk r__Row_L r__Row_At (api_Fault.mk r__Row_Fault_Code r__Row_Fault_At)) r__v_open) s_lb).bind fun r4 =>
  act_reader_block_l0 self_act_reader_block k r4.Row.L r4.Row.At r4.Row.Fault.Code r4.Row.Fault.At (w64 (r4.v_open + 1)) []
noncomputable def act_reader_block_b (self_act_reader_block : act_reader → Option (List api_Act × act_reader)) (k : Nat) (r_ : act_reader) : Option (List api_Act × act_reader) := (read_Row_Is r_ s_lb).bind fun r1 =>
 bif r1.1 then
 if r1.2.v_open = 4 then
 (read_Row_Look r1.2).bind fun r2 =>
 (read_Row_Fail r2.2 14 r2.1.At).bind fun r3 =>
 act_reader_block_c0 self_act_reader_block k r3.Row.L r3.Row.At r3.Row.Fault.Code r3.Row.Fault.At r3.v_open else
 act_reader_block_c0 self_act_reader_block k r1.2.Row.L r1.2.Row.At r1.2.Row.Fault.Code r1.2.Row.Fault.At r1.2.v_open else
 act_reader_block_c0 self_act_reader_block k r1.2.Row.L r1.2.Row.At r1.2.Row.Fault.Code r1.2.Row.Fault.At r1.2.v_open
noncomputable def act_reader_block_f : Nat → act_reader → Option (List api_Act × act_reader)
 | 0, _ => none
 | k + 1, x0 => act_reader_block_b (act_reader_block_f k) k x0
noncomputable def act_reader_block  (r_ : act_reader) : Option (List api_Act × act_reader) := lim (fun k (x : act_reader) => act_reader_block_f k x) r_
noncomputable abbrev act_reader_block_T (self_act_reader_block : act_reader → Option (List api_Act × act_reader)) : Tab S := ⟨[⟨53, [.obj [.data (.st 6)], .val (.data .str)], [.val (.data .bool)], fun x => read_Row_Is x.1 x.2⟩, ⟨55, [.obj [.data (.st 6)]], [.val (.data (.st 0))], fun x => read_Row_Look x⟩, ⟨54, [.obj [.data (.st 6)], .val (.data (.int .i64)), .val (.data (.int .i64))], [], fun x => read_Row_Fail x.1 x.2.1 x.2.2⟩, ⟨56, [.obj [.data (.st 6)], .val (.data .str)], [], fun x => read_Row_Want x.1 x.2⟩, ⟨28, [.obj [.data (.st 6)]], [.val (.data .bool)], fun x => read_Row_OK x⟩, ⟨57, [.obj [.data (.st 6)], .val (.data .str)], [.val (.data .bool)], fun x => read_Row_Take x.1 x.2⟩, ⟨58, [.obj [.data (.st 6)]], [.val (.data (.st 3))], fun x => act_reader_act_1 self_act_reader_block x⟩], [], false, false, none, []⟩
noncomputable def act_reader_block_L (self_act_reader_block : act_reader → Option (List api_Act × act_reader)) (k : Nat) : Nat → List (Lab S (List api_Act × act_reader))
 | 0 => [⟨[0, 3], [.obj [.data (.sl (.st 0)), .data (.int .i64), .data (.int .i64), .data (.int .i64), .data (.int .i64)], .val (.town (.st 3))], fun x => act_reader_block_l0 self_act_reader_block k x.1.1 x.1.2.1 x.1.2.2.1 x.1.2.2.2.1 x.1.2.2.2.2 x.2, false⟩]
 | 1 => [⟨[0], [.obj [.data (.sl (.st 0)), .data (.int .i64), .data (.int .i64), .data (.int .i64), .data (.int .i64)]], fun x => act_reader_block_c0 self_act_reader_block k x.1 x.2.1 x.2.2.1 x.2.2.2.1 x.2.2.2.2, false⟩]
 | _ + 2 => []
theorem act_reader_block_eq (self_act_reader_block : act_reader → Option (List api_Act × act_reader)) (k : Nat) (r_ : act_reader) : act_reader_block_b self_act_reader_block k r_ = exec S (act_reader_block_T self_act_reader_block) byt (labs S (act_reader_block_T self_act_reader_block) (act_reader_block_L self_act_reader_block k)) (ac [1] Tryz.f27) (frame0 S [.obj [.data (.st 6)]] r_) (retK S (act_reader_block_T self_act_reader_block) Tryz.f27 [.obj [.data (.st 6)]] [.val (.town (.st 3))]) := by kernel_rfl
theorem act_reader_block_vc (self_act_reader_block : act_reader → Option (List api_Act × act_reader)) (k : Nat) : VC S (act_reader_block_T self_act_reader_block) byt (act_reader_block_L self_act_reader_block k) (act_reader_block_L self_act_reader_block (k + 1)) (ac [1] Tryz.f27) (retK S (act_reader_block_T self_act_reader_block) Tryz.f27 [.obj [.data (.st 6)]] [.val (.town (.st 3))]) = [∀ x : (List api_Token × Int × Int × Int × Int) × List api_Act, act_reader_block_l0 self_act_reader_block (k + 1) x.1.1 x.1.2.1 x.1.2.2.1 x.1.2.2.2.1 x.1.2.2.2.2 x.2 = act_reader_block_l0 self_act_reader_block (k + 1) x.1.1 x.1.2.1 x.1.2.2.1 x.1.2.2.2.1 x.1.2.2.2.2 x.2, ∀ x : (List api_Token × Int × Int × Int × Int), act_reader_block_c0 self_act_reader_block (k + 1) x.1 x.2.1 x.2.2.1 x.2.2.2.1 x.2.2.2.2 = act_reader_block_c0 self_act_reader_block (k + 1) x.1 x.2.1 x.2.2.1 x.2.2.2.1 x.2.2.2.2] := by kernel_rfl
theorem act_reader_block_sndk (self_act_reader_block : act_reader → Option (List api_Act × act_reader)) (hself : Snd Tryz.prog S ⟨27, [.obj [.data (.st 6)]], [.val (.town (.st 3))], fun x => self_act_reader_block x⟩) (k : Nat) : Snd Tryz.prog S ⟨27, [.obj [.data (.st 6)]], [.val (.town (.st 3))], fun x => act_reader_block_b self_act_reader_block k x⟩ :=
 fn_ok progOk (T := (act_reader_block_T self_act_reader_block)) (all_cons read_Row_Is_snd (all_cons read_Row_Look_snd (all_cons read_Row_Fail_snd (all_cons read_Row_Want_snd (all_cons read_Row_OK_snd (all_cons read_Row_Take_snd (all_cons (act_reader_act_1_snd self_act_reader_block hself) (all_nil)))))))) (all_nil) (all_nil) mixed Tryz.func27 rfl (by kernel_rfl) (ac_code [1] Tryz.f27 rfl) (L := act_reader_block_L self_act_reader_block)
  (fun n l h x => by match n, h with
   | 0, h =>
    rcases List.mem_cons.1 h with rfl | h
    · rfl
    cases h
   | 1, h =>
    rcases List.mem_cons.1 h with rfl | h
    · rfl
    cases h
   | _ + 2, h => cases h) (fun k n l h => by match n, h with
   | 0, h =>
    rcases List.mem_cons.1 h with rfl | h
    · rfl
    cases h
   | 1, h =>
    rcases List.mem_cons.1 h with rfl | h
    · rfl
    cases h
   | _ + 2, h => cases h)
  (fun k => All.mem (act_reader_block_vc self_act_reader_block k) ⟨fun _ => rfl, ⟨fun _ => rfl, trivial⟩⟩) (fun x r h => ⟨k, (act_reader_block_eq self_act_reader_block k x).symm.trans h⟩) (by kernel_rfl) (by kernel_rfl) (Nat.le_of_ble_eq_true (by kernel_rfl)) (by kernel_rfl)
theorem act_reader_block_sndf : ∀ k, Snd Tryz.prog S ⟨27, [.obj [.data (.st 6)]], [.val (.town (.st 3))], fun x => act_reader_block_f k x⟩
 | 0 => Snd.none ⟨_, Tryz.func27, by kernel_rfl, by kernel_rfl⟩ fun _ => rfl
 | k + 1 => act_reader_block_sndk (act_reader_block_f k) (act_reader_block_sndf k) k
theorem act_reader_block_snd : Snd Tryz.prog S ⟨27, [.obj [.data (.st 6)]], [.val (.town (.st 3))], fun x => act_reader_block x⟩ := Snd.lim (act_reader_block_sndf)
noncomputable def act_Parse  (l : List api_Token) (v_at : Int) : Option (List api_Act × Int × api_Fault) := (act_reader_block (act_reader.mk (read_Row.mk l v_at (api_Fault.mk 0 0)) 0)).bind fun r1 =>
 (read_Row_OK r1.2).bind fun r2 =>
 bif !r2.1 then
 some ([], 0, r2.2.Row.Fault) else
 some (r1.1, r2.2.Row.At, api_Fault.mk 0 0)
noncomputable abbrev act_Parse_T : Tab S := ⟨[⟨27, [.obj [.data (.st 6)]], [.val (.town (.st 3))], fun x => act_reader_block x⟩, ⟨28, [.obj [.data (.st 6)]], [.val (.data .bool)], fun x => read_Row_OK x⟩], [], false, false, none, []⟩
theorem act_Parse_snd : Snd Tryz.prog S ⟨11, [.val (.data (.sl (.st 0))), .val (.data (.int .i64))], [.val (.town (.st 3)), .val (.data (.int .i64)), .val (.data (.st 1))], fun x => act_Parse x.1 x.2⟩ :=
 fn_ok0 progOk (T := (act_Parse_T)) (all_cons act_reader_block_snd (all_cons read_Row_OK_snd (all_nil))) (all_nil) (all_nil) mixed Tryz.func11 rfl (by kernel_rfl) (ac_code [] Tryz.f11 rfl) (by kernel_rfl) (fun _ => by kernel_rfl) (by kernel_rfl) (by kernel_rfl) (Nat.le_of_ble_eq_true (by kernel_rfl)) (by kernel_rfl)
noncomputable def law8_read  (s : List UInt8) : Option (List api_Act × Bool) := (lex_All s).bind fun r1 =>
 if r1.2.Code ≠ 0 then
 some ([], false) else
 (act_Parse r1.1 0).bind fun r2 =>
 if r2.2.2.Code = 0 then
 some (r2.1, decide (r2.2.1 = (w64 ((r1.1.length : Int) - 1)))) else
 some (r2.1, false)
noncomputable abbrev law8_read_T : Tab S := ⟨[⟨18, [.val (.data .str)], [.val (.town (.st 0)), .val (.data (.st 1))], fun x => lex_All x⟩, ⟨11, [.val (.data (.sl (.st 0))), .val (.data (.int .i64))], [.val (.town (.st 3)), .val (.data (.int .i64)), .val (.data (.st 1))], fun x => act_Parse x.1 x.2⟩], [], false, false, none, []⟩
theorem law8_read_snd : Snd Tryz.prog S ⟨21, [.val (.data .str)], [.val (.town (.st 3)), .val (.data .bool)], fun x => law8_read x⟩ :=
 fn_ok0 progOk (T := (law8_read_T)) (all_cons lex_All_snd (all_cons act_Parse_snd (all_nil))) (all_nil) (all_nil) mixed Tryz.func21 rfl (by kernel_rfl) (ac_code [] Tryz.f21 rfl) (by kernel_rfl) (fun _ => by kernel_rfl) (by kernel_rfl) (by kernel_rfl) (Nat.le_of_ble_eq_true (by kernel_rfl)) (by kernel_rfl)
noncomputable def expr_between_l0 : Nat → Int → (List UInt8 × List UInt8 × List UInt8 × List UInt8 × List UInt8 × List UInt8 × List UInt8 × List UInt8 × List UInt8 × List UInt8 × List UInt8 × List UInt8 × List UInt8) → Int → Option (List UInt8 × Int)
 | 0, _, _, _ => none
 | k + 1, kind, x8, x9 => if x9 < 13 then
  if 0 ≤ x9 then
  if x9 < ([x8.1, x8.2.1, x8.2.2.1, x8.2.2.2.1, x8.2.2.2.2.1, x8.2.2.2.2.2.1, x8.2.2.2.2.2.2.1, x8.2.2.2.2.2.2.2.1, x8.2.2.2.2.2.2.2.2.1, x8.2.2.2.2.2.2.2.2.2.1, x8.2.2.2.2.2.2.2.2.2.2.1, x8.2.2.2.2.2.2.2.2.2.2.2.1, x8.2.2.2.2.2.2.2.2.2.2.2.2].length : Int) then
  (expr_sign ([x8.1, x8.2.1, x8.2.2.1, x8.2.2.2.1, x8.2.2.2.2.1, x8.2.2.2.2.2.1, x8.2.2.2.2.2.2.1, x8.2.2.2.2.2.2.2.1, x8.2.2.2.2.2.2.2.2.1, x8.2.2.2.2.2.2.2.2.2.1, x8.2.2.2.2.2.2.2.2.2.2.1, x8.2.2.2.2.2.2.2.2.2.2.2.1, x8.2.2.2.2.2.2.2.2.2.2.2.2].getD x9.toNat [])).bind fun r1 =>
  if r1.1 = kind then
  some ([x8.1, x8.2.1, x8.2.2.1, x8.2.2.2.1, x8.2.2.2.2.1, x8.2.2.2.2.2.1, x8.2.2.2.2.2.2.1, x8.2.2.2.2.2.2.2.1, x8.2.2.2.2.2.2.2.2.1, x8.2.2.2.2.2.2.2.2.2.1, x8.2.2.2.2.2.2.2.2.2.2.1, x8.2.2.2.2.2.2.2.2.2.2.2.1, x8.2.2.2.2.2.2.2.2.2.2.2.2].getD x9.toNat [], r1.2) else
  expr_between_l0 k kind x8 (w64 (x9 + 1)) else none else none else
  some ([], 0)
noncomputable def expr_between_f (k : Nat) (kind : Int) : Option (List UInt8 × Int) := expr_between_l0 k kind arr_x03b7b 0
noncomputable def expr_between  (kind : Int) : Option (List UInt8 × Int) := lim (fun k (x : Int) => expr_between_f k x) kind
noncomputable abbrev expr_between_T : Tab S := ⟨[⟨148, [.val (.data .str)], [.val (.data (.int .i64)), .val (.data (.int .i64))], fun x => expr_sign x⟩], [], false, false, none, []⟩
noncomputable def expr_between_L (k : Nat) : Nat → List (Lab S (List UInt8 × Int))
 | 0 => [⟨[0, 8, 9], [.val (.data (.int .i64)), .val (.data (.st 9)), .val (.data (.int .i64))], fun x => expr_between_l0 k x.1 x.2.1 x.2.2, false⟩]
 | _ + 1 => []
theorem expr_between_eq (k : Nat) (kind : Int) : expr_between_f k kind = exec S (expr_between_T) byt (labs S (expr_between_T) (expr_between_L k)) (ac [] Tryz.f143) (frame0 S [.val (.data (.int .i64))] kind) (retK S (expr_between_T) Tryz.f143 [.val (.data (.int .i64))] [.val (.data .str), .val (.data (.int .i64))]) := by kernel_rfl
theorem expr_between_vc (k : Nat) : VC S (expr_between_T) byt (expr_between_L k) (expr_between_L (k + 1)) (ac [] Tryz.f143) (retK S (expr_between_T) Tryz.f143 [.val (.data (.int .i64))] [.val (.data .str), .val (.data (.int .i64))]) = [∀ x : Int × (List UInt8 × List UInt8 × List UInt8 × List UInt8 × List UInt8 × List UInt8 × List UInt8 × List UInt8 × List UInt8 × List UInt8 × List UInt8 × List UInt8 × List UInt8) × Int, expr_between_l0 (k + 1) x.1 x.2.1 x.2.2 = expr_between_l0 (k + 1) x.1 x.2.1 x.2.2] := by kernel_rfl
theorem expr_between_sndk (k : Nat) : Snd Tryz.prog S ⟨143, [.val (.data (.int .i64))], [.val (.data .str), .val (.data (.int .i64))], fun x => expr_between_f k x⟩ :=
 fn_ok progOk (T := (expr_between_T)) (all_cons expr_sign_snd (all_nil)) (all_nil) (all_nil) mixed Tryz.func143 rfl (by kernel_rfl) (ac_code [] Tryz.f143 rfl) (L := expr_between_L)
  (fun n l h x => by match n, h with
   | 0, h =>
    rcases List.mem_cons.1 h with rfl | h
    · rfl
    cases h
   | _ + 1, h => cases h) (fun k n l h => by match n, h with
   | 0, h =>
    rcases List.mem_cons.1 h with rfl | h
    · rfl
    cases h
   | _ + 1, h => cases h)
  (fun k => All.mem (expr_between_vc k) ⟨fun _ => rfl, trivial⟩) (fun x r h => ⟨k, (expr_between_eq k x).symm.trans h⟩) (by kernel_rfl) (by kernel_rfl) (Nat.le_of_ble_eq_true (by kernel_rfl)) (by kernel_rfl)
theorem expr_between_snd : Snd Tryz.prog S ⟨143, [.val (.data (.int .i64))], [.val (.data .str), .val (.data (.int .i64))], fun x => expr_between x⟩ := Snd.lim (expr_between_sndk)
noncomputable def expr_level  (kind : Int) : Option Int := if kind = 5 then
 some 6 else
 if kind = 6 then
 some 6 else
 (expr_between kind).bind fun r1 =>
 if 0 < r1.2 then
 some r1.2 else
 some 7
noncomputable abbrev expr_level_T : Tab S := ⟨[⟨143, [.val (.data (.int .i64))], [.val (.data .str), .val (.data (.int .i64))], fun x => expr_between x⟩], [], false, false, none, []⟩
theorem expr_level_snd : Snd Tryz.prog S ⟨123, [.val (.data (.int .i64))], [.val (.data (.int .i64))], fun x => expr_level x⟩ :=
 fn_ok0 progOk (T := (expr_level_T)) (all_cons expr_between_snd (all_nil)) (all_nil) (all_nil) mixed Tryz.func123 rfl (by kernel_rfl) (ac_code [] Tryz.f123 rfl) (by kernel_rfl) (fun _ => by kernel_rfl) (by kernel_rfl) (by kernel_rfl) (Nat.le_of_ble_eq_true (by kernel_rfl)) (by kernel_rfl)
noncomputable def expr_places  (kind : Int) : Option (List Int) := (expr_level kind).bind fun r1 =>
 if r1 = 7 then
 some [] else
 if r1 = 6 then
 some [6] else
 if r1 = 3 then
 some [4, 4] else
 some [r1, w64 (r1 + 1)]
noncomputable abbrev expr_places_T : Tab S := ⟨[⟨123, [.val (.data (.int .i64))], [.val (.data (.int .i64))], fun x => expr_level x⟩], [], false, false, none, []⟩
theorem expr_places_snd : Snd Tryz.prog S ⟨124, [.val (.data (.int .i64))], [.val (.data (.sl (.int .i64)))], fun x => expr_places x⟩ :=
 fn_ok0 progOk (T := (expr_places_T)) (all_cons expr_level_snd (all_nil)) (all_nil) (all_nil) mixed Tryz.func124 rfl (by kernel_rfl) (ac_code [] Tryz.f124 rfl) (by kernel_rfl) (fun _ => by kernel_rfl) (by kernel_rfl) (by kernel_rfl) (Nat.le_of_ble_eq_true (by kernel_rfl)) (by kernel_rfl)
noncomputable def expr_write_l0 (self_expr_write : (List UInt8) → api_Expr → Int → Option (List UInt8)) : Nat → (List UInt8) → Int → Int → (List UInt8) → (List api_Expr) → Int → (List Int) → Int → Int → Option (List UInt8)
 | 0, _, _, _, _, _, _, _, _, _ => none
 | k + 1, b, e_Kind, e_N, e_Name, e_Kids, e_At, x55, x56, x57 => if x57 < x56 then
  if 0 ≤ x57 then
  if x57 < (x55.length : Int) then
  if (e_Kids.length : Int) ≤ x57 then
  (bldByte b 41).bind fun r31 =>
  some r31.2 else
  if 0 < x57 then
  (expr_between e_Kind).bind fun r32 =>
  if s_sp.length + r32.1.length ≤ 9223372036854775807 then
  if (s_sp ++ r32.1).length + s_sp.length ≤ 9223372036854775807 then
  (bldStr b ((s_sp ++ r32.1) ++ s_sp)).bind fun r33 =>
  if 0 ≤ x57 then
  if x57 < (e_Kids.length : Int) then
  (self_expr_write r33.2.2 (e_Kids.getD x57.toNat api_Expr.z) (x55.getD x57.toNat 0)).bind fun r34 =>
  expr_write_l0 self_expr_write k r34 e_Kind e_N e_Name e_Kids e_At x55 x56 (w64 (x57 + 1)) else none else none else none else none else
  if 0 ≤ x57 then
  if x57 < (e_Kids.length : Int) then
  (self_expr_write b (e_Kids.getD x57.toNat api_Expr.z) (x55.getD x57.toNat 0)).bind fun r35 =>
  expr_write_l0 self_expr_write k r35 e_Kind e_N e_Name e_Kids e_At x55 x56 (w64 (x57 + 1)) else none else none else none else none else
  (bldByte b 41).bind fun r36 =>
  some r36.2
noncomputable def expr_write_l0b (self_expr_write : (List UInt8) → api_Expr → Int → Option (List UInt8)) : Nat → (List UInt8) → Int → Int → (List UInt8) → (List api_Expr) → Int → (List Int) → Int → Int → Option (List UInt8)
 | 0, _, _, _, _, _, _, _, _, _ => none
 | k + 1, b, e_Kind, e_N, e_Name, e_Kids, e_At, x55, x56, x57 => if x57 < x56 then
  if 0 ≤ x57 then
  if x57 < (x55.length : Int) then
  if (e_Kids.length : Int) ≤ x57 then
  some b else
  if 0 < x57 then
  (expr_between e_Kind).bind fun r37 =>
  if s_sp.length + r37.1.length ≤ 9223372036854775807 then
  if (s_sp ++ r37.1).length + s_sp.length ≤ 9223372036854775807 then
  (bldStr b ((s_sp ++ r37.1) ++ s_sp)).bind fun r38 =>
  if 0 ≤ x57 then
  if x57 < (e_Kids.length : Int) then
  (self_expr_write r38.2.2 (e_Kids.getD x57.toNat api_Expr.z) (x55.getD x57.toNat 0)).bind fun r39 =>
  expr_write_l0b self_expr_write k r39 e_Kind e_N e_Name e_Kids e_At x55 x56 (w64 (x57 + 1)) else none else none else none else none else
  if 0 ≤ x57 then
  if x57 < (e_Kids.length : Int) then
  (self_expr_write b (e_Kids.getD x57.toNat api_Expr.z) (x55.getD x57.toNat 0)).bind fun r40 =>
  expr_write_l0b self_expr_write k r40 e_Kind e_N e_Name e_Kids e_At x55 x56 (w64 (x57 + 1)) else none else none else none else none else
  some b
noncomputable def expr_write_b (self_expr_write : (List UInt8) → api_Expr → Int → Option (List UInt8)) (k : Nat) (b : List UInt8) (e : api_Expr) (asked : Int) : Option (List UInt8) := (expr_level e.Kind).bind fun r1 =>
 if r1 < asked then
 (bldByte b 40).bind fun r2 =>
 if e.Kind = 1 then
 (p_FormatInt e.N 10).bind fun r3 =>
 (bldStr r2.2 r3).bind fun r4 =>
 (expr_places e.Kind).bind fun r5 =>
 expr_write_l0 self_expr_write k r4.2.2 e.Kind e.N e.Name e.Kids e.At r5 (r5.length : Int) 0 else
 if e.Kind = 3 then
 (bldByte r2.2 36).bind fun r6 =>
 (expr_places e.Kind).bind fun r7 =>
 expr_write_l0 self_expr_write k r6.2 e.Kind e.N e.Name e.Kids e.At r7 (r7.length : Int) 0 else
 if e.Kind = 2 then
 (bldStr r2.2 e.Name).bind fun r8 =>
 (expr_places e.Kind).bind fun r9 =>
 expr_write_l0 self_expr_write k r8.2.2 e.Kind e.N e.Name e.Kids e.At r9 (r9.length : Int) 0 else
 if e.Kind = 4 then
 if s_in_xcc76e.length + e.Name.length ≤ 9223372036854775807 then
 if (s_in_xcc76e ++ e.Name).length + s_rp.length ≤ 9223372036854775807 then
 (bldStr r2.2 ((s_in_xcc76e ++ e.Name) ++ s_rp)).bind fun r10 =>
 (expr_places e.Kind).bind fun r11 =>
 expr_write_l0 self_expr_write k r10.2.2 e.Kind e.N e.Name e.Kids e.At r11 (r11.length : Int) 0 else none else none else
 if e.Kind = 5 then
 (bldByte r2.2 45).bind fun r12 =>
 (expr_places e.Kind).bind fun r13 =>
 expr_write_l0 self_expr_write k r12.2 e.Kind e.N e.Name e.Kids e.At r13 (r13.length : Int) 0 else
 if e.Kind = 6 then
 (bldByte r2.2 33).bind fun r14 =>
 (expr_places e.Kind).bind fun r15 =>
 expr_write_l0 self_expr_write k r14.2 e.Kind e.N e.Name e.Kids e.At r15 (r15.length : Int) 0 else
 (expr_places e.Kind).bind fun r16 =>
 expr_write_l0 self_expr_write k r2.2 e.Kind e.N e.Name e.Kids e.At r16 (r16.length : Int) 0 else
 if e.Kind = 1 then
 (p_FormatInt e.N 10).bind fun r17 =>
 (bldStr b r17).bind fun r18 =>
 (expr_places e.Kind).bind fun r19 =>
 expr_write_l0b self_expr_write k r18.2.2 e.Kind e.N e.Name e.Kids e.At r19 (r19.length : Int) 0 else
 if e.Kind = 3 then
 (bldByte b 36).bind fun r20 =>
 (expr_places e.Kind).bind fun r21 =>
 expr_write_l0b self_expr_write k r20.2 e.Kind e.N e.Name e.Kids e.At r21 (r21.length : Int) 0 else
 if e.Kind = 2 then
 (bldStr b e.Name).bind fun r22 =>
 (expr_places e.Kind).bind fun r23 =>
 expr_write_l0b self_expr_write k r22.2.2 e.Kind e.N e.Name e.Kids e.At r23 (r23.length : Int) 0 else
 if e.Kind = 4 then
 if s_in_xcc76e.length + e.Name.length ≤ 9223372036854775807 then
 if (s_in_xcc76e ++ e.Name).length + s_rp.length ≤ 9223372036854775807 then
 (bldStr b ((s_in_xcc76e ++ e.Name) ++ s_rp)).bind fun r24 =>
 (expr_places e.Kind).bind fun r25 =>
 expr_write_l0b self_expr_write k r24.2.2 e.Kind e.N e.Name e.Kids e.At r25 (r25.length : Int) 0 else none else none else
 if e.Kind = 5 then
 (bldByte b 45).bind fun r26 =>
 (expr_places e.Kind).bind fun r27 =>
 expr_write_l0b self_expr_write k r26.2 e.Kind e.N e.Name e.Kids e.At r27 (r27.length : Int) 0 else
 if e.Kind = 6 then
 (bldByte b 33).bind fun r28 =>
 (expr_places e.Kind).bind fun r29 =>
 expr_write_l0b self_expr_write k r28.2 e.Kind e.N e.Name e.Kids e.At r29 (r29.length : Int) 0 else
 (expr_places e.Kind).bind fun r30 =>
 expr_write_l0b self_expr_write k b e.Kind e.N e.Name e.Kids e.At r30 (r30.length : Int) 0
noncomputable def expr_write_f : Nat → (List UInt8) → api_Expr → Int → Option (List UInt8)
 | 0, _, _, _ => none
 | k + 1, x0, x1, x2 => expr_write_b (expr_write_f k) k x0 x1 x2
noncomputable def expr_write  (b : List UInt8) (e : api_Expr) (asked : Int) : Option (List UInt8) := lim (fun k (x : List UInt8 × api_Expr × Int) => expr_write_f k x.1 x.2.1 x.2.2) (b, e, asked)
noncomputable abbrev expr_write_T (self_expr_write : (List UInt8) → api_Expr → Int → Option (List UInt8)) : Tab S := ⟨[⟨123, [.val (.data (.int .i64))], [.val (.data (.int .i64))], fun x => expr_level x⟩, ⟨81, [.bld, .val (.data (.int .u8))], [.err], fun x => bldByte x.1 x.2⟩, ⟨145, [.val (.data (.int .i64)), .val (.data (.int .i64))], [.val (.data .str)], fun x => p_FormatInt x.1 x.2⟩, ⟨78, [.bld, .val (.data .str)], [.val (.data (.int .i64)), .err], fun x => bldStr x.1 x.2⟩, ⟨124, [.val (.data (.int .i64))], [.val (.data (.sl (.int .i64)))], fun x => expr_places x⟩, ⟨143, [.val (.data (.int .i64))], [.val (.data .str), .val (.data (.int .i64))], fun x => expr_between x⟩, ⟨130, [.bld, .val (.data (.st 4)), .val (.data (.int .i64))], [], fun x => self_expr_write x.1 x.2.1 x.2.2⟩], [], false, false, some (81, [.tmp 0, .const (.int .u8 41)]), [⟨81, [.bld, .val (.data (.int .u8))], [.err], fun x => bldByte x.1 x.2⟩]⟩
noncomputable def expr_write_L (self_expr_write : (List UInt8) → api_Expr → Int → Option (List UInt8)) (k : Nat) : Nat → List (Lab S (List UInt8))
 | 0 => [⟨[0, 4, 55, 56, 57], [.bld, .obj [.data (.int .i64), .data (.int .i64), .data .str, .data (.sl (.st 4)), .data (.int .i64)], .val (.data (.sl (.int .i64))), .val (.data (.int .i64)), .val (.data (.int .i64))], fun x => expr_write_l0 self_expr_write k x.1 x.2.1.1 x.2.1.2.1 x.2.1.2.2.1 x.2.1.2.2.2.1 x.2.1.2.2.2.2 x.2.2.1 x.2.2.2.1 x.2.2.2.2, true⟩, ⟨[0, 4, 55, 56, 57], [.bld, .obj [.data (.int .i64), .data (.int .i64), .data .str, .data (.sl (.st 4)), .data (.int .i64)], .val (.data (.sl (.int .i64))), .val (.data (.int .i64)), .val (.data (.int .i64))], fun x => expr_write_l0b self_expr_write k x.1 x.2.1.1 x.2.1.2.1 x.2.1.2.2.1 x.2.1.2.2.2.1 x.2.1.2.2.2.2 x.2.2.1 x.2.2.2.1 x.2.2.2.2, false⟩]
 | _ + 1 => []
theorem expr_write_eq (self_expr_write : (List UInt8) → api_Expr → Int → Option (List UInt8)) (k : Nat) (b : List UInt8) (e : api_Expr) (asked : Int) : expr_write_b self_expr_write k b e asked = exec S (expr_write_T self_expr_write) byt (labs S (expr_write_T self_expr_write) (expr_write_L self_expr_write k)) (ac [] Tryz.f130) (frame0 S [.bld, .val (.data (.st 4)), .val (.data (.int .i64))] (b, e, asked)) (retK S (expr_write_T self_expr_write) Tryz.f130 [.bld, .val (.data (.st 4)), .val (.data (.int .i64))] []) := by kernel_rfl
theorem expr_write_vc (self_expr_write : (List UInt8) → api_Expr → Int → Option (List UInt8)) (k : Nat) : VC S (expr_write_T self_expr_write) byt (expr_write_L self_expr_write k) (expr_write_L self_expr_write (k + 1)) (ac [] Tryz.f130) (retK S (expr_write_T self_expr_write) Tryz.f130 [.bld, .val (.data (.st 4)), .val (.data (.int .i64))] []) = [∀ x : List UInt8 × (Int × Int × List UInt8 × List api_Expr × Int) × List Int × Int × Int, expr_write_l0 self_expr_write (k + 1) x.1 x.2.1.1 x.2.1.2.1 x.2.1.2.2.1 x.2.1.2.2.2.1 x.2.1.2.2.2.2 x.2.2.1 x.2.2.2.1 x.2.2.2.2 = expr_write_l0 self_expr_write (k + 1) x.1 x.2.1.1 x.2.1.2.1 x.2.1.2.2.1 x.2.1.2.2.2.1 x.2.1.2.2.2.2 x.2.2.1 x.2.2.2.1 x.2.2.2.2, ∀ x : List UInt8 × (Int × Int × List UInt8 × List api_Expr × Int) × List Int × Int × Int, expr_write_l0b self_expr_write (k + 1) x.1 x.2.1.1 x.2.1.2.1 x.2.1.2.2.1 x.2.1.2.2.2.1 x.2.1.2.2.2.2 x.2.2.1 x.2.2.2.1 x.2.2.2.2 = expr_write_l0b self_expr_write (k + 1) x.1 x.2.1.1 x.2.1.2.1 x.2.1.2.2.1 x.2.1.2.2.2.1 x.2.1.2.2.2.2 x.2.2.1 x.2.2.2.1 x.2.2.2.2] := by kernel_rfl
theorem expr_write_sndk (self_expr_write : (List UInt8) → api_Expr → Int → Option (List UInt8)) (hself : Snd Tryz.prog S ⟨130, [.bld, .val (.data (.st 4)), .val (.data (.int .i64))], [], fun x => self_expr_write x.1 x.2.1 x.2.2⟩) (k : Nat) : Snd Tryz.prog S ⟨130, [.bld, .val (.data (.st 4)), .val (.data (.int .i64))], [], fun x => expr_write_b self_expr_write k x.1 x.2.1 x.2.2⟩ :=
 fn_ok progOk (T := (expr_write_T self_expr_write)) (all_cons expr_level_snd (all_cons p_bldByte_snd81 (all_cons p_FormatInt_snd145 (all_cons p_bldStr_snd78 (all_cons expr_places_snd (all_cons expr_between_snd (all_cons hself (all_nil)))))))) (all_cons p_bldByte_sndD81 (all_nil)) (all_nil) mixed Tryz.func130 rfl (by kernel_rfl) (ac_code [] Tryz.f130 rfl) (L := expr_write_L self_expr_write)
  (fun n l h x => by match n, h with
   | 0, h =>
    rcases List.mem_cons.1 h with rfl | h
    · rfl
    rcases List.mem_cons.1 h with rfl | h
    · rfl
    cases h
   | _ + 1, h => cases h) (fun k n l h => by match n, h with
   | 0, h =>
    rcases List.mem_cons.1 h with rfl | h
    · rfl
    rcases List.mem_cons.1 h with rfl | h
    · rfl
    cases h
   | _ + 1, h => cases h)
  (fun k => All.mem (expr_write_vc self_expr_write k) ⟨fun _ => rfl, ⟨fun _ => rfl, trivial⟩⟩) (fun x r h => ⟨k, (expr_write_eq self_expr_write k x.1 x.2.1 x.2.2).symm.trans h⟩) (by kernel_rfl) (by kernel_rfl) (Nat.le_of_ble_eq_true (by kernel_rfl)) (by kernel_rfl)
theorem expr_write_sndf : ∀ k, Snd Tryz.prog S ⟨130, [.bld, .val (.data (.st 4)), .val (.data (.int .i64))], [], fun x => expr_write_f k x.1 x.2.1 x.2.2⟩
 | 0 => Snd.none ⟨_, Tryz.func130, by kernel_rfl, by kernel_rfl⟩ fun _ => rfl
 | k + 1 => expr_write_sndk (expr_write_f k) (expr_write_sndf k) k
theorem expr_write_snd : Snd Tryz.prog S ⟨130, [.bld, .val (.data (.st 4)), .val (.data (.int .i64))], [], fun x => expr_write x.1 x.2.1 x.2.2⟩ := Snd.lim (expr_write_sndf)
noncomputable def expr_Print  (e : api_Expr) : Option (List UInt8) := (expr_write [] (api_Expr.mk e.Kind e.N e.Name e.Kids e.At) 1).bind fun r1 =>
 (bldRead r1).bind fun r2 =>
 some r2.1
noncomputable abbrev expr_Print_T : Tab S := ⟨[⟨130, [.bld, .val (.data (.st 4)), .val (.data (.int .i64))], [], fun x => expr_write x.1 x.2.1 x.2.2⟩, ⟨42, [.bld], [.val (.data .str)], fun x => bldRead x⟩], [], false, false, none, []⟩
theorem expr_Print_snd : Snd Tryz.prog S ⟨109, [.val (.data (.st 4))], [.val (.data .str)], fun x => expr_Print x⟩ :=
 fn_ok0 progOk (T := (expr_Print_T)) (all_cons expr_write_snd (all_cons p_bldRead_snd42 (all_nil))) (all_nil) (all_nil) mixed Tryz.func109 rfl (by kernel_rfl) (ac_code [] Tryz.f109 rfl) (by kernel_rfl) (fun _ => by kernel_rfl) (by kernel_rfl) (by kernel_rfl) (Nat.le_of_ble_eq_true (by kernel_rfl)) (by kernel_rfl)
noncomputable def act_one_l0 (self_act_block : (List UInt8) → (List api_Act) → Int → Option (List UInt8)) : Nat → (List UInt8) → Int → Int → (List UInt8) → (List UInt8) → (List api_Expr) → Int → (List api_Act) → (List api_Act) → Int → (List UInt8) → (List api_Expr) → Int → Int → Option (List UInt8)
 | 0, _, _, _, _, _, _, _, _, _, _, _, _, _, _ => none
 | k + 1, b, v_in, a_Kind, a_Name, a_Event, a_X, a_N, a_Then, a_Else, a_At, x, x11, x12, x13 => if x13 < x12 then
  if 0 ≤ x13 then
  if x13 < (x11.length : Int) then
  (expr_Print (api_Expr.mk ((x11.getD x13.toNat api_Expr.z).Kind) ((x11.getD x13.toNat api_Expr.z).N) ((x11.getD x13.toNat api_Expr.z).Name) ((x11.getD x13.toNat api_Expr.z).Kids) ((x11.getD x13.toNat api_Expr.z).At))).bind fun r1 =>
  act_one_l0 self_act_block k b v_in a_Kind a_Name a_Event a_X a_N a_Then a_Else a_At r1 x11 x12 (w64 (x13 + 1)) else none else none else
  if 0 < (a_X.length : Int) then
  if s_lp.length + x.length ≤ 9223372036854775807 then
  if (s_lp ++ x).length + s_rp.length ≤ 9223372036854775807 then
  if a_Kind = 1 then
  if a_Name.length + s_sp_eq_sp.length ≤ 9223372036854775807 then
  if (a_Name ++ s_sp_eq_sp).length + x.length ≤ 9223372036854775807 then
  if ((a_Name ++ s_sp_eq_sp) ++ x).length + s_semi.length ≤ 9223372036854775807 then
  (bldStr b (((a_Name ++ s_sp_eq_sp) ++ x) ++ s_semi)).bind fun r2 =>
  some r2.2.2 else none else none else none else
  if a_Kind = 2 then
  if s_raise_x7823e.length + a_Event.length ≤ 9223372036854775807 then
  if (s_raise_x7823e ++ a_Event).length + ((s_lp ++ x) ++ s_rp).length ≤ 9223372036854775807 then
  if ((s_raise_x7823e ++ a_Event) ++ ((s_lp ++ x) ++ s_rp)).length + s_semi.length ≤ 9223372036854775807 then
  (bldStr b (((s_raise_x7823e ++ a_Event) ++ ((s_lp ++ x) ++ s_rp)) ++ s_semi)).bind fun r3 =>
  some r3.2.2 else none else none else none else
  if a_Kind = 3 then
  if s_send_xe0272.length + a_Name.length ≤ 9223372036854775807 then
  if (s_send_xe0272 ++ a_Name).length + s_sp.length ≤ 9223372036854775807 then
  if ((s_send_xe0272 ++ a_Name) ++ s_sp).length + a_Event.length ≤ 9223372036854775807 then
  if (((s_send_xe0272 ++ a_Name) ++ s_sp) ++ a_Event).length + ((s_lp ++ x) ++ s_rp).length ≤ 9223372036854775807 then
  if ((((s_send_xe0272 ++ a_Name) ++ s_sp) ++ a_Event) ++ ((s_lp ++ x) ++ s_rp)).length + s_semi.length ≤ 9223372036854775807 then
  (bldStr b (((((s_send_xe0272 ++ a_Name) ++ s_sp) ++ a_Event) ++ ((s_lp ++ x) ++ s_rp)) ++ s_semi)).bind fun r4 =>
  some r4.2.2 else none else none else none else none else none else
  if a_Kind = 4 then
  if s_arm_x6c666.length + a_Name.length ≤ 9223372036854775807 then
  if (s_arm_x6c666 ++ a_Name).length + ((s_lp ++ x) ++ s_rp).length ≤ 9223372036854775807 then
  if ((s_arm_x6c666 ++ a_Name) ++ ((s_lp ++ x) ++ s_rp)).length + s_semi.length ≤ 9223372036854775807 then
  (bldStr b (((s_arm_x6c666 ++ a_Name) ++ ((s_lp ++ x) ++ s_rp)) ++ s_semi)).bind fun r5 =>
  some r5.2.2 else none else none else none else
  if a_Kind = 5 then
  if s_cancel_x1c990.length + a_Name.length ≤ 9223372036854775807 then
  if (s_cancel_x1c990 ++ a_Name).length + s_semi.length ≤ 9223372036854775807 then
  (bldStr b ((s_cancel_x1c990 ++ a_Name) ++ s_semi)).bind fun r6 =>
  some r6.2.2 else none else none else
  if a_Kind = 6 then
  if s_if_xec554.length + ((s_lp ++ x) ++ s_rp).length ≤ 9223372036854775807 then
  if (s_if_xec554 ++ ((s_lp ++ x) ++ s_rp)).length + s_sp.length ≤ 9223372036854775807 then
  (bldStr b ((s_if_xec554 ++ ((s_lp ++ x) ++ s_rp)) ++ s_sp)).bind fun r7 =>
  (self_act_block r7.2.2 a_Then v_in).bind fun r8 =>
  if 0 < (a_Else.length : Int) then
  (bldStr r8 s_else_xf7d30).bind fun r9 =>
  (self_act_block r9.2.2 a_Else v_in).bind fun r10 =>
  some r10 else
  some r8 else none else none else
  if a_Kind = 7 then
  (p_Itoa a_N).bind fun r11 =>
  if s_loop_xf5f27.length + r11.length ≤ 9223372036854775807 then
  if (s_loop_xf5f27 ++ r11).length + s_sp.length ≤ 9223372036854775807 then
  (bldStr b ((s_loop_xf5f27 ++ r11) ++ s_sp)).bind fun r12 =>
  (self_act_block r12.2.2 a_Then v_in).bind fun r13 =>
  some r13 else none else none else
  some b else none else none else
  if a_Kind = 1 then
  if a_Name.length + s_sp_eq_sp.length ≤ 9223372036854775807 then
  if (a_Name ++ s_sp_eq_sp).length + x.length ≤ 9223372036854775807 then
  if ((a_Name ++ s_sp_eq_sp) ++ x).length + s_semi.length ≤ 9223372036854775807 then
  (bldStr b (((a_Name ++ s_sp_eq_sp) ++ x) ++ s_semi)).bind fun r14 =>
  some r14.2.2 else none else none else none else
  if a_Kind = 2 then
  if s_raise_x7823e.length + a_Event.length ≤ 9223372036854775807 then
  if (s_raise_x7823e ++ a_Event).length + ([] : List UInt8).length ≤ 9223372036854775807 then
  if ((s_raise_x7823e ++ a_Event) ++ []).length + s_semi.length ≤ 9223372036854775807 then
  (bldStr b (((s_raise_x7823e ++ a_Event) ++ []) ++ s_semi)).bind fun r15 =>
  some r15.2.2 else none else none else none else
  if a_Kind = 3 then
  if s_send_xe0272.length + a_Name.length ≤ 9223372036854775807 then
  if (s_send_xe0272 ++ a_Name).length + s_sp.length ≤ 9223372036854775807 then
  if ((s_send_xe0272 ++ a_Name) ++ s_sp).length + a_Event.length ≤ 9223372036854775807 then
  if (((s_send_xe0272 ++ a_Name) ++ s_sp) ++ a_Event).length + ([] : List UInt8).length ≤ 9223372036854775807 then
  if ((((s_send_xe0272 ++ a_Name) ++ s_sp) ++ a_Event) ++ []).length + s_semi.length ≤ 9223372036854775807 then
  (bldStr b (((((s_send_xe0272 ++ a_Name) ++ s_sp) ++ a_Event) ++ []) ++ s_semi)).bind fun r16 =>
  some r16.2.2 else none else none else none else none else none else
  if a_Kind = 4 then
  if s_arm_x6c666.length + a_Name.length ≤ 9223372036854775807 then
  if (s_arm_x6c666 ++ a_Name).length + ([] : List UInt8).length ≤ 9223372036854775807 then
  if ((s_arm_x6c666 ++ a_Name) ++ []).length + s_semi.length ≤ 9223372036854775807 then
  (bldStr b (((s_arm_x6c666 ++ a_Name) ++ []) ++ s_semi)).bind fun r17 =>
  some r17.2.2 else none else none else none else
  if a_Kind = 5 then
  if s_cancel_x1c990.length + a_Name.length ≤ 9223372036854775807 then
  if (s_cancel_x1c990 ++ a_Name).length + s_semi.length ≤ 9223372036854775807 then
  (bldStr b ((s_cancel_x1c990 ++ a_Name) ++ s_semi)).bind fun r18 =>
  some r18.2.2 else none else none else
  if a_Kind = 6 then
  if s_if_xec554.length + ([] : List UInt8).length ≤ 9223372036854775807 then
  if (s_if_xec554 ++ []).length + s_sp.length ≤ 9223372036854775807 then
  (bldStr b ((s_if_xec554 ++ []) ++ s_sp)).bind fun r19 =>
  (self_act_block r19.2.2 a_Then v_in).bind fun r20 =>
  if 0 < (a_Else.length : Int) then
  (bldStr r20 s_else_xf7d30).bind fun r21 =>
  (self_act_block r21.2.2 a_Else v_in).bind fun r22 =>
  some r22 else
  some r20 else none else none else
  if a_Kind = 7 then
  (p_Itoa a_N).bind fun r23 =>
  if s_loop_xf5f27.length + r23.length ≤ 9223372036854775807 then
  if (s_loop_xf5f27 ++ r23).length + s_sp.length ≤ 9223372036854775807 then
  (bldStr b ((s_loop_xf5f27 ++ r23) ++ s_sp)).bind fun r24 =>
  (self_act_block r24.2.2 a_Then v_in).bind fun r25 =>
  some r25 else none else none else
  some b
noncomputable def act_one_f (self_act_block : (List UInt8) → (List api_Act) → Int → Option (List UInt8)) (k : Nat) (b : List UInt8) (a : api_Act) (v_in : Int) : Option (List UInt8) := act_one_l0 self_act_block k b v_in a.Kind a.Name a.Event a.X a.N a.Then a.Else a.At [] a.X (a.X.length : Int) 0
noncomputable def act_one (self_act_block : (List UInt8) → (List api_Act) → Int → Option (List UInt8))  (b : List UInt8) (a : api_Act) (v_in : Int) : Option (List UInt8) := lim (fun k (x : List UInt8 × api_Act × Int) => act_one_f self_act_block k x.1 x.2.1 x.2.2) (b, a, v_in)
noncomputable abbrev act_one_T (self_act_block : (List UInt8) → (List api_Act) → Int → Option (List UInt8)) : Tab S := ⟨[⟨109, [.val (.data (.st 4))], [.val (.data .str)], fun x => expr_Print x⟩, ⟨78, [.bld, .val (.data .str)], [.val (.data (.int .i64)), .err], fun x => bldStr x.1 x.2⟩, ⟨41, [.bld, .val (.data (.sl (.st 3))), .val (.data (.int .i64))], [], fun x => self_act_block x.1 x.2.1 x.2.2⟩, ⟨110, [.val (.data (.int .i64))], [.val (.data .str)], fun x => p_Itoa x⟩], [], false, false, none, []⟩
noncomputable def act_one_L (self_act_block : (List UInt8) → (List api_Act) → Int → Option (List UInt8)) (k : Nat) : Nat → List (Lab S (List UInt8))
 | 0 => [⟨[0, 2, 4, 6, 11, 12, 13], [.bld, .val (.data (.int .i64)), .obj [.data (.int .i64), .data .str, .data .str, .data (.sl (.st 4)), .data (.int .i64), .data (.sl (.st 3)), .data (.sl (.st 3)), .data (.int .i64)], .val (.data .str), .val (.data (.sl (.st 4))), .val (.data (.int .i64)), .val (.data (.int .i64))], fun x => act_one_l0 self_act_block k x.1 x.2.1 x.2.2.1.1 x.2.2.1.2.1 x.2.2.1.2.2.1 x.2.2.1.2.2.2.1 x.2.2.1.2.2.2.2.1 x.2.2.1.2.2.2.2.2.1 x.2.2.1.2.2.2.2.2.2.1 x.2.2.1.2.2.2.2.2.2.2 x.2.2.2.1 x.2.2.2.2.1 x.2.2.2.2.2.1 x.2.2.2.2.2.2, false⟩]
 | _ + 1 => []
theorem act_one_eq (self_act_block : (List UInt8) → (List api_Act) → Int → Option (List UInt8)) (k : Nat) (b : List UInt8) (a : api_Act) (v_in : Int) : act_one_f self_act_block k b a v_in = exec S (act_one_T self_act_block) byt (labs S (act_one_T self_act_block) (act_one_L self_act_block k)) (ac [] Tryz.f80) (frame0 S [.bld, .val (.data (.st 3)), .val (.data (.int .i64))] (b, a, v_in)) (retK S (act_one_T self_act_block) Tryz.f80 [.bld, .val (.data (.st 3)), .val (.data (.int .i64))] []) := by kernel_rfl
theorem act_one_vc (self_act_block : (List UInt8) → (List api_Act) → Int → Option (List UInt8)) (k : Nat) : VC S (act_one_T self_act_block) byt (act_one_L self_act_block k) (act_one_L self_act_block (k + 1)) (ac [] Tryz.f80) (retK S (act_one_T self_act_block) Tryz.f80 [.bld, .val (.data (.st 3)), .val (.data (.int .i64))] []) = [∀ x : List UInt8 × Int × (Int × List UInt8 × List UInt8 × List api_Expr × Int × List api_Act × List api_Act × Int) × List UInt8 × List api_Expr × Int × Int, act_one_l0 self_act_block (k + 1) x.1 x.2.1 x.2.2.1.1 x.2.2.1.2.1 x.2.2.1.2.2.1 x.2.2.1.2.2.2.1 x.2.2.1.2.2.2.2.1 x.2.2.1.2.2.2.2.2.1 x.2.2.1.2.2.2.2.2.2.1 x.2.2.1.2.2.2.2.2.2.2 x.2.2.2.1 x.2.2.2.2.1 x.2.2.2.2.2.1 x.2.2.2.2.2.2 = act_one_l0 self_act_block (k + 1) x.1 x.2.1 x.2.2.1.1 x.2.2.1.2.1 x.2.2.1.2.2.1 x.2.2.1.2.2.2.1 x.2.2.1.2.2.2.2.1 x.2.2.1.2.2.2.2.2.1 x.2.2.1.2.2.2.2.2.2.1 x.2.2.1.2.2.2.2.2.2.2 x.2.2.2.1 x.2.2.2.2.1 x.2.2.2.2.2.1 x.2.2.2.2.2.2] := by kernel_rfl
theorem act_one_sndk (self_act_block : (List UInt8) → (List api_Act) → Int → Option (List UInt8)) (hself_act_block : Snd Tryz.prog S ⟨41, [.bld, .val (.data (.sl (.st 3))), .val (.data (.int .i64))], [], fun x => self_act_block x.1 x.2.1 x.2.2⟩) (k : Nat) : Snd Tryz.prog S ⟨80, [.bld, .val (.data (.st 3)), .val (.data (.int .i64))], [], fun x => act_one_f self_act_block k x.1 x.2.1 x.2.2⟩ :=
 fn_ok progOk (T := (act_one_T self_act_block)) (all_cons expr_Print_snd (all_cons p_bldStr_snd78 (all_cons hself_act_block (all_cons p_Itoa_snd110 (all_nil))))) (all_nil) (all_nil) mixed Tryz.func80 rfl (by kernel_rfl) (ac_code [] Tryz.f80 rfl) (L := act_one_L self_act_block)
  (fun n l h x => by match n, h with
   | 0, h =>
    rcases List.mem_cons.1 h with rfl | h
    · rfl
    cases h
   | _ + 1, h => cases h) (fun k n l h => by match n, h with
   | 0, h =>
    rcases List.mem_cons.1 h with rfl | h
    · rfl
    cases h
   | _ + 1, h => cases h)
  (fun k => All.mem (act_one_vc self_act_block k) ⟨fun _ => rfl, trivial⟩) (fun x r h => ⟨k, (act_one_eq self_act_block k x.1 x.2.1 x.2.2).symm.trans h⟩) (by kernel_rfl) (by kernel_rfl) (Nat.le_of_ble_eq_true (by kernel_rfl)) (by kernel_rfl)
theorem act_one_snd (self_act_block : (List UInt8) → (List api_Act) → Int → Option (List UInt8)) (hself_act_block : Snd Tryz.prog S ⟨41, [.bld, .val (.data (.sl (.st 3))), .val (.data (.int .i64))], [], fun x => self_act_block x.1 x.2.1 x.2.2⟩) : Snd Tryz.prog S ⟨80, [.bld, .val (.data (.st 3)), .val (.data (.int .i64))], [], fun x => act_one self_act_block x.1 x.2.1 x.2.2⟩ := Snd.lim (act_one_sndk self_act_block hself_act_block)
noncomputable def act_block_l0 (self_act_block : (List UInt8) → (List api_Act) → Int → Option (List UInt8)) : Nat → (List UInt8) → Int → (List api_Act) → Int → Int → Option (List UInt8)
 | 0, _, _, _, _, _ => none
 | k + 1, b, v_in, x15, x16, x17 => if x17 < x16 then
  if 0 ≤ x17 then
  if x17 < (x15.length : Int) then
  (p_Repeat s_sp_sp (w64 (v_in + 1))).bind fun r3 =>
  (bldStr b r3).bind fun r4 =>
  (act_one self_act_block r4.2.2 (api_Act.mk ((x15.getD x17.toNat api_Act.z).Kind) ((x15.getD x17.toNat api_Act.z).Name) ((x15.getD x17.toNat api_Act.z).Event) ((x15.getD x17.toNat api_Act.z).X) ((x15.getD x17.toNat api_Act.z).N) ((x15.getD x17.toNat api_Act.z).Then) ((x15.getD x17.toNat api_Act.z).Else) ((x15.getD x17.toNat api_Act.z).At)) (w64 (v_in + 1))).bind fun r5 =>
  (bldByte r5 10).bind fun r6 =>
  act_block_l0 self_act_block k r6.2 v_in x15 x16 (w64 (x17 + 1)) else none else none else
  (p_Repeat s_sp_sp v_in).bind fun r7 =>
  if r7.length + s_rb.length ≤ 9223372036854775807 then
  (bldStr b (r7 ++ s_rb)).bind fun r8 =>
  some r8.2.2 else none
noncomputable def act_block_b (self_act_block : (List UInt8) → (List api_Act) → Int → Option (List UInt8)) (k : Nat) (b : List UInt8) (l : List api_Act) (v_in : Int) : Option (List UInt8) := if (l.length : Int) = 0 then
 (bldStr b s_lb_rb).bind fun r1 =>
 some r1.2.2 else
 (bldStr b s_lb_nl).bind fun r2 =>
 act_block_l0 self_act_block k r2.2.2 v_in l (l.length : Int) 0
noncomputable def act_block_f : Nat → (List UInt8) → (List api_Act) → Int → Option (List UInt8)
 | 0, _, _, _ => none
 | k + 1, x0, x1, x2 => act_block_b (act_block_f k) k x0 x1 x2
noncomputable def act_block  (b : List UInt8) (l : List api_Act) (v_in : Int) : Option (List UInt8) := lim (fun k (x : List UInt8 × List api_Act × Int) => act_block_f k x.1 x.2.1 x.2.2) (b, l, v_in)
noncomputable abbrev act_block_T (self_act_block : (List UInt8) → (List api_Act) → Int → Option (List UInt8)) : Tab S := ⟨[⟨78, [.bld, .val (.data .str)], [.val (.data (.int .i64)), .err], fun x => bldStr x.1 x.2⟩, ⟨79, [.val (.data .str), .val (.data (.int .i64))], [.val (.data .str)], fun x => p_Repeat x.1 x.2⟩, ⟨80, [.bld, .val (.data (.st 3)), .val (.data (.int .i64))], [], fun x => act_one self_act_block x.1 x.2.1 x.2.2⟩, ⟨81, [.bld, .val (.data (.int .u8))], [.err], fun x => bldByte x.1 x.2⟩], [], false, false, none, []⟩
noncomputable def act_block_L (self_act_block : (List UInt8) → (List api_Act) → Int → Option (List UInt8)) (k : Nat) : Nat → List (Lab S (List UInt8))
 | 0 => [⟨[0, 2, 15, 16, 17], [.bld, .val (.data (.int .i64)), .val (.data (.sl (.st 3))), .val (.data (.int .i64)), .val (.data (.int .i64))], fun x => act_block_l0 self_act_block k x.1 x.2.1 x.2.2.1 x.2.2.2.1 x.2.2.2.2, false⟩]
 | _ + 1 => []
theorem act_block_eq (self_act_block : (List UInt8) → (List api_Act) → Int → Option (List UInt8)) (k : Nat) (b : List UInt8) (l : List api_Act) (v_in : Int) : act_block_b self_act_block k b l v_in = exec S (act_block_T self_act_block) byt (labs S (act_block_T self_act_block) (act_block_L self_act_block k)) (ac [] Tryz.f41) (frame0 S [.bld, .val (.data (.sl (.st 3))), .val (.data (.int .i64))] (b, l, v_in)) (retK S (act_block_T self_act_block) Tryz.f41 [.bld, .val (.data (.sl (.st 3))), .val (.data (.int .i64))] []) := by kernel_rfl
theorem act_block_vc (self_act_block : (List UInt8) → (List api_Act) → Int → Option (List UInt8)) (k : Nat) : VC S (act_block_T self_act_block) byt (act_block_L self_act_block k) (act_block_L self_act_block (k + 1)) (ac [] Tryz.f41) (retK S (act_block_T self_act_block) Tryz.f41 [.bld, .val (.data (.sl (.st 3))), .val (.data (.int .i64))] []) = [∀ x : List UInt8 × Int × List api_Act × Int × Int, act_block_l0 self_act_block (k + 1) x.1 x.2.1 x.2.2.1 x.2.2.2.1 x.2.2.2.2 = act_block_l0 self_act_block (k + 1) x.1 x.2.1 x.2.2.1 x.2.2.2.1 x.2.2.2.2] := by kernel_rfl
theorem act_block_sndk (self_act_block : (List UInt8) → (List api_Act) → Int → Option (List UInt8)) (hself : Snd Tryz.prog S ⟨41, [.bld, .val (.data (.sl (.st 3))), .val (.data (.int .i64))], [], fun x => self_act_block x.1 x.2.1 x.2.2⟩) (k : Nat) : Snd Tryz.prog S ⟨41, [.bld, .val (.data (.sl (.st 3))), .val (.data (.int .i64))], [], fun x => act_block_b self_act_block k x.1 x.2.1 x.2.2⟩ :=
 fn_ok progOk (T := (act_block_T self_act_block)) (all_cons p_bldStr_snd78 (all_cons p_Repeat_snd79 (all_cons (act_one_snd self_act_block hself) (all_cons p_bldByte_snd81 (all_nil))))) (all_nil) (all_nil) mixed Tryz.func41 rfl (by kernel_rfl) (ac_code [] Tryz.f41 rfl) (L := act_block_L self_act_block)
  (fun n l h x => by match n, h with
   | 0, h =>
    rcases List.mem_cons.1 h with rfl | h
    · rfl
    cases h
   | _ + 1, h => cases h) (fun k n l h => by match n, h with
   | 0, h =>
    rcases List.mem_cons.1 h with rfl | h
    · rfl
    cases h
   | _ + 1, h => cases h)
  (fun k => All.mem (act_block_vc self_act_block k) ⟨fun _ => rfl, trivial⟩) (fun x r h => ⟨k, (act_block_eq self_act_block k x.1 x.2.1 x.2.2).symm.trans h⟩) (by kernel_rfl) (by kernel_rfl) (Nat.le_of_ble_eq_true (by kernel_rfl)) (by kernel_rfl)
theorem act_block_sndf : ∀ k, Snd Tryz.prog S ⟨41, [.bld, .val (.data (.sl (.st 3))), .val (.data (.int .i64))], [], fun x => act_block_f k x.1 x.2.1 x.2.2⟩
 | 0 => Snd.none ⟨_, Tryz.func41, by kernel_rfl, by kernel_rfl⟩ fun _ => rfl
 | k + 1 => act_block_sndk (act_block_f k) (act_block_sndf k) k
theorem act_block_snd : Snd Tryz.prog S ⟨41, [.bld, .val (.data (.sl (.st 3))), .val (.data (.int .i64))], [], fun x => act_block x.1 x.2.1 x.2.2⟩ := Snd.lim (act_block_sndf)
noncomputable def act_Print  (l : List api_Act) (v_in : Int) : Option (List UInt8) := (act_block [] l (max v_in 0)).bind fun r1 => (bldRead r1).bind fun r2 => some r2.1
noncomputable abbrev act_Print_T : Tab S := ⟨[⟨41, [.bld, .val (.data (.sl (.st 3))), .val (.data (.int .i64))], [], fun x => act_block x.1 x.2.1 x.2.2⟩, ⟨42, [.bld], [.val (.data .str)], fun x => bldRead x⟩], [], false, false, none, []⟩
theorem act_Print_snd : Snd Tryz.prog S ⟨20, [.val (.data (.sl (.st 3))), .val (.data (.int .i64))], [.val (.data .str)], fun x => act_Print x.1 x.2⟩ :=
 fn_ok0 progOk (T := (act_Print_T)) (all_cons act_block_snd (all_cons p_bldRead_snd42 (all_nil))) (all_nil) (all_nil) mixed Tryz.func20 rfl (by kernel_rfl) (ac_code [] Tryz.f20 rfl) (by kernel_rfl) (fun _ => by kernel_rfl) (by kernel_rfl) (by kernel_rfl) (Nat.le_of_ble_eq_true (by kernel_rfl)) (by kernel_rfl)
noncomputable def lex_Name  (s : List UInt8) : Option Bool := if s = [] then
 some false else
 if 24 < (s.length : Int) then
 some false else
 (lex_Reserved s).bind fun r1 =>
 bif r1 then
 some false else
 if (0 : Int) ≤ 0 then
 if 0 < (s.length : Int) then
 (lex_kind ((s.getD (0 : Int).toNat 0).toNat : Int)).bind fun r2 =>
 bif !r2.2 then
 (lex_end s 0).bind fun r3 =>
 some (decide (r3 = (s.length : Int))) else
 some false else none else none
noncomputable abbrev lex_Name_T : Tab S := ⟨[⟨113, [.val (.data .str)], [.val (.data .bool)], fun x => lex_Reserved x⟩, ⟨70, [.val (.data (.int .u8))], [.val (.data .bool), .val (.data .bool)], fun x => lex_kind x⟩, ⟨71, [.val (.data .str), .val (.data (.int .i64))], [.val (.data (.int .i64))], fun x => lex_end x.1 x.2⟩], [], false, false, none, []⟩
theorem lex_Name_snd : Snd Tryz.prog S ⟨101, [.val (.data .str)], [.val (.data .bool)], fun x => lex_Name x⟩ :=
 fn_ok0 progOk (T := (lex_Name_T)) (all_cons lex_Reserved_snd (all_cons lex_kind_snd (all_cons lex_end_snd (all_nil)))) (all_nil) (all_nil) mixed Tryz.func101 rfl (by kernel_rfl) (ac_code [] Tryz.f101 rfl) (by kernel_rfl) (fun _ => by kernel_rfl) (by kernel_rfl) (by kernel_rfl) (Nat.le_of_ble_eq_true (by kernel_rfl)) (by kernel_rfl)
noncomputable def act_shape_c2 : Nat → Int → (List UInt8) → (List UInt8) → (List api_Expr) → Int → (List api_Act) → (List api_Act) → Int → Int → Option Bool
 | 0, _, _, _, _, _, _, _, _, _ => none
 | k + 1, a_Kind, a_Name, a_Event, a_X, a_N, a_Then, a_Else, a_At, blocks => if 0 < blocks then
  if 1 < blocks then
  some true else
  some (decide ((a_Else.length : Int) = 0)) else
  if (a_Then.length : Int) = 0 then
  if 1 < blocks then
  some true else
  some (decide ((a_Else.length : Int) = 0)) else
  some false
noncomputable def act_shape_c1 : Nat → Int → (List UInt8) → (List UInt8) → (List api_Expr) → Int → (List api_Act) → (List api_Act) → Int → Int → Int → Int → Option Bool
 | 0, _, _, _, _, _, _, _, _, _, _, _ => none
 | k + 1, a_Kind, a_Name, a_Event, a_X, a_N, a_Then, a_Else, a_At, least, most, blocks => if (a_X.length : Int) < least then
  some false else
  if most < (a_X.length : Int) then
  some false else
  if a_N ≠ 0 then
  if a_Kind ≠ 7 then
  some false else
  if a_N < 0 then
  some false else
  act_shape_c2 k a_Kind a_Name a_Event a_X a_N a_Then a_Else a_At blocks else
  act_shape_c2 k a_Kind a_Name a_Event a_X a_N a_Then a_Else a_At blocks
noncomputable def act_shape_c0 : Nat → Int → (List UInt8) → (List UInt8) → (List api_Expr) → Int → (List api_Act) → (List api_Act) → Int → Int → Int → Bool → Bool → Int → Option Bool
 | 0, _, _, _, _, _, _, _, _, _, _, _, _, _ => none
 | k + 1, a_Kind, a_Name, a_Event, a_X, a_N, a_Then, a_Else, a_At, least, most, name, event, blocks => if name ≠ (decide (a_Name ≠ [])) then
  some false else
  bif name then
  (lex_Name a_Name).bind fun r1 =>
  bif !r1 then
  some false else
  if event ≠ (decide (a_Event ≠ [])) then
  some false else
  bif event then
  (lex_Name a_Event).bind fun r2 =>
  bif !r2 then
  some false else
  act_shape_c1 k a_Kind a_Name a_Event a_X a_N a_Then a_Else a_At least most blocks else
  act_shape_c1 k a_Kind a_Name a_Event a_X a_N a_Then a_Else a_At least most blocks else
  if event ≠ (decide (a_Event ≠ [])) then
  some false else
  bif event then
  (lex_Name a_Event).bind fun r3 =>
  bif !r3 then
  some false else
  act_shape_c1 k a_Kind a_Name a_Event a_X a_N a_Then a_Else a_At least most blocks else
  act_shape_c1 k a_Kind a_Name a_Event a_X a_N a_Then a_Else a_At least most blocks
noncomputable def act_shape_f (k : Nat) (a : api_Act) : Option Bool := if a.Kind = 1 then
 if a.Kind = 1 then
 act_shape_c0 k a.Kind a.Name a.Event a.X a.N a.Then a.Else a.At 1 1 true false 0 else
 if a.Kind = 2 then
 act_shape_c0 k a.Kind a.Name a.Event a.X a.N a.Then a.Else a.At 0 1 false true 0 else
 if a.Kind = 3 then
 act_shape_c0 k a.Kind a.Name a.Event a.X a.N a.Then a.Else a.At 0 1 true true 0 else
 if a.Kind = 5 then
 act_shape_c0 k a.Kind a.Name a.Event a.X a.N a.Then a.Else a.At 0 0 true false 0 else
 if a.Kind = 6 then
 act_shape_c0 k a.Kind a.Name a.Event a.X a.N a.Then a.Else a.At 1 1 false false 2 else
 if a.Kind = 7 then
 act_shape_c0 k a.Kind a.Name a.Event a.X a.N a.Then a.Else a.At 0 0 false false 1 else
 some false else
 if a.Kind = 4 then
 act_shape_c0 k a.Kind a.Name a.Event a.X a.N a.Then a.Else a.At 1 1 true false 0 else
 if a.Kind = 2 then
 act_shape_c0 k a.Kind a.Name a.Event a.X a.N a.Then a.Else a.At 0 1 false true 0 else
 if a.Kind = 3 then
 act_shape_c0 k a.Kind a.Name a.Event a.X a.N a.Then a.Else a.At 0 1 true true 0 else
 if a.Kind = 5 then
 act_shape_c0 k a.Kind a.Name a.Event a.X a.N a.Then a.Else a.At 0 0 true false 0 else
 if a.Kind = 6 then
 act_shape_c0 k a.Kind a.Name a.Event a.X a.N a.Then a.Else a.At 1 1 false false 2 else
 if a.Kind = 7 then
 act_shape_c0 k a.Kind a.Name a.Event a.X a.N a.Then a.Else a.At 0 0 false false 1 else
 some false
noncomputable def act_shape  (a : api_Act) : Option Bool := lim (fun k (x : api_Act) => act_shape_f k x) a
noncomputable abbrev act_shape_T : Tab S := ⟨[⟨101, [.val (.data .str)], [.val (.data .bool)], fun x => lex_Name x⟩], [], false, false, none, []⟩
noncomputable def act_shape_L (k : Nat) : Nat → List (Lab S Bool)
 | 0 => []
 | 1 => [⟨[1, 3, 4, 5, 6, 7], [.obj [.data (.int .i64), .data .str, .data .str, .data (.sl (.st 4)), .data (.int .i64), .data (.sl (.st 3)), .data (.sl (.st 3)), .data (.int .i64)], .val (.data (.int .i64)), .val (.data (.int .i64)), .val (.data .bool), .val (.data .bool), .val (.data (.int .i64))], fun x => act_shape_c0 k x.1.1 x.1.2.1 x.1.2.2.1 x.1.2.2.2.1 x.1.2.2.2.2.1 x.1.2.2.2.2.2.1 x.1.2.2.2.2.2.2.1 x.1.2.2.2.2.2.2.2 x.2.1 x.2.2.1 x.2.2.2.1 x.2.2.2.2.1 x.2.2.2.2.2, false⟩]
 | 2 => []
 | 3 => [⟨[1, 3, 4, 7], [.obj [.data (.int .i64), .data .str, .data .str, .data (.sl (.st 4)), .data (.int .i64), .data (.sl (.st 3)), .data (.sl (.st 3)), .data (.int .i64)], .val (.data (.int .i64)), .val (.data (.int .i64)), .val (.data (.int .i64))], fun x => act_shape_c1 k x.1.1 x.1.2.1 x.1.2.2.1 x.1.2.2.2.1 x.1.2.2.2.2.1 x.1.2.2.2.2.2.1 x.1.2.2.2.2.2.2.1 x.1.2.2.2.2.2.2.2 x.2.1 x.2.2.1 x.2.2.2, false⟩]
 | 4 => []
 | 5 => [⟨[1, 7], [.obj [.data (.int .i64), .data .str, .data .str, .data (.sl (.st 4)), .data (.int .i64), .data (.sl (.st 3)), .data (.sl (.st 3)), .data (.int .i64)], .val (.data (.int .i64))], fun x => act_shape_c2 k x.1.1 x.1.2.1 x.1.2.2.1 x.1.2.2.2.1 x.1.2.2.2.2.1 x.1.2.2.2.2.2.1 x.1.2.2.2.2.2.2.1 x.1.2.2.2.2.2.2.2 x.2, false⟩]
 | _ + 6 => []
theorem act_shape_eq (k : Nat) (a : api_Act) : act_shape_f k a = exec S (act_shape_T) byt (labs S (act_shape_T) (act_shape_L k)) (ac [3, 13, 16] Tryz.f74) (frame0 S [.val (.data (.st 3))] a) (retK S (act_shape_T) Tryz.f74 [.val (.data (.st 3))] [.val (.data .bool)]) := by kernel_rfl
theorem act_shape_vc (k : Nat) : VC S (act_shape_T) byt (act_shape_L k) (act_shape_L (k + 1)) (ac [3, 13, 16] Tryz.f74) (retK S (act_shape_T) Tryz.f74 [.val (.data (.st 3))] [.val (.data .bool)]) = [∀ x : (Int × List UInt8 × List UInt8 × List api_Expr × Int × List api_Act × List api_Act × Int) × Int, act_shape_c2 (k + 1) x.1.1 x.1.2.1 x.1.2.2.1 x.1.2.2.2.1 x.1.2.2.2.2.1 x.1.2.2.2.2.2.1 x.1.2.2.2.2.2.2.1 x.1.2.2.2.2.2.2.2 x.2 = act_shape_c2 (k + 1) x.1.1 x.1.2.1 x.1.2.2.1 x.1.2.2.2.1 x.1.2.2.2.2.1 x.1.2.2.2.2.2.1 x.1.2.2.2.2.2.2.1 x.1.2.2.2.2.2.2.2 x.2, ∀ x : (Int × List UInt8 × List UInt8 × List api_Expr × Int × List api_Act × List api_Act × Int) × Int × Int × Int, act_shape_c1 (k + 1) x.1.1 x.1.2.1 x.1.2.2.1 x.1.2.2.2.1 x.1.2.2.2.2.1 x.1.2.2.2.2.2.1 x.1.2.2.2.2.2.2.1 x.1.2.2.2.2.2.2.2 x.2.1 x.2.2.1 x.2.2.2 = act_shape_c1 (k + 1) x.1.1 x.1.2.1 x.1.2.2.1 x.1.2.2.2.1 x.1.2.2.2.2.1 x.1.2.2.2.2.2.1 x.1.2.2.2.2.2.2.1 x.1.2.2.2.2.2.2.2 x.2.1 x.2.2.1 x.2.2.2, ∀ x : (Int × List UInt8 × List UInt8 × List api_Expr × Int × List api_Act × List api_Act × Int) × Int × Int × Bool × Bool × Int, act_shape_c0 (k + 1) x.1.1 x.1.2.1 x.1.2.2.1 x.1.2.2.2.1 x.1.2.2.2.2.1 x.1.2.2.2.2.2.1 x.1.2.2.2.2.2.2.1 x.1.2.2.2.2.2.2.2 x.2.1 x.2.2.1 x.2.2.2.1 x.2.2.2.2.1 x.2.2.2.2.2 = act_shape_c0 (k + 1) x.1.1 x.1.2.1 x.1.2.2.1 x.1.2.2.2.1 x.1.2.2.2.2.1 x.1.2.2.2.2.2.1 x.1.2.2.2.2.2.2.1 x.1.2.2.2.2.2.2.2 x.2.1 x.2.2.1 x.2.2.2.1 x.2.2.2.2.1 x.2.2.2.2.2] := by kernel_rfl
theorem act_shape_sndk (k : Nat) : Snd Tryz.prog S ⟨74, [.val (.data (.st 3))], [.val (.data .bool)], fun x => act_shape_f k x⟩ :=
 fn_ok progOk (T := (act_shape_T)) (all_cons lex_Name_snd (all_nil)) (all_nil) (all_nil) mixed Tryz.func74 rfl (by kernel_rfl) (ac_code [3, 13, 16] Tryz.f74 rfl) (L := act_shape_L)
  (fun n l h x => by match n, h with
   | 0, h => cases h
   | 1, h =>
    rcases List.mem_cons.1 h with rfl | h
    · rfl
    cases h
   | 2, h => cases h
   | 3, h =>
    rcases List.mem_cons.1 h with rfl | h
    · rfl
    cases h
   | 4, h => cases h
   | 5, h =>
    rcases List.mem_cons.1 h with rfl | h
    · rfl
    cases h
   | _ + 6, h => cases h) (fun k n l h => by match n, h with
   | 0, h => cases h
   | 1, h =>
    rcases List.mem_cons.1 h with rfl | h
    · rfl
    cases h
   | 2, h => cases h
   | 3, h =>
    rcases List.mem_cons.1 h with rfl | h
    · rfl
    cases h
   | 4, h => cases h
   | 5, h =>
    rcases List.mem_cons.1 h with rfl | h
    · rfl
    cases h
   | _ + 6, h => cases h)
  (fun k => All.mem (act_shape_vc k) ⟨fun _ => rfl, ⟨fun _ => rfl, ⟨fun _ => rfl, trivial⟩⟩⟩) (fun x r h => ⟨k, (act_shape_eq k x).symm.trans h⟩) (by kernel_rfl) (by kernel_rfl) (Nat.le_of_ble_eq_true (by kernel_rfl)) (by kernel_rfl)
theorem act_shape_snd : Snd Tryz.prog S ⟨74, [.val (.data (.st 3))], [.val (.data .bool)], fun x => act_shape x⟩ := Snd.lim (act_shape_sndk)
noncomputable def expr_shape_c1 : Nat → Int → Int → (List UInt8) → (List api_Expr) → Int → Option Bool
 | 0, _, _, _, _, _ => none
 | k + 1, e_Kind, e_N, e_Name, e_Kids, e_At => if e_N = 0 then some true else if e_Kind = 1 then some (decide (0 < e_N)) else some false
noncomputable def expr_shape_c0 : Nat → Int → Int → (List UInt8) → (List api_Expr) → Int → Bool → Option Bool
 | 0, _, _, _, _, _, _ => none
 | k + 1, e_Kind, e_N, e_Name, e_Kids, e_At, named => if named ≠ (decide (e_Name ≠ [])) then
  some false else
  bif named then
  (lex_Name e_Name).bind fun r3 =>
  bif !r3 then
  some false else
  expr_shape_c1 k e_Kind e_N e_Name e_Kids e_At else
  expr_shape_c1 k e_Kind e_N e_Name e_Kids e_At
noncomputable def expr_shape_f (k : Nat) (e : api_Expr) : Option Bool := if e.Kind = 2 then
 if e.Kind < 1 then
 some false else
 if 19 < e.Kind then
 some false else
 (expr_places e.Kind).bind fun r1 =>
 if (e.Kids.length : Int) ≠ (r1.length : Int) then
 some false else
 expr_shape_c0 k e.Kind e.N e.Name e.Kids e.At true else
 if e.Kind < 1 then
 some false else
 if 19 < e.Kind then
 some false else
 (expr_places e.Kind).bind fun r2 =>
 if (e.Kids.length : Int) ≠ (r2.length : Int) then
 some false else
 expr_shape_c0 k e.Kind e.N e.Name e.Kids e.At (decide (e.Kind = 4))
noncomputable def expr_shape  (e : api_Expr) : Option Bool := lim (fun k (x : api_Expr) => expr_shape_f k x) e
noncomputable abbrev expr_shape_T : Tab S := ⟨[⟨124, [.val (.data (.int .i64))], [.val (.data (.sl (.int .i64)))], fun x => expr_places x⟩, ⟨101, [.val (.data .str)], [.val (.data .bool)], fun x => lex_Name x⟩], [], false, false, none, []⟩
noncomputable def expr_shape_L (k : Nat) : Nat → List (Lab S Bool)
 | 0 => []
 | 1 => [⟨[1, 3], [.obj [.data (.int .i64), .data (.int .i64), .data .str, .data (.sl (.st 4)), .data (.int .i64)], .val (.data .bool)], fun x => expr_shape_c0 k x.1.1 x.1.2.1 x.1.2.2.1 x.1.2.2.2.1 x.1.2.2.2.2 x.2, false⟩]
 | 2 => []
 | 3 => [⟨[1], [.obj [.data (.int .i64), .data (.int .i64), .data .str, .data (.sl (.st 4)), .data (.int .i64)]], fun x => expr_shape_c1 k x.1 x.2.1 x.2.2.1 x.2.2.2.1 x.2.2.2.2, false⟩]
 | _ + 4 => []
theorem expr_shape_eq (k : Nat) (e : api_Expr) : expr_shape_f k e = exec S (expr_shape_T) byt (labs S (expr_shape_T) (expr_shape_L k)) (ac [2, 5] Tryz.f122) (frame0 S [.val (.data (.st 4))] e) (retK S (expr_shape_T) Tryz.f122 [.val (.data (.st 4))] [.val (.data .bool)]) := by kernel_rfl
theorem expr_shape_vc (k : Nat) : VC S (expr_shape_T) byt (expr_shape_L k) (expr_shape_L (k + 1)) (ac [2, 5] Tryz.f122) (retK S (expr_shape_T) Tryz.f122 [.val (.data (.st 4))] [.val (.data .bool)]) = [∀ x : (Int × Int × List UInt8 × List api_Expr × Int), expr_shape_c1 (k + 1) x.1 x.2.1 x.2.2.1 x.2.2.2.1 x.2.2.2.2 = expr_shape_c1 (k + 1) x.1 x.2.1 x.2.2.1 x.2.2.2.1 x.2.2.2.2, ∀ x : (Int × Int × List UInt8 × List api_Expr × Int) × Bool, expr_shape_c0 (k + 1) x.1.1 x.1.2.1 x.1.2.2.1 x.1.2.2.2.1 x.1.2.2.2.2 x.2 = expr_shape_c0 (k + 1) x.1.1 x.1.2.1 x.1.2.2.1 x.1.2.2.2.1 x.1.2.2.2.2 x.2] := by kernel_rfl
theorem expr_shape_sndk (k : Nat) : Snd Tryz.prog S ⟨122, [.val (.data (.st 4))], [.val (.data .bool)], fun x => expr_shape_f k x⟩ :=
 fn_ok progOk (T := (expr_shape_T)) (all_cons expr_places_snd (all_cons lex_Name_snd (all_nil))) (all_nil) (all_nil) mixed Tryz.func122 rfl (by kernel_rfl) (ac_code [2, 5] Tryz.f122 rfl) (L := expr_shape_L)
  (fun n l h x => by match n, h with
   | 0, h => cases h
   | 1, h =>
    rcases List.mem_cons.1 h with rfl | h
    · rfl
    cases h
   | 2, h => cases h
   | 3, h =>
    rcases List.mem_cons.1 h with rfl | h
    · rfl
    cases h
   | _ + 4, h => cases h) (fun k n l h => by match n, h with
   | 0, h => cases h
   | 1, h =>
    rcases List.mem_cons.1 h with rfl | h
    · rfl
    cases h
   | 2, h => cases h
   | 3, h =>
    rcases List.mem_cons.1 h with rfl | h
    · rfl
    cases h
   | _ + 4, h => cases h)
  (fun k => All.mem (expr_shape_vc k) ⟨fun _ => rfl, ⟨fun _ => rfl, trivial⟩⟩) (fun x r h => ⟨k, (expr_shape_eq k x).symm.trans h⟩) (by kernel_rfl) (by kernel_rfl) (Nat.le_of_ble_eq_true (by kernel_rfl)) (by kernel_rfl)
theorem expr_shape_snd : Snd Tryz.prog S ⟨122, [.val (.data (.st 4))], [.val (.data .bool)], fun x => expr_shape x⟩ := Snd.lim (expr_shape_sndk)
noncomputable def expr_right_l0 (self_expr_right : api_Expr → Int → Int → Option Bool) : Nat → Int → Int → Int → (List UInt8) → (List api_Expr) → Int → (List Int) → Int → Int → Option Bool
 | 0, _, _, _, _, _, _, _, _, _ => none
 | k + 1, v_open, e_Kind, e_N, e_Name, e_Kids, e_At, x29, x30, x31 => if x31 < x30 then
  if 0 ≤ x31 then
  if x31 < (x29.length : Int) then
  if 0 ≤ x31 then
  if x31 < (e_Kids.length : Int) then
  (self_expr_right (e_Kids.getD x31.toNat api_Expr.z) (x29.getD x31.toNat 0) v_open).bind fun r9 =>
  bif !r9 then
  some false else
  expr_right_l0 self_expr_right k v_open e_Kind e_N e_Name e_Kids e_At x29 x30 (w64 (x31 + 1)) else none else none else none else none else
  some true
noncomputable def expr_right_b (self_expr_right : api_Expr → Int → Int → Option Bool) (k : Nat) (e : api_Expr) (asked : Int) (v_open : Int) : Option Bool := (expr_shape (api_Expr.mk e.Kind e.N e.Name e.Kids e.At)).bind fun r1 =>
 bif !r1 then
 some false else
 (expr_level e.Kind).bind fun r2 =>
 if r2 < asked then
 (expr_level e.Kind).bind fun r3 =>
 if r3 = 6 then
 if 12 < (w64 ((w64 (v_open + 1)) + 1)) then
 some false else
 (expr_places e.Kind).bind fun r4 =>
 expr_right_l0 self_expr_right k (w64 ((w64 (v_open + 1)) + 1)) e.Kind e.N e.Name e.Kids e.At r4 (r4.length : Int) 0 else
 if 12 < (w64 (v_open + 1)) then
 some false else
 (expr_places e.Kind).bind fun r5 =>
 expr_right_l0 self_expr_right k (w64 (v_open + 1)) e.Kind e.N e.Name e.Kids e.At r5 (r5.length : Int) 0 else
 (expr_level e.Kind).bind fun r6 =>
 if r6 = 6 then
 if 12 < (w64 (v_open + 1)) then
 some false else
 (expr_places e.Kind).bind fun r7 =>
 expr_right_l0 self_expr_right k (w64 (v_open + 1)) e.Kind e.N e.Name e.Kids e.At r7 (r7.length : Int) 0 else
 if 12 < v_open then
 some false else
 (expr_places e.Kind).bind fun r8 =>
 expr_right_l0 self_expr_right k v_open e.Kind e.N e.Name e.Kids e.At r8 (r8.length : Int) 0
noncomputable def expr_right_f : Nat → api_Expr → Int → Int → Option Bool
 | 0, _, _, _ => none
 | k + 1, x0, x1, x2 => expr_right_b (expr_right_f k) k x0 x1 x2
noncomputable def expr_right  (e : api_Expr) (asked : Int) (v_open : Int) : Option Bool := lim (fun k (x : api_Expr × Int × Int) => expr_right_f k x.1 x.2.1 x.2.2) (e, asked, v_open)
noncomputable abbrev expr_right_T (self_expr_right : api_Expr → Int → Int → Option Bool) : Tab S := ⟨[⟨122, [.val (.data (.st 4))], [.val (.data .bool)], fun x => expr_shape x⟩, ⟨123, [.val (.data (.int .i64))], [.val (.data (.int .i64))], fun x => expr_level x⟩, ⟨124, [.val (.data (.int .i64))], [.val (.data (.sl (.int .i64)))], fun x => expr_places x⟩, ⟨103, [.val (.data (.st 4)), .val (.data (.int .i64)), .val (.data (.int .i64))], [.val (.data .bool)], fun x => self_expr_right x.1 x.2.1 x.2.2⟩], [], false, false, none, []⟩
noncomputable def expr_right_L (self_expr_right : api_Expr → Int → Int → Option Bool) (k : Nat) : Nat → List (Lab S Bool)
 | 0 => [⟨[2, 3, 29, 30, 31], [.val (.data (.int .i64)), .obj [.data (.int .i64), .data (.int .i64), .data .str, .data (.sl (.st 4)), .data (.int .i64)], .val (.data (.sl (.int .i64))), .val (.data (.int .i64)), .val (.data (.int .i64))], fun x => expr_right_l0 self_expr_right k x.1 x.2.1.1 x.2.1.2.1 x.2.1.2.2.1 x.2.1.2.2.2.1 x.2.1.2.2.2.2 x.2.2.1 x.2.2.2.1 x.2.2.2.2, false⟩]
 | _ + 1 => []
theorem expr_right_eq (self_expr_right : api_Expr → Int → Int → Option Bool) (k : Nat) (e : api_Expr) (asked : Int) (v_open : Int) : expr_right_b self_expr_right k e asked v_open = exec S (expr_right_T self_expr_right) byt (labs S (expr_right_T self_expr_right) (expr_right_L self_expr_right k)) (ac [] Tryz.f103) (frame0 S [.val (.data (.st 4)), .val (.data (.int .i64)), .val (.data (.int .i64))] (e, asked, v_open)) (retK S (expr_right_T self_expr_right) Tryz.f103 [.val (.data (.st 4)), .val (.data (.int .i64)), .val (.data (.int .i64))] [.val (.data .bool)]) := by kernel_rfl
theorem expr_right_vc (self_expr_right : api_Expr → Int → Int → Option Bool) (k : Nat) : VC S (expr_right_T self_expr_right) byt (expr_right_L self_expr_right k) (expr_right_L self_expr_right (k + 1)) (ac [] Tryz.f103) (retK S (expr_right_T self_expr_right) Tryz.f103 [.val (.data (.st 4)), .val (.data (.int .i64)), .val (.data (.int .i64))] [.val (.data .bool)]) = [∀ x : Int × (Int × Int × List UInt8 × List api_Expr × Int) × List Int × Int × Int, expr_right_l0 self_expr_right (k + 1) x.1 x.2.1.1 x.2.1.2.1 x.2.1.2.2.1 x.2.1.2.2.2.1 x.2.1.2.2.2.2 x.2.2.1 x.2.2.2.1 x.2.2.2.2 = expr_right_l0 self_expr_right (k + 1) x.1 x.2.1.1 x.2.1.2.1 x.2.1.2.2.1 x.2.1.2.2.2.1 x.2.1.2.2.2.2 x.2.2.1 x.2.2.2.1 x.2.2.2.2] := by kernel_rfl
theorem expr_right_sndk (self_expr_right : api_Expr → Int → Int → Option Bool) (hself : Snd Tryz.prog S ⟨103, [.val (.data (.st 4)), .val (.data (.int .i64)), .val (.data (.int .i64))], [.val (.data .bool)], fun x => self_expr_right x.1 x.2.1 x.2.2⟩) (k : Nat) : Snd Tryz.prog S ⟨103, [.val (.data (.st 4)), .val (.data (.int .i64)), .val (.data (.int .i64))], [.val (.data .bool)], fun x => expr_right_b self_expr_right k x.1 x.2.1 x.2.2⟩ :=
 fn_ok progOk (T := (expr_right_T self_expr_right)) (all_cons expr_shape_snd (all_cons expr_level_snd (all_cons expr_places_snd (all_cons hself (all_nil))))) (all_nil) (all_nil) mixed Tryz.func103 rfl (by kernel_rfl) (ac_code [] Tryz.f103 rfl) (L := expr_right_L self_expr_right)
  (fun n l h x => by match n, h with
   | 0, h =>
    rcases List.mem_cons.1 h with rfl | h
    · rfl
    cases h
   | _ + 1, h => cases h) (fun k n l h => by match n, h with
   | 0, h =>
    rcases List.mem_cons.1 h with rfl | h
    · rfl
    cases h
   | _ + 1, h => cases h)
  (fun k => All.mem (expr_right_vc self_expr_right k) ⟨fun _ => rfl, trivial⟩) (fun x r h => ⟨k, (expr_right_eq self_expr_right k x.1 x.2.1 x.2.2).symm.trans h⟩) (by kernel_rfl) (by kernel_rfl) (Nat.le_of_ble_eq_true (by kernel_rfl)) (by kernel_rfl)
theorem expr_right_sndf : ∀ k, Snd Tryz.prog S ⟨103, [.val (.data (.st 4)), .val (.data (.int .i64)), .val (.data (.int .i64))], [.val (.data .bool)], fun x => expr_right_f k x.1 x.2.1 x.2.2⟩
 | 0 => Snd.none ⟨_, Tryz.func103, by kernel_rfl, by kernel_rfl⟩ fun _ => rfl
 | k + 1 => expr_right_sndk (expr_right_f k) (expr_right_sndf k) k
theorem expr_right_snd : Snd Tryz.prog S ⟨103, [.val (.data (.st 4)), .val (.data (.int .i64)), .val (.data (.int .i64))], [.val (.data .bool)], fun x => expr_right x.1 x.2.1 x.2.2⟩ := Snd.lim (expr_right_sndf)
noncomputable def expr_Right  (e : api_Expr) : Option Bool := (expr_right (api_Expr.mk e.Kind e.N e.Name e.Kids e.At) 1 0).bind fun r1 => some r1
noncomputable abbrev expr_Right_T : Tab S := ⟨[⟨103, [.val (.data (.st 4)), .val (.data (.int .i64)), .val (.data (.int .i64))], [.val (.data .bool)], fun x => expr_right x.1 x.2.1 x.2.2⟩], [], false, false, none, []⟩
theorem expr_Right_snd : Snd Tryz.prog S ⟨77, [.val (.data (.st 4))], [.val (.data .bool)], fun x => expr_Right x⟩ :=
 fn_ok0 progOk (T := (expr_Right_T)) (all_cons expr_right_snd (all_nil)) (all_nil) (all_nil) mixed Tryz.func77 rfl (by kernel_rfl) (ac_code [] Tryz.f77 rfl) (by kernel_rfl) (fun _ => by kernel_rfl) (by kernel_rfl) (by kernel_rfl) (Nat.le_of_ble_eq_true (by kernel_rfl)) (by kernel_rfl)
noncomputable def act_right_S1  (e : api_Expr) : Option Bool := (expr_Right (api_Expr.mk e.Kind e.N e.Name e.Kids e.At)).bind fun r1 => some (!r1)
noncomputable abbrev act_right_S1_T : Tab S := ⟨[⟨77, [.val (.data (.st 4))], [.val (.data .bool)], fun x => expr_Right x⟩], [], false, false, none, []⟩
theorem act_right_S1_snd : Snd Tryz.prog S ⟨76, [.val (.data (.st 4))], [.val (.data .bool)], fun x => act_right_S1 x⟩ :=
 fn_ok0 progOk (T := (act_right_S1_T)) (all_cons expr_Right_snd (all_nil)) (all_nil) (all_nil) mixed Tryz.func76 rfl (by kernel_rfl) (ac_code [] Tryz.f76 rfl) (by kernel_rfl) (fun _ => by kernel_rfl) (by kernel_rfl) (by kernel_rfl) (Nat.le_of_ble_eq_true (by kernel_rfl)) (by kernel_rfl)
theorem act_right_S1_fsnd : FSnd Tryz.prog S ⟨76, [.st 4], [], [.bool], fun x c => act_right_S1 x⟩ := FSnd.of (a := [.st 4]) (c := []) (r := [.bool]) act_right_S1_snd (fun _ _ z h => ⟨z, h, rfl⟩)
noncomputable def slices_IndexFunc_api_Expr_api_Expr_l0 : Nat → (List api_Expr) → (api_Expr → Option Bool) → Int → Int → Option Int
 | 0, _, _, _, _ => none
 | k + 1, s, f, x7, x8 => if x8 < x7 then
  if 0 ≤ x8 then
  if x8 < (s.length : Int) then
  (f (s.getD x8.toNat api_Expr.z)).bind fun r1 =>
  bif r1 then
  some x8 else
  slices_IndexFunc_api_Expr_api_Expr_l0 k s f x7 (w64 (x8 + 1)) else none else none else
  some (-1)
noncomputable def slices_IndexFunc_api_Expr_api_Expr_f (k : Nat) (s : List api_Expr) (f : api_Expr → Option Bool) : Option Int := slices_IndexFunc_api_Expr_api_Expr_l0 k s f (s.length : Int) 0
noncomputable def slices_IndexFunc_api_Expr_api_Expr  (s : List api_Expr) (f : api_Expr → Option Bool) : Option Int := lim (fun k (x : List api_Expr × (api_Expr → Option Bool)) => slices_IndexFunc_api_Expr_api_Expr_f k x.1 x.2) (s, f)
noncomputable abbrev slices_IndexFunc_api_Expr_api_Expr_T : Tab S := ⟨[], [], false, false, none, []⟩
noncomputable def slices_IndexFunc_api_Expr_api_Expr_L (k : Nat) : Nat → List (Lab S Int)
 | 0 => [⟨[0, 1, 7, 8], [.val (.data (.sl (.st 4))), .fn [.st 4] [.bool], .val (.data (.int .i64)), .val (.data (.int .i64))], fun x => slices_IndexFunc_api_Expr_api_Expr_l0 k x.1 x.2.1 x.2.2.1 x.2.2.2, false⟩]
 | _ + 1 => []
theorem slices_IndexFunc_api_Expr_api_Expr_eq (k : Nat) (s : List api_Expr) (f : api_Expr → Option Bool) : slices_IndexFunc_api_Expr_api_Expr_f k s f = exec S (slices_IndexFunc_api_Expr_api_Expr_T) byt (labs S (slices_IndexFunc_api_Expr_api_Expr_T) (slices_IndexFunc_api_Expr_api_Expr_L k)) (ac [] Tryz.f102) (frame0 S [.val (.data (.sl (.st 4))), .fn [.st 4] [.bool]] (s, f)) (retK S (slices_IndexFunc_api_Expr_api_Expr_T) Tryz.f102 [.val (.data (.sl (.st 4))), .fn [.st 4] [.bool]] [.val (.data (.int .i64))]) := by kernel_rfl
theorem slices_IndexFunc_api_Expr_api_Expr_vc (k : Nat) : VC S (slices_IndexFunc_api_Expr_api_Expr_T) byt (slices_IndexFunc_api_Expr_api_Expr_L k) (slices_IndexFunc_api_Expr_api_Expr_L (k + 1)) (ac [] Tryz.f102) (retK S (slices_IndexFunc_api_Expr_api_Expr_T) Tryz.f102 [.val (.data (.sl (.st 4))), .fn [.st 4] [.bool]] [.val (.data (.int .i64))]) = [∀ x : List api_Expr × (api_Expr → Option Bool) × Int × Int, slices_IndexFunc_api_Expr_api_Expr_l0 (k + 1) x.1 x.2.1 x.2.2.1 x.2.2.2 = slices_IndexFunc_api_Expr_api_Expr_l0 (k + 1) x.1 x.2.1 x.2.2.1 x.2.2.2] := by kernel_rfl
theorem slices_IndexFunc_api_Expr_api_Expr_sndk (k : Nat) : Snd Tryz.prog S ⟨102, [.val (.data (.sl (.st 4))), .fn [.st 4] [.bool]], [.val (.data (.int .i64))], fun x => slices_IndexFunc_api_Expr_api_Expr_f k x.1 x.2⟩ :=
 fn_ok progOk (T := (slices_IndexFunc_api_Expr_api_Expr_T)) (all_nil) (all_nil) (all_nil) mixed Tryz.func102 rfl (by kernel_rfl) (ac_code [] Tryz.f102 rfl) (L := slices_IndexFunc_api_Expr_api_Expr_L)
  (fun n l h x => by match n, h with
   | 0, h =>
    rcases List.mem_cons.1 h with rfl | h
    · rfl
    cases h
   | _ + 1, h => cases h) (fun k n l h => by match n, h with
   | 0, h =>
    rcases List.mem_cons.1 h with rfl | h
    · rfl
    cases h
   | _ + 1, h => cases h)
  (fun k => All.mem (slices_IndexFunc_api_Expr_api_Expr_vc k) ⟨fun _ => rfl, trivial⟩) (fun x r h => ⟨k, (slices_IndexFunc_api_Expr_api_Expr_eq k x.1 x.2).symm.trans h⟩) (by kernel_rfl) (by kernel_rfl) (Nat.le_of_ble_eq_true (by kernel_rfl)) (by kernel_rfl)
theorem slices_IndexFunc_api_Expr_api_Expr_snd : Snd Tryz.prog S ⟨102, [.val (.data (.sl (.st 4))), .fn [.st 4] [.bool]], [.val (.data (.int .i64))], fun x => slices_IndexFunc_api_Expr_api_Expr x.1 x.2⟩ := Snd.lim (slices_IndexFunc_api_Expr_api_Expr_sndk)
noncomputable def slices_ContainsFunc_api_Expr_api_Expr  (s : List api_Expr) (f : api_Expr → Option Bool) : Option Bool := (slices_IndexFunc_api_Expr_api_Expr s f).bind fun r1 => some (decide (0 ≤ r1))
noncomputable abbrev slices_ContainsFunc_api_Expr_api_Expr_T : Tab S := ⟨[⟨102, [.val (.data (.sl (.st 4))), .fn [.st 4] [.bool]], [.val (.data (.int .i64))], fun x => slices_IndexFunc_api_Expr_api_Expr x.1 x.2⟩], [], false, false, none, []⟩
theorem slices_ContainsFunc_api_Expr_api_Expr_snd : Snd Tryz.prog S ⟨75, [.val (.data (.sl (.st 4))), .fn [.st 4] [.bool]], [.val (.data .bool)], fun x => slices_ContainsFunc_api_Expr_api_Expr x.1 x.2⟩ :=
 fn_ok0 progOk (T := (slices_ContainsFunc_api_Expr_api_Expr_T)) (all_cons slices_IndexFunc_api_Expr_api_Expr_snd (all_nil)) (all_nil) (all_nil) mixed Tryz.func75 rfl (by kernel_rfl) (ac_code [] Tryz.f75 rfl) (by kernel_rfl) (fun _ => by kernel_rfl) (by kernel_rfl) (by kernel_rfl) (Nat.le_of_ble_eq_true (by kernel_rfl)) (by kernel_rfl)
noncomputable def act_right_l0 (self_act_right : (List api_Act) → Int → Option Bool) : Nat → Int → (List api_Act) → Int → Int → Option Bool
 | 0, _, _, _, _ => none
 | k + 1, v_open, x10, x11, x12 => if x12 < x11 then
  if 0 ≤ x12 then
  if x12 < (x10.length : Int) then
  (act_shape (api_Act.mk ((x10.getD x12.toNat api_Act.z).Kind) ((x10.getD x12.toNat api_Act.z).Name) ((x10.getD x12.toNat api_Act.z).Event) ((x10.getD x12.toNat api_Act.z).X) ((x10.getD x12.toNat api_Act.z).N) ((x10.getD x12.toNat api_Act.z).Then) ((x10.getD x12.toNat api_Act.z).Else) ((x10.getD x12.toNat api_Act.z).At))).bind fun r1 =>
  bif !r1 then
  some false else
  (slices_ContainsFunc_api_Expr_api_Expr ((x10.getD x12.toNat api_Act.z).X) (fun y => act_right_S1 y)).bind fun r2 =>
  bif r2 then
  some false else
  if ((x10.getD x12.toNat api_Act.z).Kind) = 6 then
  (self_act_right ((x10.getD x12.toNat api_Act.z).Then) (w64 (v_open + 1))).bind fun r3 =>
  bif !r3 then
  some false else
  if 0 < (((x10.getD x12.toNat api_Act.z).Else).length : Int) then
  (self_act_right ((x10.getD x12.toNat api_Act.z).Else) (w64 (v_open + 1))).bind fun r4 =>
  bif !r4 then
  some false else
  act_right_l0 self_act_right k v_open x10 x11 (w64 (x12 + 1)) else
  act_right_l0 self_act_right k v_open x10 x11 (w64 (x12 + 1)) else
  if ((x10.getD x12.toNat api_Act.z).Kind) = 7 then
  (self_act_right ((x10.getD x12.toNat api_Act.z).Then) (w64 (v_open + 1))).bind fun r5 =>
  bif !r5 then
  some false else
  if 0 < (((x10.getD x12.toNat api_Act.z).Else).length : Int) then
  (self_act_right ((x10.getD x12.toNat api_Act.z).Else) (w64 (v_open + 1))).bind fun r6 =>
  bif !r6 then
  some false else
  act_right_l0 self_act_right k v_open x10 x11 (w64 (x12 + 1)) else
  act_right_l0 self_act_right k v_open x10 x11 (w64 (x12 + 1)) else
  if 0 < (((x10.getD x12.toNat api_Act.z).Else).length : Int) then
  (self_act_right ((x10.getD x12.toNat api_Act.z).Else) (w64 (v_open + 1))).bind fun r7 =>
  bif !r7 then
  some false else
  act_right_l0 self_act_right k v_open x10 x11 (w64 (x12 + 1)) else
  act_right_l0 self_act_right k v_open x10 x11 (w64 (x12 + 1)) else none else none else
  some true
noncomputable def act_right_b (self_act_right : (List api_Act) → Int → Option Bool) (k : Nat) (l : List api_Act) (v_open : Int) : Option Bool := if 4 < v_open then
 some false else
 act_right_l0 self_act_right k v_open l (l.length : Int) 0
noncomputable def act_right_f : Nat → (List api_Act) → Int → Option Bool
 | 0, _, _ => none
 | k + 1, x0, x1 => act_right_b (act_right_f k) k x0 x1
noncomputable def act_right  (l : List api_Act) (v_open : Int) : Option Bool := lim (fun k (x : List api_Act × Int) => act_right_f k x.1 x.2) (l, v_open)
noncomputable abbrev act_right_T (self_act_right : (List api_Act) → Int → Option Bool) : Tab S := ⟨[⟨74, [.val (.data (.st 3))], [.val (.data .bool)], fun x => act_shape x⟩, ⟨75, [.val (.data (.sl (.st 4))), .fn [.st 4] [.bool]], [.val (.data .bool)], fun x => slices_ContainsFunc_api_Expr_api_Expr x.1 x.2⟩, ⟨40, [.val (.data (.sl (.st 3))), .val (.data (.int .i64))], [.val (.data .bool)], fun x => self_act_right x.1 x.2⟩], [⟨76, [.st 4], [], [.bool], fun x c => act_right_S1 x⟩], false, false, none, []⟩
noncomputable def act_right_L (self_act_right : (List api_Act) → Int → Option Bool) (k : Nat) : Nat → List (Lab S Bool)
 | 0 => [⟨[1, 10, 11, 12], [.val (.data (.int .i64)), .val (.data (.sl (.st 3))), .val (.data (.int .i64)), .val (.data (.int .i64))], fun x => act_right_l0 self_act_right k x.1 x.2.1 x.2.2.1 x.2.2.2, false⟩]
 | _ + 1 => []
theorem act_right_eq (self_act_right : (List api_Act) → Int → Option Bool) (k : Nat) (l : List api_Act) (v_open : Int) : act_right_b self_act_right k l v_open = exec S (act_right_T self_act_right) byt (labs S (act_right_T self_act_right) (act_right_L self_act_right k)) (ac [] Tryz.f40) (frame0 S [.val (.data (.sl (.st 3))), .val (.data (.int .i64))] (l, v_open)) (retK S (act_right_T self_act_right) Tryz.f40 [.val (.data (.sl (.st 3))), .val (.data (.int .i64))] [.val (.data .bool)]) := by kernel_rfl
theorem act_right_vc (self_act_right : (List api_Act) → Int → Option Bool) (k : Nat) : VC S (act_right_T self_act_right) byt (act_right_L self_act_right k) (act_right_L self_act_right (k + 1)) (ac [] Tryz.f40) (retK S (act_right_T self_act_right) Tryz.f40 [.val (.data (.sl (.st 3))), .val (.data (.int .i64))] [.val (.data .bool)]) = [∀ x : Int × List api_Act × Int × Int, act_right_l0 self_act_right (k + 1) x.1 x.2.1 x.2.2.1 x.2.2.2 = act_right_l0 self_act_right (k + 1) x.1 x.2.1 x.2.2.1 x.2.2.2] := by kernel_rfl
theorem act_right_sndk (self_act_right : (List api_Act) → Int → Option Bool) (hself : Snd Tryz.prog S ⟨40, [.val (.data (.sl (.st 3))), .val (.data (.int .i64))], [.val (.data .bool)], fun x => self_act_right x.1 x.2⟩) (k : Nat) : Snd Tryz.prog S ⟨40, [.val (.data (.sl (.st 3))), .val (.data (.int .i64))], [.val (.data .bool)], fun x => act_right_b self_act_right k x.1 x.2⟩ :=
 fn_ok progOk (T := (act_right_T self_act_right)) (all_cons act_shape_snd (all_cons slices_ContainsFunc_api_Expr_api_Expr_snd (all_cons hself (all_nil)))) (all_nil) (all_cons act_right_S1_fsnd (all_nil)) mixed Tryz.func40 rfl (by kernel_rfl) (ac_code [] Tryz.f40 rfl) (L := act_right_L self_act_right)
  (fun n l h x => by match n, h with
   | 0, h =>
    rcases List.mem_cons.1 h with rfl | h
    · rfl
    cases h
   | _ + 1, h => cases h) (fun k n l h => by match n, h with
   | 0, h =>
    rcases List.mem_cons.1 h with rfl | h
    · rfl
    cases h
   | _ + 1, h => cases h)
  (fun k => All.mem (act_right_vc self_act_right k) ⟨fun _ => rfl, trivial⟩) (fun x r h => ⟨k, (act_right_eq self_act_right k x.1 x.2).symm.trans h⟩) (by kernel_rfl) (by kernel_rfl) (Nat.le_of_ble_eq_true (by kernel_rfl)) (by kernel_rfl)
theorem act_right_sndf : ∀ k, Snd Tryz.prog S ⟨40, [.val (.data (.sl (.st 3))), .val (.data (.int .i64))], [.val (.data .bool)], fun x => act_right_f k x.1 x.2⟩
 | 0 => Snd.none ⟨_, Tryz.func40, by kernel_rfl, by kernel_rfl⟩ fun _ => rfl
 | k + 1 => act_right_sndk (act_right_f k) (act_right_sndf k) k
theorem act_right_snd : Snd Tryz.prog S ⟨40, [.val (.data (.sl (.st 3))), .val (.data (.int .i64))], [.val (.data .bool)], fun x => act_right x.1 x.2⟩ := Snd.lim (act_right_sndf)
noncomputable def act_Right  (l : List api_Act) : Option Bool := (act_right l 1).bind fun r1 => some r1
noncomputable abbrev act_Right_T : Tab S := ⟨[⟨40, [.val (.data (.sl (.st 3))), .val (.data (.int .i64))], [.val (.data .bool)], fun x => act_right x.1 x.2⟩], [], false, false, none, []⟩
theorem act_Right_snd : Snd Tryz.prog S ⟨19, [.val (.data (.sl (.st 3)))], [.val (.data .bool)], fun x => act_Right x⟩ :=
 fn_ok0 progOk (T := (act_Right_T)) (all_cons act_right_snd (all_nil)) (all_nil) (all_nil) mixed Tryz.func19 rfl (by kernel_rfl) (ac_code [] Tryz.f19 rfl) (by kernel_rfl) (fun _ => by kernel_rfl) (by kernel_rfl) (by kernel_rfl) (Nat.le_of_ble_eq_true (by kernel_rfl)) (by kernel_rfl)
noncomputable def law8_known  : Option Bool := (law8_read s_raise_e_1_loop_2_x9e436).bind fun r1 =>
 (law8_read s_x_1_x697a8).bind fun r2 =>
 bif r1.2 then
 bif !r2.2 then
 (act_Print r1.1 0).bind fun r3 =>
 if r3 = s_raise_e_1_loop_2_x18436 then
 (act_Right r1.1).bind fun r4 =>
 bif r4 then
 (act_Right [api_Act.mk 0 [] [] [] 0 [] [] 0]).bind fun r5 =>
 some (!r5) else
 some false else
 some false else
 some false else
 some false
noncomputable abbrev law8_known_T : Tab S := ⟨[⟨21, [.val (.data .str)], [.val (.town (.st 3)), .val (.data .bool)], fun x => law8_read x⟩, ⟨20, [.val (.data (.sl (.st 3))), .val (.data (.int .i64))], [.val (.data .str)], fun x => act_Print x.1 x.2⟩, ⟨19, [.val (.data (.sl (.st 3)))], [.val (.data .bool)], fun x => act_Right x⟩], [], false, false, none, []⟩
theorem law8_known_snd : Snd Tryz.prog S ⟨9, [], [.val (.data .bool)], fun x => law8_known⟩ :=
 fn_ok0 progOk (T := (law8_known_T)) (all_cons law8_read_snd (all_cons act_Print_snd (all_cons act_Right_snd (all_nil)))) (all_nil) (all_nil) mixed Tryz.func9 rfl (by kernel_rfl) (ac_code [] Tryz.f9 rfl) (by kernel_rfl) (fun _ => by kernel_rfl) (by kernel_rfl) (by kernel_rfl) (Nat.le_of_ble_eq_true (by kernel_rfl)) (by kernel_rfl)
noncomputable def ref37_Place  (v : Int) (n : Int) : Option Int := if ¬ n = 0 then
 if (v.tmod n) < 0 then
 some (w64 ((v.tmod n) + n)) else
 some (v.tmod n) else none
noncomputable abbrev ref37_Place_T : Tab S := ⟨[], [], false, false, none, []⟩
theorem ref37_Place_snd : Snd Tryz.prog S ⟨10, [.val (.data (.int .i64)), .val (.data (.int .i64))], [.val (.data (.int .i64))], fun x => ref37_Place x.1 x.2⟩ :=
 fn_ok0 progOk (T := (ref37_Place_T)) (all_nil) (all_nil) (all_nil) mixed Tryz.func10 rfl (by kernel_rfl) (ac_code [] Tryz.f10 rfl) (by kernel_rfl) (fun _ => by kernel_rfl) (by kernel_rfl) (by kernel_rfl) (Nat.le_of_ble_eq_true (by kernel_rfl)) (by kernel_rfl)
noncomputable def ref6_Is  (l : List api_Token) (v_at : Int) (s : List UInt8) : Option Bool := if v_at < (l.length : Int) then
 if 0 ≤ v_at then
 if v_at < (l.length : Int) then
 if ((l.getD v_at.toNat api_Token.z).Kind) = 3 then
 if 0 ≤ v_at then
 if v_at < (l.length : Int) then
 some (decide (((l.getD v_at.toNat api_Token.z).Text) = s)) else none else none else
 if 0 ≤ v_at then
 if v_at < (l.length : Int) then
 if ((l.getD v_at.toNat api_Token.z).Kind) = 1 then
 if 0 ≤ v_at then
 if v_at < (l.length : Int) then
 some (decide (((l.getD v_at.toNat api_Token.z).Text) = s)) else none else none else
 some false else none else none else none else none else
 some false
noncomputable abbrev ref6_Is_T : Tab S := ⟨[], [], false, false, none, []⟩
theorem ref6_Is_snd : Snd Tryz.prog S ⟨59, [.val (.data (.sl (.st 0))), .val (.data (.int .i64)), .val (.data .str)], [.val (.data .bool)], fun x => ref6_Is x.1 x.2.1 x.2.2⟩ :=
 fn_ok0 progOk (T := (ref6_Is_T)) (all_nil) (all_nil) (all_nil) mixed Tryz.func59 rfl (by kernel_rfl) (ac_code [] Tryz.f59 rfl) (by kernel_rfl) (fun _ => by kernel_rfl) (by kernel_rfl) (by kernel_rfl) (Nat.le_of_ble_eq_true (by kernel_rfl)) (by kernel_rfl)
noncomputable def ref6_Bad  (l : List api_Token) (v_at : Int) : Option api_Fault := if 0 ≤ v_at then
 if v_at < (l.length : Int) then
 if ((l.getD v_at.toNat api_Token.z).Kind) = 4 then
 if 0 ≤ v_at then
 if v_at < (l.length : Int) then
 some (api_Fault.mk 12 ((l.getD v_at.toNat api_Token.z).At)) else none else none else
 if 0 ≤ v_at then
 if v_at < (l.length : Int) then
 some (api_Fault.mk 11 ((l.getD v_at.toNat api_Token.z).At)) else none else none else none else none
noncomputable abbrev ref6_Bad_T : Tab S := ⟨[], [], false, false, none, []⟩
theorem ref6_Bad_snd : Snd Tryz.prog S ⟨60, [.val (.data (.sl (.st 0))), .val (.data (.int .i64))], [.val (.data (.st 1))], fun x => ref6_Bad x.1 x.2⟩ :=
 fn_ok0 progOk (T := (ref6_Bad_T)) (all_nil) (all_nil) (all_nil) mixed Tryz.func60 rfl (by kernel_rfl) (ac_code [] Tryz.f60 rfl) (by kernel_rfl) (fun _ => by kernel_rfl) (by kernel_rfl) (by kernel_rfl) (Nat.le_of_ble_eq_true (by kernel_rfl)) (by kernel_rfl)
noncomputable def ref6_Want  (l : List api_Token) (v_at : Int) (s : List UInt8) : Option (Int × api_Fault) := (ref6_Is l v_at s).bind fun r1 =>
 bif !r1 then
 (ref6_Bad l v_at).bind fun r2 =>
 some (0, r2) else
 some (w64 (v_at + 1), api_Fault.mk 0 0)
noncomputable abbrev ref6_Want_T : Tab S := ⟨[⟨59, [.val (.data (.sl (.st 0))), .val (.data (.int .i64)), .val (.data .str)], [.val (.data .bool)], fun x => ref6_Is x.1 x.2.1 x.2.2⟩, ⟨60, [.val (.data (.sl (.st 0))), .val (.data (.int .i64))], [.val (.data (.st 1))], fun x => ref6_Bad x.1 x.2⟩], [], false, false, none, []⟩
theorem ref6_Want_snd : Snd Tryz.prog S ⟨94, [.val (.data (.sl (.st 0))), .val (.data (.int .i64)), .val (.data .str)], [.val (.data (.int .i64)), .val (.data (.st 1))], fun x => ref6_Want x.1 x.2.1 x.2.2⟩ :=
 fn_ok0 progOk (T := (ref6_Want_T)) (all_cons ref6_Is_snd (all_cons ref6_Bad_snd (all_nil))) (all_nil) (all_nil) mixed Tryz.func94 rfl (by kernel_rfl) (ac_code [] Tryz.f94 rfl) (by kernel_rfl) (fun _ => by kernel_rfl) (by kernel_rfl) (by kernel_rfl) (Nat.le_of_ble_eq_true (by kernel_rfl)) (by kernel_rfl)
noncomputable def ref7_reader_is  (r_ : ref7_reader) (s : List UInt8) : Option (Bool × ref7_reader) := (ref6_Is r_.l r_.v_at s).bind fun r1 => some (r1, r_)
noncomputable abbrev ref7_reader_is_T : Tab S := ⟨[⟨59, [.val (.data (.sl (.st 0))), .val (.data (.int .i64)), .val (.data .str)], [.val (.data .bool)], fun x => ref6_Is x.1 x.2.1 x.2.2⟩], [], false, false, none, []⟩
theorem ref7_reader_is_snd : Snd Tryz.prog S ⟨164, [.obj [.data (.st 10)], .val (.data .str)], [.val (.data .bool)], fun x => ref7_reader_is x.1 x.2⟩ :=
 fn_ok0 progOk (T := (ref7_reader_is_T)) (all_cons ref6_Is_snd (all_nil)) (all_nil) (all_nil) mixed Tryz.func164 rfl (by kernel_rfl) (ac_code [] Tryz.f164 rfl) (by kernel_rfl) (fun _ => by kernel_rfl) (by kernel_rfl) (by kernel_rfl) (Nat.le_of_ble_eq_true (by kernel_rfl)) (by kernel_rfl)
noncomputable def ref7_reader_wrong  (r_ : ref7_reader) : Option (api_Expr × ref7_reader) := if r_.bad.Code = 0 then
 (ref6_Bad r_.l r_.v_at).bind fun r1 =>
 some (api_Expr.mk 0 0 [] [] 0, ref7_reader.mk r_.l r_.v_at r_.v_open r1) else
 some (api_Expr.mk 0 0 [] [] 0, r_)
noncomputable abbrev ref7_reader_wrong_T : Tab S := ⟨[⟨60, [.val (.data (.sl (.st 0))), .val (.data (.int .i64))], [.val (.data (.st 1))], fun x => ref6_Bad x.1 x.2⟩], [], false, false, none, []⟩
theorem ref7_reader_wrong_snd : Snd Tryz.prog S ⟨175, [.obj [.data (.st 10)]], [.val (.data (.st 4))], fun x => ref7_reader_wrong x⟩ :=
 fn_ok0 progOk (T := (ref7_reader_wrong_T)) (all_cons ref6_Bad_snd (all_nil)) (all_nil) (all_nil) mixed Tryz.func175 rfl (by kernel_rfl) (ac_code [] Tryz.f175 rfl) (by kernel_rfl) (fun _ => by kernel_rfl) (by kernel_rfl) (by kernel_rfl) (Nat.le_of_ble_eq_true (by kernel_rfl)) (by kernel_rfl)
noncomputable def ref7_reader_want  (r_ : ref7_reader) (s : List UInt8) : Option ref7_reader := if r_.bad.Code ≠ 0 then
 some r_ else
 (ref7_reader_is r_ s).bind fun r1 =>
 bif !r1.1 then
 (ref7_reader_wrong r1.2).bind fun r2 =>
 some r2.2 else
 some (ref7_reader.mk r1.2.l (w64 (r1.2.v_at + 1)) r1.2.v_open r1.2.bad)
noncomputable abbrev ref7_reader_want_T : Tab S := ⟨[⟨164, [.obj [.data (.st 10)], .val (.data .str)], [.val (.data .bool)], fun x => ref7_reader_is x.1 x.2⟩, ⟨175, [.obj [.data (.st 10)]], [.val (.data (.st 4))], fun x => ref7_reader_wrong x⟩], [], false, false, none, []⟩
theorem ref7_reader_want_snd : Snd Tryz.prog S ⟨174, [.obj [.data (.st 10)], .val (.data .str)], [], fun x => ref7_reader_want x.1 x.2⟩ :=
 fn_ok0 progOk (T := (ref7_reader_want_T)) (all_cons ref7_reader_is_snd (all_cons ref7_reader_wrong_snd (all_nil))) (all_nil) (all_nil) mixed Tryz.func174 rfl (by kernel_rfl) (ac_code [] Tryz.f174 rfl) (by kernel_rfl) (fun _ => by kernel_rfl) (by kernel_rfl) (by kernel_rfl) (Nat.le_of_ble_eq_true (by kernel_rfl)) (by kernel_rfl)
noncomputable def ref6_Reserved_l0 : Nat → (List UInt8) → (List UInt8 × List UInt8 × List UInt8 × List UInt8 × List UInt8 × List UInt8 × List UInt8 × List UInt8 × List UInt8 × List UInt8 × List UInt8 × List UInt8 × List UInt8 × List UInt8 × List UInt8 × List UInt8 × List UInt8 × List UInt8 × List UInt8 × List UInt8 × List UInt8 × List UInt8 × List UInt8 × List UInt8 × List UInt8 × List UInt8 × List UInt8 × List UInt8 × List UInt8 × List UInt8 × List UInt8 × List UInt8 × List UInt8 × List UInt8 × List UInt8) → Int → Option Bool
 | 0, _, _, _ => none
 | k + 1, s, words, i => if i < 35 then
  if 0 ≤ i then
  if i < ([words.1, words.2.1, words.2.2.1, words.2.2.2.1, words.2.2.2.2.1, words.2.2.2.2.2.1, words.2.2.2.2.2.2.1, words.2.2.2.2.2.2.2.1, words.2.2.2.2.2.2.2.2.1, words.2.2.2.2.2.2.2.2.2.1, words.2.2.2.2.2.2.2.2.2.2.1, words.2.2.2.2.2.2.2.2.2.2.2.1, words.2.2.2.2.2.2.2.2.2.2.2.2.1, words.2.2.2.2.2.2.2.2.2.2.2.2.2.1, words.2.2.2.2.2.2.2.2.2.2.2.2.2.2.1, words.2.2.2.2.2.2.2.2.2.2.2.2.2.2.2.1, words.2.2.2.2.2.2.2.2.2.2.2.2.2.2.2.2.1, words.2.2.2.2.2.2.2.2.2.2.2.2.2.2.2.2.2.1, words.2.2.2.2.2.2.2.2.2.2.2.2.2.2.2.2.2.2.1, words.2.2.2.2.2.2.2.2.2.2.2.2.2.2.2.2.2.2.2.1, words.2.2.2.2.2.2.2.2.2.2.2.2.2.2.2.2.2.2.2.2.1, words.2.2.2.2.2.2.2.2.2.2.2.2.2.2.2.2.2.2.2.2.2.1, words.2.2.2.2.2.2.2.2.2.2.2.2.2.2.2.2.2.2.2.2.2.2.1, words.2.2.2.2.2.2.2.2.2.2.2.2.2.2.2.2.2.2.2.2.2.2.2.1, words.2.2.2.2.2.2.2.2.2.2.2.2.2.2.2.2.2.2.2.2.2.2.2.2.1, words.2.2.2.2.2.2.2.2.2.2.2.2.2.2.2.2.2.2.2.2.2.2.2.2.2.1, words.2.2.2.2.2.2.2.2.2.2.2.2.2.2.2.2.2.2.2.2.2.2.2.2.2.2.1, words.2.2.2.2.2.2.2.2.2.2.2.2.2.2.2.2.2.2.2.2.2.2.2.2.2.2.2.1, words.2.2.2.2.2.2.2.2.2.2.2.2.2.2.2.2.2.2.2.2.2.2.2.2.2.2.2.2.1, words.2.2.2.2.2.2.2.2.2.2.2.2.2.2.2.2.2.2.2.2.2.2.2.2.2.2.2.2.2.1, words.2.2.2.2.2.2.2.2.2.2.2.2.2.2.2.2.2.2.2.2.2.2.2.2.2.2.2.2.2.2.1, words.2.2.2.2.2.2.2.2.2.2.2.2.2.2.2.2.2.2.2.2.2.2.2.2.2.2.2.2.2.2.2.1, words.2.2.2.2.2.2.2.2.2.2.2.2.2.2.2.2.2.2.2.2.2.2.2.2.2.2.2.2.2.2.2.2.1, words.2.2.2.2.2.2.2.2.2.2.2.2.2.2.2.2.2.2.2.2.2.2.2.2.2.2.2.2.2.2.2.2.2.1, words.2.2.2.2.2.2.2.2.2.2.2.2.2.2.2.2.2.2.2.2.2.2.2.2.2.2.2.2.2.2.2.2.2.2].length : Int) then
  if ([words.1, words.2.1, words.2.2.1, words.2.2.2.1, words.2.2.2.2.1, words.2.2.2.2.2.1, words.2.2.2.2.2.2.1, words.2.2.2.2.2.2.2.1, words.2.2.2.2.2.2.2.2.1, words.2.2.2.2.2.2.2.2.2.1, words.2.2.2.2.2.2.2.2.2.2.1, words.2.2.2.2.2.2.2.2.2.2.2.1, words.2.2.2.2.2.2.2.2.2.2.2.2.1, words.2.2.2.2.2.2.2.2.2.2.2.2.2.1, words.2.2.2.2.2.2.2.2.2.2.2.2.2.2.1, words.2.2.2.2.2.2.2.2.2.2.2.2.2.2.2.1, words.2.2.2.2.2.2.2.2.2.2.2.2.2.2.2.2.1, words.2.2.2.2.2.2.2.2.2.2.2.2.2.2.2.2.2.1, words.2.2.2.2.2.2.2.2.2.2.2.2.2.2.2.2.2.2.1, words.2.2.2.2.2.2.2.2.2.2.2.2.2.2.2.2.2.2.2.1, words.2.2.2.2.2.2.2.2.2.2.2.2.2.2.2.2.2.2.2.2.1, words.2.2.2.2.2.2.2.2.2.2.2.2.2.2.2.2.2.2.2.2.2.1, words.2.2.2.2.2.2.2.2.2.2.2.2.2.2.2.2.2.2.2.2.2.2.1, words.2.2.2.2.2.2.2.2.2.2.2.2.2.2.2.2.2.2.2.2.2.2.2.1, words.2.2.2.2.2.2.2.2.2.2.2.2.2.2.2.2.2.2.2.2.2.2.2.2.1, words.2.2.2.2.2.2.2.2.2.2.2.2.2.2.2.2.2.2.2.2.2.2.2.2.2.1, words.2.2.2.2.2.2.2.2.2.2.2.2.2.2.2.2.2.2.2.2.2.2.2.2.2.2.1, words.2.2.2.2.2.2.2.2.2.2.2.2.2.2.2.2.2.2.2.2.2.2.2.2.2.2.2.1, words.2.2.2.2.2.2.2.2.2.2.2.2.2.2.2.2.2.2.2.2.2.2.2.2.2.2.2.2.1, words.2.2.2.2.2.2.2.2.2.2.2.2.2.2.2.2.2.2.2.2.2.2.2.2.2.2.2.2.2.1, words.2.2.2.2.2.2.2.2.2.2.2.2.2.2.2.2.2.2.2.2.2.2.2.2.2.2.2.2.2.2.1, words.2.2.2.2.2.2.2.2.2.2.2.2.2.2.2.2.2.2.2.2.2.2.2.2.2.2.2.2.2.2.2.1, words.2.2.2.2.2.2.2.2.2.2.2.2.2.2.2.2.2.2.2.2.2.2.2.2.2.2.2.2.2.2.2.2.1, words.2.2.2.2.2.2.2.2.2.2.2.2.2.2.2.2.2.2.2.2.2.2.2.2.2.2.2.2.2.2.2.2.2.1, words.2.2.2.2.2.2.2.2.2.2.2.2.2.2.2.2.2.2.2.2.2.2.2.2.2.2.2.2.2.2.2.2.2.2].getD i.toNat []) = s then
  some true else
  ref6_Reserved_l0 k s words (w64 (i + 1)) else none else none else
  some false
noncomputable def ref6_Reserved_f (k : Nat) (s : List UInt8) : Option Bool := ref6_Reserved_l0 k s arr_x8304b 0
noncomputable def ref6_Reserved  (s : List UInt8) : Option Bool := lim (fun k (x : List UInt8) => ref6_Reserved_f k x) s
noncomputable abbrev ref6_Reserved_T : Tab S := ⟨[], [], false, false, none, []⟩
noncomputable def ref6_Reserved_L (k : Nat) : Nat → List (Lab S Bool)
 | 0 => [⟨[0, 3, 4], [.val (.data .str), .ro (.st 11), .val (.data (.int .i64))], fun x => ref6_Reserved_l0 k x.1 x.2.1 x.2.2, false⟩]
 | _ + 1 => []
theorem ref6_Reserved_eq (k : Nat) (s : List UInt8) : ref6_Reserved_f k s = exec S (ref6_Reserved_T) byt (labs S (ref6_Reserved_T) (ref6_Reserved_L k)) (ac [] Tryz.f132) (frame0 S [.val (.data .str)] s) (retK S (ref6_Reserved_T) Tryz.f132 [.val (.data .str)] [.val (.data .bool)]) := by kernel_rfl
theorem ref6_Reserved_vc (k : Nat) : VC S (ref6_Reserved_T) byt (ref6_Reserved_L k) (ref6_Reserved_L (k + 1)) (ac [] Tryz.f132) (retK S (ref6_Reserved_T) Tryz.f132 [.val (.data .str)] [.val (.data .bool)]) = [∀ x : List UInt8 × (List UInt8 × List UInt8 × List UInt8 × List UInt8 × List UInt8 × List UInt8 × List UInt8 × List UInt8 × List UInt8 × List UInt8 × List UInt8 × List UInt8 × List UInt8 × List UInt8 × List UInt8 × List UInt8 × List UInt8 × List UInt8 × List UInt8 × List UInt8 × List UInt8 × List UInt8 × List UInt8 × List UInt8 × List UInt8 × List UInt8 × List UInt8 × List UInt8 × List UInt8 × List UInt8 × List UInt8 × List UInt8 × List UInt8 × List UInt8 × List UInt8) × Int, ref6_Reserved_l0 (k + 1) x.1 x.2.1 x.2.2 = ref6_Reserved_l0 (k + 1) x.1 x.2.1 x.2.2] := by kernel_rfl
theorem ref6_Reserved_sndk (k : Nat) : Snd Tryz.prog S ⟨132, [.val (.data .str)], [.val (.data .bool)], fun x => ref6_Reserved_f k x⟩ :=
 fn_ok progOk (T := (ref6_Reserved_T)) (all_nil) (all_nil) (all_nil) mixed Tryz.func132 rfl (by kernel_rfl) (ac_code [] Tryz.f132 rfl) (L := ref6_Reserved_L)
  (fun n l h x => by match n, h with
   | 0, h =>
    rcases List.mem_cons.1 h with rfl | h
    · rfl
    cases h
   | _ + 1, h => cases h) (fun k n l h => by match n, h with
   | 0, h =>
    rcases List.mem_cons.1 h with rfl | h
    · rfl
    cases h
   | _ + 1, h => cases h)
  (fun k => All.mem (ref6_Reserved_vc k) ⟨fun _ => rfl, trivial⟩) (fun x r h => ⟨k, (ref6_Reserved_eq k x).symm.trans h⟩) (by kernel_rfl) (by kernel_rfl) (Nat.le_of_ble_eq_true (by kernel_rfl)) (by kernel_rfl)
theorem ref6_Reserved_snd : Snd Tryz.prog S ⟨132, [.val (.data .str)], [.val (.data .bool)], fun x => ref6_Reserved x⟩ := Snd.lim (ref6_Reserved_sndk)
noncomputable def ref6_Named  (l : List api_Token) (v_at : Int) : Option Bool := if v_at < (l.length : Int) then
 if 0 ≤ v_at then
 if v_at < (l.length : Int) then
 if ((l.getD v_at.toNat api_Token.z).Kind) = 1 then
 if 0 ≤ v_at then
 if v_at < (l.length : Int) then
 (ref6_Reserved ((l.getD v_at.toNat api_Token.z).Text)).bind fun r1 =>
 some (!r1) else none else none else
 some false else none else none else
 some false
noncomputable abbrev ref6_Named_T : Tab S := ⟨[⟨132, [.val (.data .str)], [.val (.data .bool)], fun x => ref6_Reserved x⟩], [], false, false, none, []⟩
theorem ref6_Named_snd : Snd Tryz.prog S ⟨117, [.val (.data (.sl (.st 0))), .val (.data (.int .i64))], [.val (.data .bool)], fun x => ref6_Named x.1 x.2⟩ :=
 fn_ok0 progOk (T := (ref6_Named_T)) (all_cons ref6_Reserved_snd (all_nil)) (all_nil) (all_nil) mixed Tryz.func117 rfl (by kernel_rfl) (ac_code [] Tryz.f117 rfl) (by kernel_rfl) (fun _ => by kernel_rfl) (by kernel_rfl) (by kernel_rfl) (Nat.le_of_ble_eq_true (by kernel_rfl)) (by kernel_rfl)
noncomputable def ref7_reader_enter  (r_ : ref7_reader) : Option (Bool × ref7_reader) := if r_.v_open = 12 then
 if 0 ≤ r_.v_at then
 if r_.v_at < (r_.l.length : Int) then
 some (false, ref7_reader.mk r_.l r_.v_at r_.v_open (api_Fault.mk 14 ((r_.l.getD r_.v_at.toNat api_Token.z).At))) else none else none else
 some (true, ref7_reader.mk r_.l (w64 (r_.v_at + 1)) (w64 (r_.v_open + 1)) r_.bad)
noncomputable abbrev ref7_reader_enter_T : Tab S := ⟨[], [], false, false, none, []⟩
theorem ref7_reader_enter_snd : Snd Tryz.prog S ⟨166, [.obj [.data (.st 10)]], [.val (.data .bool)], fun x => ref7_reader_enter x⟩ :=
 fn_ok0 progOk (T := (ref7_reader_enter_T)) (all_nil) (all_nil) (all_nil) mixed Tryz.func166 rfl (by kernel_rfl) (ac_code [] Tryz.f166 rfl) (by kernel_rfl) (fun _ => by kernel_rfl) (by kernel_rfl) (by kernel_rfl) (Nat.le_of_ble_eq_true (by kernel_rfl)) (by kernel_rfl)
noncomputable def ref7_reader_prim (self_ref7_reader_binary : ref7_reader → Int → Option (api_Expr × ref7_reader))  (r_ : ref7_reader) : Option (api_Expr × ref7_reader) := if 0 ≤ r_.v_at then
 if r_.v_at < (r_.l.length : Int) then
 if ((r_.l.getD r_.v_at.toNat api_Token.z).Kind) = 2 then
 some (api_Expr.mk 1 ((r_.l.getD r_.v_at.toNat api_Token.z).N) [] [] ((r_.l.getD r_.v_at.toNat api_Token.z).At), ref7_reader.mk r_.l (w64 (r_.v_at + 1)) r_.v_open r_.bad) else
 (ref7_reader_is r_ s_dollar).bind fun r1 =>
 bif r1.1 then
 some (api_Expr.mk 3 0 [] [] ((r_.l.getD r_.v_at.toNat api_Token.z).At), ref7_reader.mk r1.2.l (w64 (r1.2.v_at + 1)) r1.2.v_open r1.2.bad) else
 (ref7_reader_is r1.2 s_in).bind fun r2 =>
 bif r2.1 then
 (ref7_reader_want (ref7_reader.mk r2.2.l (w64 (r2.2.v_at + 1)) r2.2.v_open r2.2.bad) s_lp).bind fun r3 =>
 if r3.bad.Code ≠ 0 then
 some (api_Expr.mk 0 0 [] [] 0, r3) else
 (ref6_Named r3.l r3.v_at).bind fun r4 =>
 bif !r4 then
 (ref7_reader_wrong r3).bind fun r5 =>
 some (api_Expr.mk r5.1.Kind r5.1.N r5.1.Name r5.1.Kids r5.1.At, r5.2) else
 if 0 ≤ r3.v_at then
 if r3.v_at < (r3.l.length : Int) then
 (ref7_reader_want (ref7_reader.mk r3.l (w64 (r3.v_at + 1)) r3.v_open r3.bad) s_rp).bind fun r6 =>
 some (api_Expr.mk 4 0 ((r3.l.getD r3.v_at.toNat api_Token.z).Text) [] ((r_.l.getD r_.v_at.toNat api_Token.z).At), r6) else none else none else
 (ref7_reader_is r2.2 s_lp).bind fun r7 =>
 bif r7.1 then
 (ref7_reader_enter r7.2).bind fun r8 =>
 bif !r8.1 then
 some (api_Expr.mk 0 0 [] [] 0, r8.2) else
 (self_ref7_reader_binary r8.2 1).bind fun r9 =>
 (ref7_reader_want r9.2 s_rp).bind fun r10 =>
 some (api_Expr.mk r9.1.Kind r9.1.N r9.1.Name r9.1.Kids r9.1.At, ref7_reader.mk r10.l r10.v_at (w64 (r10.v_open - 1)) r10.bad) else
 (ref6_Named r7.2.l r7.2.v_at).bind fun r11 =>
 bif r11 then
 some (api_Expr.mk 2 0 ((r_.l.getD r_.v_at.toNat api_Token.z).Text) [] ((r_.l.getD r_.v_at.toNat api_Token.z).At), ref7_reader.mk r7.2.l (w64 (r7.2.v_at + 1)) r7.2.v_open r7.2.bad) else
 (ref7_reader_wrong r7.2).bind fun r12 =>
 some (api_Expr.mk r12.1.Kind r12.1.N r12.1.Name r12.1.Kids r12.1.At, r12.2) else none else none
noncomputable abbrev ref7_reader_prim_T (self_ref7_reader_binary : ref7_reader → Int → Option (api_Expr × ref7_reader)) : Tab S := ⟨[⟨164, [.obj [.data (.st 10)], .val (.data .str)], [.val (.data .bool)], fun x => ref7_reader_is x.1 x.2⟩, ⟨174, [.obj [.data (.st 10)], .val (.data .str)], [], fun x => ref7_reader_want x.1 x.2⟩, ⟨117, [.val (.data (.sl (.st 0))), .val (.data (.int .i64))], [.val (.data .bool)], fun x => ref6_Named x.1 x.2⟩, ⟨175, [.obj [.data (.st 10)]], [.val (.data (.st 4))], fun x => ref7_reader_wrong x⟩, ⟨166, [.obj [.data (.st 10)]], [.val (.data .bool)], fun x => ref7_reader_enter x⟩, ⟨136, [.obj [.data (.st 10)], .val (.data (.int .i64))], [.val (.data (.st 4))], fun x => self_ref7_reader_binary x.1 x.2⟩], [], false, false, none, []⟩
theorem ref7_reader_prim_snd (self_ref7_reader_binary : ref7_reader → Int → Option (api_Expr × ref7_reader)) (hself_ref7_reader_binary : Snd Tryz.prog S ⟨136, [.obj [.data (.st 10)], .val (.data (.int .i64))], [.val (.data (.st 4))], fun x => self_ref7_reader_binary x.1 x.2⟩) : Snd Tryz.prog S ⟨165, [.obj [.data (.st 10)]], [.val (.data (.st 4))], fun x => ref7_reader_prim self_ref7_reader_binary x⟩ :=
 fn_ok0 progOk (T := (ref7_reader_prim_T self_ref7_reader_binary)) (all_cons ref7_reader_is_snd (all_cons ref7_reader_want_snd (all_cons ref6_Named_snd (all_cons ref7_reader_wrong_snd (all_cons ref7_reader_enter_snd (all_cons hself_ref7_reader_binary (all_nil))))))) (all_nil) (all_nil) mixed Tryz.func165 rfl (by kernel_rfl) (ac_code [] Tryz.f165 rfl) (by kernel_rfl) (fun _ => by kernel_rfl) (by kernel_rfl) (by kernel_rfl) (Nat.le_of_ble_eq_true (by kernel_rfl)) (by kernel_rfl)
noncomputable def ref7_reader_unary_b (self_ref7_reader_unary : ref7_reader → Option (api_Expr × ref7_reader)) (self_ref7_reader_binary : ref7_reader → Int → Option (api_Expr × ref7_reader)) (k : Nat) (r_ : ref7_reader) : Option (api_Expr × ref7_reader) := (ref7_reader_is r_ s_minus).bind fun r1 =>
 bif r1.1 then
 (ref7_reader_is r1.2 s_bang).bind fun r2 =>
 bif r2.1 then
 if (6 : Int) = 0 then
 (ref7_reader_prim self_ref7_reader_binary r2.2).bind fun r3 =>
 some (api_Expr.mk r3.1.Kind r3.1.N r3.1.Name r3.1.Kids r3.1.At, r3.2) else
 if 0 ≤ r2.2.v_at then
 if r2.2.v_at < (r2.2.l.length : Int) then
 (ref7_reader_enter r2.2).bind fun r4 =>
 bif !r4.1 then
 some (api_Expr.mk 0 0 [] [] 0, r4.2) else
 (self_ref7_reader_unary r4.2).bind fun r5 =>
 some (api_Expr.mk 6 0 [] [api_Expr.mk r5.1.Kind r5.1.N r5.1.Name r5.1.Kids r5.1.At] ((r2.2.l.getD r2.2.v_at.toNat api_Token.z).At), ref7_reader.mk r5.2.l r5.2.v_at (w64 (r5.2.v_open - 1)) r5.2.bad) else none else none else
 if (5 : Int) = 0 then
 (ref7_reader_prim self_ref7_reader_binary r2.2).bind fun r6 =>
 some (api_Expr.mk r6.1.Kind r6.1.N r6.1.Name r6.1.Kids r6.1.At, r6.2) else
 if 0 ≤ r2.2.v_at then
 if r2.2.v_at < (r2.2.l.length : Int) then
 (ref7_reader_enter r2.2).bind fun r7 =>
 bif !r7.1 then
 some (api_Expr.mk 0 0 [] [] 0, r7.2) else
 (self_ref7_reader_unary r7.2).bind fun r8 =>
 some (api_Expr.mk 5 0 [] [api_Expr.mk r8.1.Kind r8.1.N r8.1.Name r8.1.Kids r8.1.At] ((r2.2.l.getD r2.2.v_at.toNat api_Token.z).At), ref7_reader.mk r8.2.l r8.2.v_at (w64 (r8.2.v_open - 1)) r8.2.bad) else none else none else
 (ref7_reader_is r1.2 s_bang).bind fun r9 =>
 bif r9.1 then
 if (6 : Int) = 0 then
 (ref7_reader_prim self_ref7_reader_binary r9.2).bind fun r10 =>
 some (api_Expr.mk r10.1.Kind r10.1.N r10.1.Name r10.1.Kids r10.1.At, r10.2) else
 if 0 ≤ r9.2.v_at then
 if r9.2.v_at < (r9.2.l.length : Int) then
 (ref7_reader_enter r9.2).bind fun r11 =>
 bif !r11.1 then
 some (api_Expr.mk 0 0 [] [] 0, r11.2) else
 (self_ref7_reader_unary r11.2).bind fun r12 =>
 some (api_Expr.mk 6 0 [] [api_Expr.mk r12.1.Kind r12.1.N r12.1.Name r12.1.Kids r12.1.At] ((r9.2.l.getD r9.2.v_at.toNat api_Token.z).At), ref7_reader.mk r12.2.l r12.2.v_at (w64 (r12.2.v_open - 1)) r12.2.bad) else none else none else
 if (0 : Int) = 0 then
 (ref7_reader_prim self_ref7_reader_binary r9.2).bind fun r13 =>
 some (api_Expr.mk r13.1.Kind r13.1.N r13.1.Name r13.1.Kids r13.1.At, r13.2) else
 if 0 ≤ r9.2.v_at then
 if r9.2.v_at < (r9.2.l.length : Int) then
 (ref7_reader_enter r9.2).bind fun r14 =>
 bif !r14.1 then
 some (api_Expr.mk 0 0 [] [] 0, r14.2) else
 (self_ref7_reader_unary r14.2).bind fun r15 =>
 some (api_Expr.mk 0 0 [] [api_Expr.mk r15.1.Kind r15.1.N r15.1.Name r15.1.Kids r15.1.At] ((r9.2.l.getD r9.2.v_at.toNat api_Token.z).At), ref7_reader.mk r15.2.l r15.2.v_at (w64 (r15.2.v_open - 1)) r15.2.bad) else none else none
noncomputable def ref7_reader_unary_f (self_ref7_reader_binary : ref7_reader → Int → Option (api_Expr × ref7_reader)) : Nat → ref7_reader → Option (api_Expr × ref7_reader)
 | 0, _ => none
 | k + 1, x0 => ref7_reader_unary_b (ref7_reader_unary_f self_ref7_reader_binary k) self_ref7_reader_binary k x0
noncomputable def ref7_reader_unary (self_ref7_reader_binary : ref7_reader → Int → Option (api_Expr × ref7_reader))  (r_ : ref7_reader) : Option (api_Expr × ref7_reader) := lim (fun k (x : ref7_reader) => ref7_reader_unary_f self_ref7_reader_binary k x) r_
noncomputable abbrev ref7_reader_unary_T (self_ref7_reader_unary : ref7_reader → Option (api_Expr × ref7_reader)) (self_ref7_reader_binary : ref7_reader → Int → Option (api_Expr × ref7_reader)) : Tab S := ⟨[⟨164, [.obj [.data (.st 10)], .val (.data .str)], [.val (.data .bool)], fun x => ref7_reader_is x.1 x.2⟩, ⟨165, [.obj [.data (.st 10)]], [.val (.data (.st 4))], fun x => ref7_reader_prim self_ref7_reader_binary x⟩, ⟨166, [.obj [.data (.st 10)]], [.val (.data .bool)], fun x => ref7_reader_enter x⟩, ⟨149, [.obj [.data (.st 10)]], [.val (.data (.st 4))], fun x => self_ref7_reader_unary x⟩], [], false, false, none, []⟩
theorem ref7_reader_unary_sndk (self_ref7_reader_unary : ref7_reader → Option (api_Expr × ref7_reader)) (self_ref7_reader_binary : ref7_reader → Int → Option (api_Expr × ref7_reader)) (hself : Snd Tryz.prog S ⟨149, [.obj [.data (.st 10)]], [.val (.data (.st 4))], fun x => self_ref7_reader_unary x⟩) (hself_ref7_reader_binary : Snd Tryz.prog S ⟨136, [.obj [.data (.st 10)], .val (.data (.int .i64))], [.val (.data (.st 4))], fun x => self_ref7_reader_binary x.1 x.2⟩) (k : Nat) : Snd Tryz.prog S ⟨149, [.obj [.data (.st 10)]], [.val (.data (.st 4))], fun x => ref7_reader_unary_b self_ref7_reader_unary self_ref7_reader_binary k x⟩ :=
 fn_ok0 progOk (T := (ref7_reader_unary_T self_ref7_reader_unary self_ref7_reader_binary)) (all_cons ref7_reader_is_snd (all_cons (ref7_reader_prim_snd self_ref7_reader_binary hself_ref7_reader_binary) (all_cons ref7_reader_enter_snd (all_cons hself (all_nil))))) (all_nil) (all_nil) mixed Tryz.func149 rfl (by kernel_rfl) (ac_code [] Tryz.f149 rfl) (by kernel_rfl) (fun _ => by kernel_rfl) (by kernel_rfl) (by kernel_rfl) (Nat.le_of_ble_eq_true (by kernel_rfl)) (by kernel_rfl)
theorem ref7_reader_unary_sndf (self_ref7_reader_binary : ref7_reader → Int → Option (api_Expr × ref7_reader)) (hself_ref7_reader_binary : Snd Tryz.prog S ⟨136, [.obj [.data (.st 10)], .val (.data (.int .i64))], [.val (.data (.st 4))], fun x => self_ref7_reader_binary x.1 x.2⟩) : ∀ k, Snd Tryz.prog S ⟨149, [.obj [.data (.st 10)]], [.val (.data (.st 4))], fun x => ref7_reader_unary_f self_ref7_reader_binary k x⟩
 | 0 => Snd.none ⟨_, Tryz.func149, by kernel_rfl, by kernel_rfl⟩ fun _ => rfl
 | k + 1 => ref7_reader_unary_sndk (ref7_reader_unary_f self_ref7_reader_binary k) self_ref7_reader_binary (ref7_reader_unary_sndf self_ref7_reader_binary hself_ref7_reader_binary k) hself_ref7_reader_binary k
theorem ref7_reader_unary_snd (self_ref7_reader_binary : ref7_reader → Int → Option (api_Expr × ref7_reader)) (hself_ref7_reader_binary : Snd Tryz.prog S ⟨136, [.obj [.data (.st 10)], .val (.data (.int .i64))], [.val (.data (.st 4))], fun x => self_ref7_reader_binary x.1 x.2⟩) : Snd Tryz.prog S ⟨149, [.obj [.data (.st 10)]], [.val (.data (.st 4))], fun x => ref7_reader_unary self_ref7_reader_binary x⟩ := Snd.lim (ref7_reader_unary_sndf self_ref7_reader_binary hself_ref7_reader_binary)
noncomputable def ref7_at  (level : Int) (own : Int) (kind : Int) : Option Int := if level = own then some kind else some 0
noncomputable abbrev ref7_at_T : Tab S := ⟨[], [], false, false, none, []⟩
theorem ref7_at_snd : Snd Tryz.prog S ⟨167, [.val (.data (.int .i64)), .val (.data (.int .i64)), .val (.data (.int .i64))], [.val (.data (.int .i64))], fun x => ref7_at x.1 x.2.1 x.2.2⟩ :=
 fn_ok0 progOk (T := (ref7_at_T)) (all_nil) (all_nil) (all_nil) mixed Tryz.func167 rfl (by kernel_rfl) (ac_code [] Tryz.f167 rfl) (by kernel_rfl) (fun _ => by kernel_rfl) (by kernel_rfl) (by kernel_rfl) (Nat.le_of_ble_eq_true (by kernel_rfl)) (by kernel_rfl)
noncomputable def ref7_kind  (level : Int) (s : List UInt8) : Option Int := if s = s_bar_bar then
 (ref7_at level 1 19).bind fun r1 =>
 some r1 else
 if s = s_amp_amp then
 (ref7_at level 2 18).bind fun r2 =>
 some r2 else
 if s = s_lt then
 (ref7_at level 3 12).bind fun r3 =>
 some r3 else
 if s = s_lt_eq then
 (ref7_at level 3 13).bind fun r4 =>
 some r4 else
 if s = s_gt then
 (ref7_at level 3 14).bind fun r5 =>
 some r5 else
 if s = s_gt_eq then
 (ref7_at level 3 15).bind fun r6 =>
 some r6 else
 if s = s_eq_eq then
 (ref7_at level 3 16).bind fun r7 =>
 some r7 else
 if s = s_bang_eq then
 (ref7_at level 3 17).bind fun r8 =>
 some r8 else
 if s = s_plus then
 (ref7_at level 4 10).bind fun r9 =>
 some r9 else
 if s = s_minus then
 (ref7_at level 4 11).bind fun r10 =>
 some r10 else
 if s = s_star then
 (ref7_at level 5 7).bind fun r11 =>
 some r11 else
 if s = s_slash then
 (ref7_at level 5 8).bind fun r12 =>
 some r12 else
 if s = s_pct then
 (ref7_at level 5 9).bind fun r13 =>
 some r13 else
 some 0
noncomputable abbrev ref7_kind_T : Tab S := ⟨[⟨167, [.val (.data (.int .i64)), .val (.data (.int .i64)), .val (.data (.int .i64))], [.val (.data (.int .i64))], fun x => ref7_at x.1 x.2.1 x.2.2⟩], [], false, false, none, []⟩
theorem ref7_kind_snd : Snd Tryz.prog S ⟨150, [.val (.data (.int .i64)), .val (.data .str)], [.val (.data (.int .i64))], fun x => ref7_kind x.1 x.2⟩ :=
 fn_ok0 progOk (T := (ref7_kind_T)) (all_cons ref7_at_snd (all_nil)) (all_nil) (all_nil) mixed Tryz.func150 rfl (by kernel_rfl) (ac_code [] Tryz.f150 rfl) (by kernel_rfl) (fun _ => by kernel_rfl) (by kernel_rfl) (by kernel_rfl) (Nat.le_of_ble_eq_true (by kernel_rfl)) (by kernel_rfl)
mutual
noncomputable def ref7_reader_binary_l0 (self_ref7_reader_binary : ref7_reader → Int → Option (api_Expr × ref7_reader)) : Nat → (List api_Token) → Int → Int → Int → Int → Int → Int → Int → (List UInt8) → (List api_Expr) → Int → Int → Int → (List UInt8) → (List api_Expr) → Int → Option (api_Expr × ref7_reader)
 | 0, _, _, _, _, _, _, _, _, _, _, _, _, _, _, _, _ => none
 | k + 1, r__l, r__v_at, r__v_open, r__bad_Code, r__bad_At, level, x4_Kind, x4_N, x4_Name, x4_Kids, x4_At, e_Kind, e_N, e_Name, e_Kids, e_At => if r__bad_Code = 0 then
  if r__v_at < (r__l.length : Int) then
  if 0 ≤ r__v_at then
  if r__v_at < (r__l.length : Int) then
  if ((r__l.getD r__v_at.toNat api_Token.z).Kind) = 3 then
  ref7_reader_binary_c0 self_ref7_reader_binary k r__l r__v_at r__v_open r__bad_Code r__bad_At level x4_Kind x4_N x4_Name x4_Kids x4_At e_Kind e_N e_Name e_Kids e_At else
  some (api_Expr.mk e_Kind e_N e_Name e_Kids e_At, ref7_reader.mk r__l r__v_at r__v_open (api_Fault.mk r__bad_Code r__bad_At)) else none else none else
  some (api_Expr.mk e_Kind e_N e_Name e_Kids e_At, ref7_reader.mk r__l r__v_at r__v_open (api_Fault.mk r__bad_Code r__bad_At)) else
  some (api_Expr.mk e_Kind e_N e_Name e_Kids e_At, ref7_reader.mk r__l r__v_at r__v_open (api_Fault.mk r__bad_Code r__bad_At))
noncomputable def ref7_reader_binary_c0 (self_ref7_reader_binary : ref7_reader → Int → Option (api_Expr × ref7_reader)) : Nat → (List api_Token) → Int → Int → Int → Int → Int → Int → Int → (List UInt8) → (List api_Expr) → Int → Int → Int → (List UInt8) → (List api_Expr) → Int → Option (api_Expr × ref7_reader)
 | 0, _, _, _, _, _, _, _, _, _, _, _, _, _, _, _, _ => none
 | k + 1, r__l, r__v_at, r__v_open, r__bad_Code, r__bad_At, level, x4_Kind, x4_N, x4_Name, x4_Kids, x4_At, e_Kind, e_N, e_Name, e_Kids, e_At => if 0 ≤ r__v_at then
  if r__v_at < (r__l.length : Int) then
  (ref7_kind level ((r__l.getD r__v_at.toNat api_Token.z).Text)).bind fun r3 =>
  if r3 = 0 then
  some (api_Expr.mk e_Kind e_N e_Name e_Kids e_At, ref7_reader.mk r__l r__v_at r__v_open (api_Fault.mk r__bad_Code r__bad_At)) else
  if 0 ≤ r__v_at then
  if r__v_at < (r__l.length : Int) then
  (self_ref7_reader_binary (ref7_reader.mk r__l (w64 (r__v_at + 1)) r__v_open (api_Fault.mk r__bad_Code r__bad_At)) (w64 (level + 1))).bind fun r4 =>
  if level = 3 then
  some (api_Expr.mk r3 0 [] [api_Expr.mk e_Kind e_N e_Name e_Kids e_At, api_Expr.mk r4.1.Kind r4.1.N r4.1.Name r4.1.Kids r4.1.At] ((r__l.getD r__v_at.toNat api_Token.z).At), r4.2) else
  ref7_reader_binary_l0 self_ref7_reader_binary k r4.2.l r4.2.v_at r4.2.v_open r4.2.bad.Code r4.2.bad.At level x4_Kind x4_N x4_Name x4_Kids x4_At r3 0 [] [api_Expr.mk e_Kind e_N e_Name e_Kids e_At, api_Expr.mk r4.1.Kind r4.1.N r4.1.Name r4.1.Kids r4.1.At] ((r__l.getD r__v_at.toNat api_Token.z).At) else none else none else none else none
end
noncomputable def ref7_reader_binary_b (self_ref7_reader_binary : ref7_reader → Int → Option (api_Expr × ref7_reader)) (k : Nat) (r_ : ref7_reader) (level : Int) : Option (api_Expr × ref7_reader) := if level = 6 then
 (ref7_reader_unary self_ref7_reader_binary r_).bind fun r1 =>
 some (api_Expr.mk r1.1.Kind r1.1.N r1.1.Name r1.1.Kids r1.1.At, r1.2) else
 (self_ref7_reader_binary r_ (w64 (level + 1))).bind fun r2 =>
 ref7_reader_binary_l0 self_ref7_reader_binary k r2.2.l r2.2.v_at r2.2.v_open r2.2.bad.Code r2.2.bad.At level 0 0 [] [] 0 r2.1.Kind r2.1.N r2.1.Name r2.1.Kids r2.1.At
noncomputable def ref7_reader_binary_f : Nat → ref7_reader → Int → Option (api_Expr × ref7_reader)
 | 0, _, _ => none
 | k + 1, x0, x1 => ref7_reader_binary_b (ref7_reader_binary_f k) k x0 x1
noncomputable def ref7_reader_binary  (r_ : ref7_reader) (level : Int) : Option (api_Expr × ref7_reader) := lim (fun k (x : ref7_reader × Int) => ref7_reader_binary_f k x.1 x.2) (r_, level)
noncomputable abbrev ref7_reader_binary_T (self_ref7_reader_binary : ref7_reader → Int → Option (api_Expr × ref7_reader)) : Tab S := ⟨[⟨149, [.obj [.data (.st 10)]], [.val (.data (.st 4))], fun x => ref7_reader_unary self_ref7_reader_binary x⟩, ⟨136, [.obj [.data (.st 10)], .val (.data (.int .i64))], [.val (.data (.st 4))], fun x => self_ref7_reader_binary x.1 x.2⟩, ⟨150, [.val (.data (.int .i64)), .val (.data .str)], [.val (.data (.int .i64))], fun x => ref7_kind x.1 x.2⟩], [], false, false, none, []⟩
noncomputable def ref7_reader_binary_L (self_ref7_reader_binary : ref7_reader → Int → Option (api_Expr × ref7_reader)) (k : Nat) : Nat → List (Lab S (api_Expr × ref7_reader))
 | 0 => [⟨[0, 1, 4, 5], [.obj [.data (.sl (.st 0)), .data (.int .i64), .data (.int .i64), .data (.int .i64), .data (.int .i64)], .val (.data (.int .i64)), .obj [.data (.int .i64), .data (.int .i64), .data .str, .marr (.st 4), .data (.int .i64)], .obj [.data (.int .i64), .data (.int .i64), .data .str, .data (.sl (.st 4)), .data (.int .i64)]], fun x => ref7_reader_binary_l0 self_ref7_reader_binary k x.1.1 x.1.2.1 x.1.2.2.1 x.1.2.2.2.1 x.1.2.2.2.2 x.2.1 x.2.2.1.1 x.2.2.1.2.1 x.2.2.1.2.2.1 x.2.2.1.2.2.2.1 x.2.2.1.2.2.2.2 x.2.2.2.1 x.2.2.2.2.1 x.2.2.2.2.2.1 x.2.2.2.2.2.2.1 x.2.2.2.2.2.2.2, false⟩]
 | 1 => [⟨[0, 1, 4, 5], [.obj [.data (.sl (.st 0)), .data (.int .i64), .data (.int .i64), .data (.int .i64), .data (.int .i64)], .val (.data (.int .i64)), .obj [.data (.int .i64), .data (.int .i64), .data .str, .marr (.st 4), .data (.int .i64)], .obj [.data (.int .i64), .data (.int .i64), .data .str, .data (.sl (.st 4)), .data (.int .i64)]], fun x => ref7_reader_binary_c0 self_ref7_reader_binary k x.1.1 x.1.2.1 x.1.2.2.1 x.1.2.2.2.1 x.1.2.2.2.2 x.2.1 x.2.2.1.1 x.2.2.1.2.1 x.2.2.1.2.2.1 x.2.2.1.2.2.2.1 x.2.2.1.2.2.2.2 x.2.2.2.1 x.2.2.2.2.1 x.2.2.2.2.2.1 x.2.2.2.2.2.2.1 x.2.2.2.2.2.2.2, false⟩]
 | _ + 2 => []
theorem ref7_reader_binary_eq (self_ref7_reader_binary : ref7_reader → Int → Option (api_Expr × ref7_reader)) (k : Nat) (r_ : ref7_reader) (level : Int) : ref7_reader_binary_b self_ref7_reader_binary k r_ level = exec S (ref7_reader_binary_T self_ref7_reader_binary) byt (labs S (ref7_reader_binary_T self_ref7_reader_binary) (ref7_reader_binary_L self_ref7_reader_binary k)) (ac [6] Tryz.f136) (frame0 S [.obj [.data (.st 10)], .val (.data (.int .i64))] (r_, level)) (retK S (ref7_reader_binary_T self_ref7_reader_binary) Tryz.f136 [.obj [.data (.st 10)], .val (.data (.int .i64))] [.val (.data (.st 4))]) := by kernel_rfl
theorem ref7_reader_binary_vc (self_ref7_reader_binary : ref7_reader → Int → Option (api_Expr × ref7_reader)) (k : Nat) : VC S (ref7_reader_binary_T self_ref7_reader_binary) byt (ref7_reader_binary_L self_ref7_reader_binary k) (ref7_reader_binary_L self_ref7_reader_binary (k + 1)) (ac [6] Tryz.f136) (retK S (ref7_reader_binary_T self_ref7_reader_binary) Tryz.f136 [.obj [.data (.st 10)], .val (.data (.int .i64))] [.val (.data (.st 4))]) = [∀ x : (List api_Token × Int × Int × Int × Int) × Int × (Int × Int × List UInt8 × List api_Expr × Int) × (Int × Int × List UInt8 × List api_Expr × Int), ref7_reader_binary_c0 self_ref7_reader_binary (k + 1) x.1.1 x.1.2.1 x.1.2.2.1 x.1.2.2.2.1 x.1.2.2.2.2 x.2.1 x.2.2.1.1 x.2.2.1.2.1 x.2.2.1.2.2.1 x.2.2.1.2.2.2.1 x.2.2.1.2.2.2.2 x.2.2.2.1 x.2.2.2.2.1 x.2.2.2.2.2.1 x.2.2.2.2.2.2.1 x.2.2.2.2.2.2.2 = ref7_reader_binary_c0 self_ref7_reader_binary (k + 1) x.1.1 x.1.2.1 x.1.2.2.1 x.1.2.2.2.1 x.1.2.2.2.2 x.2.1 x.2.2.1.1 x.2.2.1.2.1 x.2.2.1.2.2.1 x.2.2.1.2.2.2.1 x.2.2.1.2.2.2.2 x.2.2.2.1 x.2.2.2.2.1 x.2.2.2.2.2.1 x.2.2.2.2.2.2.1 x.2.2.2.2.2.2.2, ∀ x : (List api_Token × Int × Int × Int × Int) × Int × (Int × Int × List UInt8 × List api_Expr × Int) × (Int × Int × List UInt8 × List api_Expr × Int), ref7_reader_binary_l0 self_ref7_reader_binary (k + 1) x.1.1 x.1.2.1 x.1.2.2.1 x.1.2.2.2.1 x.1.2.2.2.2 x.2.1 x.2.2.1.1 x.2.2.1.2.1 x.2.2.1.2.2.1 x.2.2.1.2.2.2.1 x.2.2.1.2.2.2.2 x.2.2.2.1 x.2.2.2.2.1 x.2.2.2.2.2.1 x.2.2.2.2.2.2.1 x.2.2.2.2.2.2.2 = ref7_reader_binary_l0 self_ref7_reader_binary (k + 1) x.1.1 x.1.2.1 x.1.2.2.1 x.1.2.2.2.1 x.1.2.2.2.2 x.2.1 x.2.2.1.1 x.2.2.1.2.1 x.2.2.1.2.2.1 x.2.2.1.2.2.2.1 x.2.2.1.2.2.2.2 x.2.2.2.1 x.2.2.2.2.1 x.2.2.2.2.2.1 x.2.2.2.2.2.2.1 x.2.2.2.2.2.2.2] := by kernel_rfl
theorem ref7_reader_binary_sndk (self_ref7_reader_binary : ref7_reader → Int → Option (api_Expr × ref7_reader)) (hself : Snd Tryz.prog S ⟨136, [.obj [.data (.st 10)], .val (.data (.int .i64))], [.val (.data (.st 4))], fun x => self_ref7_reader_binary x.1 x.2⟩) (k : Nat) : Snd Tryz.prog S ⟨136, [.obj [.data (.st 10)], .val (.data (.int .i64))], [.val (.data (.st 4))], fun x => ref7_reader_binary_b self_ref7_reader_binary k x.1 x.2⟩ :=
 fn_ok progOk (T := (ref7_reader_binary_T self_ref7_reader_binary)) (all_cons (ref7_reader_unary_snd self_ref7_reader_binary hself) (all_cons hself (all_cons ref7_kind_snd (all_nil)))) (all_nil) (all_nil) mixed Tryz.func136 rfl (by kernel_rfl) (ac_code [6] Tryz.f136 rfl) (L := ref7_reader_binary_L self_ref7_reader_binary)
  (fun n l h x => by match n, h with
   | 0, h =>
    rcases List.mem_cons.1 h with rfl | h
    · rfl
    cases h
   | 1, h =>
    rcases List.mem_cons.1 h with rfl | h
    · rfl
    cases h
   | _ + 2, h => cases h) (fun k n l h => by match n, h with
   | 0, h =>
    rcases List.mem_cons.1 h with rfl | h
    · rfl
    cases h
   | 1, h =>
    rcases List.mem_cons.1 h with rfl | h
    · rfl
    cases h
   | _ + 2, h => cases h)
  (fun k => All.mem (ref7_reader_binary_vc self_ref7_reader_binary k) ⟨fun _ => rfl, ⟨fun _ => rfl, trivial⟩⟩) (fun x r h => ⟨k, (ref7_reader_binary_eq self_ref7_reader_binary k x.1 x.2).symm.trans h⟩) (by kernel_rfl) (by kernel_rfl) (Nat.le_of_ble_eq_true (by kernel_rfl)) (by kernel_rfl)
theorem ref7_reader_binary_sndf : ∀ k, Snd Tryz.prog S ⟨136, [.obj [.data (.st 10)], .val (.data (.int .i64))], [.val (.data (.st 4))], fun x => ref7_reader_binary_f k x.1 x.2⟩
 | 0 => Snd.none ⟨_, Tryz.func136, by kernel_rfl, by kernel_rfl⟩ fun _ => rfl
 | k + 1 => ref7_reader_binary_sndk (ref7_reader_binary_f k) (ref7_reader_binary_sndf k) k
theorem ref7_reader_binary_snd : Snd Tryz.prog S ⟨136, [.obj [.data (.st 10)], .val (.data (.int .i64))], [.val (.data (.st 4))], fun x => ref7_reader_binary x.1 x.2⟩ := Snd.lim (ref7_reader_binary_sndf)
noncomputable def ref7_Parse  (l : List api_Token) (v_at : Int) : Option (api_Expr × Int × api_Fault) := (ref7_reader_binary (ref7_reader.mk l v_at 0 (api_Fault.mk 0 0)) 1).bind fun r1 =>
 if r1.2.bad.Code ≠ 0 then
 some (api_Expr.mk 0 0 [] [] 0, 0, r1.2.bad) else
 some (api_Expr.mk r1.1.Kind r1.1.N r1.1.Name r1.1.Kids r1.1.At, r1.2.v_at, api_Fault.mk 0 0)
noncomputable abbrev ref7_Parse_T : Tab S := ⟨[⟨136, [.obj [.data (.st 10)], .val (.data (.int .i64))], [.val (.data (.st 4))], fun x => ref7_reader_binary x.1 x.2⟩], [], false, false, none, []⟩
theorem ref7_Parse_snd : Snd Tryz.prog S ⟨116, [.val (.data (.sl (.st 0))), .val (.data (.int .i64))], [.val (.data (.st 4)), .val (.data (.int .i64)), .val (.data (.st 1))], fun x => ref7_Parse x.1 x.2⟩ :=
 fn_ok0 progOk (T := (ref7_Parse_T)) (all_cons ref7_reader_binary_snd (all_nil)) (all_nil) (all_nil) mixed Tryz.func116 rfl (by kernel_rfl) (ac_code [] Tryz.f116 rfl) (by kernel_rfl) (fun _ => by kernel_rfl) (by kernel_rfl) (by kernel_rfl) (Nat.le_of_ble_eq_true (by kernel_rfl)) (by kernel_rfl)
noncomputable def ref8_bracket  (l : List api_Token) (v_at : Int) : Option (List api_Expr × Int × api_Fault) := (ref6_Want l v_at s_lp).bind fun r1 =>
 if r1.2.Code ≠ 0 then
 some ([], 0, r1.2) else
 (ref7_Parse l r1.1).bind fun r2 =>
 if r2.2.2.Code ≠ 0 then
 some ([], 0, r2.2.2) else
 (ref6_Want l r2.2.1 s_rp).bind fun r3 =>
 some ([api_Expr.mk r2.1.Kind r2.1.N r2.1.Name r2.1.Kids r2.1.At], r3.1, r3.2)
noncomputable abbrev ref8_bracket_T : Tab S := ⟨[⟨94, [.val (.data (.sl (.st 0))), .val (.data (.int .i64)), .val (.data .str)], [.val (.data (.int .i64)), .val (.data (.st 1))], fun x => ref6_Want x.1 x.2.1 x.2.2⟩, ⟨116, [.val (.data (.sl (.st 0))), .val (.data (.int .i64))], [.val (.data (.st 4)), .val (.data (.int .i64)), .val (.data (.st 1))], fun x => ref7_Parse x.1 x.2⟩], [], false, false, none, []⟩
theorem ref8_bracket_snd : Snd Tryz.prog S ⟨90, [.val (.data (.sl (.st 0))), .val (.data (.int .i64))], [.val (.data (.sl (.st 4))), .val (.data (.int .i64)), .val (.data (.st 1))], fun x => ref8_bracket x.1 x.2⟩ :=
 fn_ok0 progOk (T := (ref8_bracket_T)) (all_cons ref6_Want_snd (all_cons ref7_Parse_snd (all_nil))) (all_nil) (all_nil) mixed Tryz.func90 rfl (by kernel_rfl) (ac_code [] Tryz.f90 rfl) (by kernel_rfl) (fun _ => by kernel_rfl) (by kernel_rfl) (by kernel_rfl) (Nat.le_of_ble_eq_true (by kernel_rfl)) (by kernel_rfl)
noncomputable def ref8_name  (l : List api_Token) (v_at : Int) : Option (List UInt8 × Int × api_Fault) := (ref6_Named l v_at).bind fun r1 =>
 bif !r1 then
 (ref6_Bad l v_at).bind fun r2 =>
 some ([], 0, r2) else
 if 0 ≤ v_at then
 if v_at < (l.length : Int) then
 some ((l.getD v_at.toNat api_Token.z).Text, w64 (v_at + 1), api_Fault.mk 0 0) else none else none
noncomputable abbrev ref8_name_T : Tab S := ⟨[⟨117, [.val (.data (.sl (.st 0))), .val (.data (.int .i64))], [.val (.data .bool)], fun x => ref6_Named x.1 x.2⟩, ⟨60, [.val (.data (.sl (.st 0))), .val (.data (.int .i64))], [.val (.data (.st 1))], fun x => ref6_Bad x.1 x.2⟩], [], false, false, none, []⟩
theorem ref8_name_snd : Snd Tryz.prog S ⟨91, [.val (.data (.sl (.st 0))), .val (.data (.int .i64))], [.val (.data .str), .val (.data (.int .i64)), .val (.data (.st 1))], fun x => ref8_name x.1 x.2⟩ :=
 fn_ok0 progOk (T := (ref8_name_T)) (all_cons ref6_Named_snd (all_cons ref6_Bad_snd (all_nil))) (all_nil) (all_nil) mixed Tryz.func91 rfl (by kernel_rfl) (ac_code [] Tryz.f91 rfl) (by kernel_rfl) (fun _ => by kernel_rfl) (by kernel_rfl) (by kernel_rfl) (Nat.le_of_ble_eq_true (by kernel_rfl)) (by kernel_rfl)
noncomputable def ref8_maybe  (l : List api_Token) (v_at : Int) : Option (List api_Expr × Int × api_Fault) := (ref6_Is l v_at s_lp).bind fun r1 =>
 bif !r1 then
 some ([], v_at, api_Fault.mk 0 0) else
 (ref8_bracket l v_at).bind fun r2 =>
 some (r2.1, r2.2.1, r2.2.2)
noncomputable abbrev ref8_maybe_T : Tab S := ⟨[⟨59, [.val (.data (.sl (.st 0))), .val (.data (.int .i64)), .val (.data .str)], [.val (.data .bool)], fun x => ref6_Is x.1 x.2.1 x.2.2⟩, ⟨90, [.val (.data (.sl (.st 0))), .val (.data (.int .i64))], [.val (.data (.sl (.st 4))), .val (.data (.int .i64)), .val (.data (.st 1))], fun x => ref8_bracket x.1 x.2⟩], [], false, false, none, []⟩
theorem ref8_maybe_snd : Snd Tryz.prog S ⟨92, [.val (.data (.sl (.st 0))), .val (.data (.int .i64))], [.val (.data (.sl (.st 4))), .val (.data (.int .i64)), .val (.data (.st 1))], fun x => ref8_maybe x.1 x.2⟩ :=
 fn_ok0 progOk (T := (ref8_maybe_T)) (all_cons ref6_Is_snd (all_cons ref8_bracket_snd (all_nil))) (all_nil) (all_nil) mixed Tryz.func92 rfl (by kernel_rfl) (ac_code [] Tryz.f92 rfl) (by kernel_rfl) (fun _ => by kernel_rfl) (by kernel_rfl) (by kernel_rfl) (Nat.le_of_ble_eq_true (by kernel_rfl)) (by kernel_rfl)
noncomputable def ref8_set  (l : List api_Token) (v_at : Int) : Option (api_Act × Int × api_Fault) := if 0 ≤ v_at then
 if v_at < (l.length : Int) then
 (ref8_name l v_at).bind fun r1 =>
 if r1.2.2.Code ≠ 0 then
 some (api_Act.mk 1 [] [] [] 0 [] [] ((l.getD v_at.toNat api_Token.z).At), 0, r1.2.2) else
 (ref6_Want l r1.2.1 s_eq).bind fun r2 =>
 if r2.2.Code ≠ 0 then
 some (api_Act.mk 1 r1.1 [] [] 0 [] [] ((l.getD v_at.toNat api_Token.z).At), 0, r2.2) else
 (ref7_Parse l r2.1).bind fun r3 =>
 some (api_Act.mk 1 r1.1 [] [api_Expr.mk r3.1.Kind r3.1.N r3.1.Name r3.1.Kids r3.1.At] 0 [] [] ((l.getD v_at.toNat api_Token.z).At), r3.2.1, r3.2.2) else none else none
noncomputable abbrev ref8_set_T : Tab S := ⟨[⟨91, [.val (.data (.sl (.st 0))), .val (.data (.int .i64))], [.val (.data .str), .val (.data (.int .i64)), .val (.data (.st 1))], fun x => ref8_name x.1 x.2⟩, ⟨94, [.val (.data (.sl (.st 0))), .val (.data (.int .i64)), .val (.data .str)], [.val (.data (.int .i64)), .val (.data (.st 1))], fun x => ref6_Want x.1 x.2.1 x.2.2⟩, ⟨116, [.val (.data (.sl (.st 0))), .val (.data (.int .i64))], [.val (.data (.st 4)), .val (.data (.int .i64)), .val (.data (.st 1))], fun x => ref7_Parse x.1 x.2⟩], [], false, false, none, []⟩
theorem ref8_set_snd : Snd Tryz.prog S ⟨93, [.val (.data (.sl (.st 0))), .val (.data (.int .i64))], [.val (.data (.st 3)), .val (.data (.int .i64)), .val (.data (.st 1))], fun x => ref8_set x.1 x.2⟩ :=
 fn_ok0 progOk (T := (ref8_set_T)) (all_cons ref8_name_snd (all_cons ref6_Want_snd (all_cons ref7_Parse_snd (all_nil)))) (all_nil) (all_nil) mixed Tryz.func93 rfl (by kernel_rfl) (ac_code [] Tryz.f93 rfl) (by kernel_rfl) (fun _ => by kernel_rfl) (by kernel_rfl) (by kernel_rfl) (Nat.le_of_ble_eq_true (by kernel_rfl)) (by kernel_rfl)
noncomputable def ref8_simple_c0 : Nat → (List api_Token) → Int → Int → (List UInt8) → (List UInt8) → (List api_Expr) → Int → (List api_Act) → (List api_Act) → Int → Int → Int → Int → (List UInt8) → (List UInt8) → (List api_Expr) → Int → (List api_Act) → (List api_Act) → Int → Int → Int → Option (api_Act × Int × api_Fault)
 | 0, _, _, _, _, _, _, _, _, _, _, _, _, _, _, _, _, _, _, _, _, _, _ => none
 | k + 1, l, v_at, x4_Kind, x4_Name, x4_Event, x4_X, x4_N, x4_Then, x4_Else, x4_At, x6_Code, x6_At, a_Kind, a_Name, a_Event, a_X, a_N, a_Then, a_Else, a_At, bad_Code, bad_At => if bad_Code ≠ 0 then
  some (api_Act.mk 0 [] [] [] 0 [] [] 0, 0, api_Fault.mk bad_Code bad_At) else
  (ref6_Want l v_at s_semi).bind fun r15 =>
  some (api_Act.mk a_Kind a_Name a_Event a_X a_N a_Then a_Else a_At, r15.1, r15.2)
noncomputable def ref8_simple_f (k : Nat) (l : List api_Token) (v_at : Int) : Option (api_Act × Int × api_Fault) := if 0 ≤ v_at then
 if v_at < (l.length : Int) then
 (ref6_Is l v_at s_raise).bind fun r1 =>
 bif r1 then
 (ref8_name l (w64 (v_at + 1))).bind fun r2 =>
 if r2.2.2.Code = 0 then
 (ref8_maybe l r2.2.1).bind fun r3 =>
 ref8_simple_c0 k l r3.2.1 0 [] [] [] 0 [] [] 0 0 0 2 [] r2.1 r3.1 0 [] [] ((l.getD v_at.toNat api_Token.z).At) r3.2.2.Code r3.2.2.At else
 ref8_simple_c0 k l r2.2.1 0 [] [] [] 0 [] [] 0 0 0 2 [] r2.1 [] 0 [] [] ((l.getD v_at.toNat api_Token.z).At) r2.2.2.Code r2.2.2.At else
 (ref6_Is l v_at s_send).bind fun r4 =>
 bif r4 then
 (ref8_name l (w64 (v_at + 1))).bind fun r5 =>
 if r5.2.2.Code = 0 then
 (ref8_name l r5.2.1).bind fun r6 =>
 if r6.2.2.Code = 0 then
 (ref8_maybe l r6.2.1).bind fun r7 =>
 ref8_simple_c0 k l r7.2.1 0 [] [] [] 0 [] [] 0 0 0 3 r5.1 r6.1 r7.1 0 [] [] ((l.getD v_at.toNat api_Token.z).At) r7.2.2.Code r7.2.2.At else
 ref8_simple_c0 k l r6.2.1 0 [] [] [] 0 [] [] 0 0 0 3 r5.1 r6.1 [] 0 [] [] ((l.getD v_at.toNat api_Token.z).At) r6.2.2.Code r6.2.2.At else
 if r5.2.2.Code = 0 then
 (ref8_maybe l r5.2.1).bind fun r8 =>
 ref8_simple_c0 k l r8.2.1 0 [] [] [] 0 [] [] 0 0 0 3 r5.1 [] r8.1 0 [] [] ((l.getD v_at.toNat api_Token.z).At) r8.2.2.Code r8.2.2.At else
 ref8_simple_c0 k l r5.2.1 0 [] [] [] 0 [] [] 0 0 0 3 r5.1 [] [] 0 [] [] ((l.getD v_at.toNat api_Token.z).At) r5.2.2.Code r5.2.2.At else
 (ref6_Is l v_at s_arm).bind fun r9 =>
 bif r9 then
 (ref8_name l (w64 (v_at + 1))).bind fun r10 =>
 if r10.2.2.Code = 0 then
 (ref8_bracket l r10.2.1).bind fun r11 =>
 ref8_simple_c0 k l r11.2.1 0 [] [] [] 0 [] [] 0 0 0 4 r10.1 [] r11.1 0 [] [] ((l.getD v_at.toNat api_Token.z).At) r11.2.2.Code r11.2.2.At else
 ref8_simple_c0 k l r10.2.1 0 [] [] [] 0 [] [] 0 0 0 4 r10.1 [] [] 0 [] [] ((l.getD v_at.toNat api_Token.z).At) r10.2.2.Code r10.2.2.At else
 (ref6_Is l v_at s_cancel).bind fun r12 =>
 bif r12 then
 (ref8_name l (w64 (v_at + 1))).bind fun r13 =>
 ref8_simple_c0 k l r13.2.1 0 [] [] [] 0 [] [] 0 0 0 5 r13.1 [] [] 0 [] [] ((l.getD v_at.toNat api_Token.z).At) r13.2.2.Code r13.2.2.At else
 (ref8_set l v_at).bind fun r14 =>
 ref8_simple_c0 k l r14.2.1 0 [] [] [] 0 [] [] 0 0 0 r14.1.Kind r14.1.Name r14.1.Event r14.1.X r14.1.N r14.1.Then r14.1.Else r14.1.At r14.2.2.Code r14.2.2.At else none else none
noncomputable def ref8_simple  (l : List api_Token) (v_at : Int) : Option (api_Act × Int × api_Fault) := lim (fun k (x : List api_Token × Int) => ref8_simple_f k x.1 x.2) (l, v_at)
noncomputable abbrev ref8_simple_T : Tab S := ⟨[⟨59, [.val (.data (.sl (.st 0))), .val (.data (.int .i64)), .val (.data .str)], [.val (.data .bool)], fun x => ref6_Is x.1 x.2.1 x.2.2⟩, ⟨91, [.val (.data (.sl (.st 0))), .val (.data (.int .i64))], [.val (.data .str), .val (.data (.int .i64)), .val (.data (.st 1))], fun x => ref8_name x.1 x.2⟩, ⟨92, [.val (.data (.sl (.st 0))), .val (.data (.int .i64))], [.val (.data (.sl (.st 4))), .val (.data (.int .i64)), .val (.data (.st 1))], fun x => ref8_maybe x.1 x.2⟩, ⟨90, [.val (.data (.sl (.st 0))), .val (.data (.int .i64))], [.val (.data (.sl (.st 4))), .val (.data (.int .i64)), .val (.data (.st 1))], fun x => ref8_bracket x.1 x.2⟩, ⟨93, [.val (.data (.sl (.st 0))), .val (.data (.int .i64))], [.val (.data (.st 3)), .val (.data (.int .i64)), .val (.data (.st 1))], fun x => ref8_set x.1 x.2⟩, ⟨94, [.val (.data (.sl (.st 0))), .val (.data (.int .i64)), .val (.data .str)], [.val (.data (.int .i64)), .val (.data (.st 1))], fun x => ref6_Want x.1 x.2.1 x.2.2⟩], [], false, false, none, []⟩
noncomputable def ref8_simple_L (k : Nat) : Nat → List (Lab S (api_Act × Int × api_Fault))
 | 0 => []
 | 1 => [⟨[0, 1, 4, 6, 7, 8], [.val (.data (.sl (.st 0))), .val (.data (.int .i64)), .obj [.data (.int .i64), .data .str, .data .str, .marr (.st 4), .data (.int .i64), .marr (.st 3), .marr (.st 3), .data (.int .i64)], .obj [.data (.int .i64), .data (.int .i64)], .obj [.data (.int .i64), .data .str, .data .str, .data (.sl (.st 4)), .data (.int .i64), .data (.sl (.st 3)), .data (.sl (.st 3)), .data (.int .i64)], .obj [.data (.int .i64), .data (.int .i64)]], fun x => ref8_simple_c0 k x.1 x.2.1 x.2.2.1.1 x.2.2.1.2.1 x.2.2.1.2.2.1 x.2.2.1.2.2.2.1 x.2.2.1.2.2.2.2.1 x.2.2.1.2.2.2.2.2.1 x.2.2.1.2.2.2.2.2.2.1 x.2.2.1.2.2.2.2.2.2.2 x.2.2.2.1.1 x.2.2.2.1.2 x.2.2.2.2.1.1 x.2.2.2.2.1.2.1 x.2.2.2.2.1.2.2.1 x.2.2.2.2.1.2.2.2.1 x.2.2.2.2.1.2.2.2.2.1 x.2.2.2.2.1.2.2.2.2.2.1 x.2.2.2.2.1.2.2.2.2.2.2.1 x.2.2.2.2.1.2.2.2.2.2.2.2 x.2.2.2.2.2.1 x.2.2.2.2.2.2, false⟩]
 | _ + 2 => []
theorem ref8_simple_eq (k : Nat) (l : List api_Token) (v_at : Int) : ref8_simple_f k l v_at = exec S (ref8_simple_T) byt (labs S (ref8_simple_T) (ref8_simple_L k)) (ac [3] Tryz.f63) (frame0 S [.val (.data (.sl (.st 0))), .val (.data (.int .i64))] (l, v_at)) (retK S (ref8_simple_T) Tryz.f63 [.val (.data (.sl (.st 0))), .val (.data (.int .i64))] [.val (.data (.st 3)), .val (.data (.int .i64)), .val (.data (.st 1))]) := by kernel_rfl
theorem ref8_simple_vc (k : Nat) : VC S (ref8_simple_T) byt (ref8_simple_L k) (ref8_simple_L (k + 1)) (ac [3] Tryz.f63) (retK S (ref8_simple_T) Tryz.f63 [.val (.data (.sl (.st 0))), .val (.data (.int .i64))] [.val (.data (.st 3)), .val (.data (.int .i64)), .val (.data (.st 1))]) = [∀ x : List api_Token × Int × (Int × List UInt8 × List UInt8 × List api_Expr × Int × List api_Act × List api_Act × Int) × (Int × Int) × (Int × List UInt8 × List UInt8 × List api_Expr × Int × List api_Act × List api_Act × Int) × (Int × Int), ref8_simple_c0 (k + 1) x.1 x.2.1 x.2.2.1.1 x.2.2.1.2.1 x.2.2.1.2.2.1 x.2.2.1.2.2.2.1 x.2.2.1.2.2.2.2.1 x.2.2.1.2.2.2.2.2.1 x.2.2.1.2.2.2.2.2.2.1 x.2.2.1.2.2.2.2.2.2.2 x.2.2.2.1.1 x.2.2.2.1.2 x.2.2.2.2.1.1 x.2.2.2.2.1.2.1 x.2.2.2.2.1.2.2.1 x.2.2.2.2.1.2.2.2.1 x.2.2.2.2.1.2.2.2.2.1 x.2.2.2.2.1.2.2.2.2.2.1 x.2.2.2.2.1.2.2.2.2.2.2.1 x.2.2.2.2.1.2.2.2.2.2.2.2 x.2.2.2.2.2.1 x.2.2.2.2.2.2 = ref8_simple_c0 (k + 1) x.1 x.2.1 x.2.2.1.1 x.2.2.1.2.1 x.2.2.1.2.2.1 x.2.2.1.2.2.2.1 x.2.2.1.2.2.2.2.1 x.2.2.1.2.2.2.2.2.1 x.2.2.1.2.2.2.2.2.2.1 x.2.2.1.2.2.2.2.2.2.2 x.2.2.2.1.1 x.2.2.2.1.2 x.2.2.2.2.1.1 x.2.2.2.2.1.2.1 x.2.2.2.2.1.2.2.1 x.2.2.2.2.1.2.2.2.1 x.2.2.2.2.1.2.2.2.2.1 x.2.2.2.2.1.2.2.2.2.2.1 x.2.2.2.2.1.2.2.2.2.2.2.1 x.2.2.2.2.1.2.2.2.2.2.2.2 x.2.2.2.2.2.1 x.2.2.2.2.2.2] := by kernel_rfl
theorem ref8_simple_sndk (k : Nat) : Snd Tryz.prog S ⟨63, [.val (.data (.sl (.st 0))), .val (.data (.int .i64))], [.val (.data (.st 3)), .val (.data (.int .i64)), .val (.data (.st 1))], fun x => ref8_simple_f k x.1 x.2⟩ :=
 fn_ok progOk (T := (ref8_simple_T)) (all_cons ref6_Is_snd (all_cons ref8_name_snd (all_cons ref8_maybe_snd (all_cons ref8_bracket_snd (all_cons ref8_set_snd (all_cons ref6_Want_snd (all_nil))))))) (all_nil) (all_nil) mixed Tryz.func63 rfl (by kernel_rfl) (ac_code [3] Tryz.f63 rfl) (L := ref8_simple_L)
  (fun n l h x => by match n, h with
   | 0, h => cases h
   | 1, h =>
    rcases List.mem_cons.1 h with rfl | h
    · rfl
    cases h
   | _ + 2, h => cases h) (fun k n l h => by match n, h with
   | 0, h => cases h
   | 1, h =>
    rcases List.mem_cons.1 h with rfl | h
    · rfl
    cases h
   | _ + 2, h => cases h)
  (fun k => All.mem (ref8_simple_vc k) ⟨fun _ => rfl, trivial⟩) (fun x r h => ⟨k, (ref8_simple_eq k x.1 x.2).symm.trans h⟩) (by kernel_rfl) (by kernel_rfl) (Nat.le_of_ble_eq_true (by kernel_rfl)) (by kernel_rfl)
theorem ref8_simple_snd : Snd Tryz.prog S ⟨63, [.val (.data (.sl (.st 0))), .val (.data (.int .i64))], [.val (.data (.st 3)), .val (.data (.int .i64)), .val (.data (.st 1))], fun x => ref8_simple x.1 x.2⟩ := Snd.lim (ref8_simple_sndk)
noncomputable def ref8_choice_1 (self_ref8_block : (List api_Token) → Int → Int → Option (List api_Act × Int × api_Fault))  (l : List api_Token) (v_at : Int) (deep : Int) : Option (api_Act × Int × api_Fault) := if 0 ≤ v_at then
 if v_at < (l.length : Int) then
 (ref8_bracket l (w64 (v_at + 1))).bind fun r1 =>
 if r1.2.2.Code ≠ 0 then
 some (api_Act.mk 6 [] [] [] 0 [] [] ((l.getD v_at.toNat api_Token.z).At), 0, r1.2.2) else
 (self_ref8_block l r1.2.1 deep).bind fun r2 =>
 if r2.2.2.Code = 0 then
 (ref6_Is l r2.2.1 s_else).bind fun r3 =>
 bif r3 then
 (self_ref8_block l (w64 (r2.2.1 + 1)) deep).bind fun r4 =>
 some (api_Act.mk 6 [] [] r1.1 0 r2.1 r4.1 ((l.getD v_at.toNat api_Token.z).At), r4.2.1, r4.2.2) else
 some (api_Act.mk 6 [] [] r1.1 0 r2.1 [] ((l.getD v_at.toNat api_Token.z).At), r2.2.1, r2.2.2) else
 some (api_Act.mk 6 [] [] r1.1 0 r2.1 [] ((l.getD v_at.toNat api_Token.z).At), r2.2.1, r2.2.2) else none else none
noncomputable abbrev ref8_choice_1_T (self_ref8_block : (List api_Token) → Int → Int → Option (List api_Act × Int × api_Fault)) : Tab S := ⟨[⟨90, [.val (.data (.sl (.st 0))), .val (.data (.int .i64))], [.val (.data (.sl (.st 4))), .val (.data (.int .i64)), .val (.data (.st 1))], fun x => ref8_bracket x.1 x.2⟩, ⟨29, [.val (.data (.sl (.st 0))), .val (.data (.int .i64)), .val (.data (.int .i64))], [.val (.town (.st 3)), .val (.data (.int .i64)), .val (.data (.st 1))], fun x => self_ref8_block x.1 x.2.1 x.2.2⟩, ⟨59, [.val (.data (.sl (.st 0))), .val (.data (.int .i64)), .val (.data .str)], [.val (.data .bool)], fun x => ref6_Is x.1 x.2.1 x.2.2⟩], [], false, false, none, []⟩
theorem ref8_choice_1_snd (self_ref8_block : (List api_Token) → Int → Int → Option (List api_Act × Int × api_Fault)) (hself_ref8_block : Snd Tryz.prog S ⟨29, [.val (.data (.sl (.st 0))), .val (.data (.int .i64)), .val (.data (.int .i64))], [.val (.town (.st 3)), .val (.data (.int .i64)), .val (.data (.st 1))], fun x => self_ref8_block x.1 x.2.1 x.2.2⟩) : Snd Tryz.prog S ⟨61, [.val (.data (.sl (.st 0))), .val (.data (.int .i64)), .val (.data (.int .i64))], [.val (.data (.st 3)), .val (.data (.int .i64)), .val (.data (.st 1))], fun x => ref8_choice_1 self_ref8_block x.1 x.2.1 x.2.2⟩ :=
 fn_ok0 progOk (T := (ref8_choice_1_T self_ref8_block)) (all_cons ref8_bracket_snd (all_cons hself_ref8_block (all_cons ref6_Is_snd (all_nil)))) (all_nil) (all_nil) mixed Tryz.func61 rfl (by kernel_rfl) (ac_code [] Tryz.f61 rfl) (by kernel_rfl) (fun _ => by kernel_rfl) (by kernel_rfl) (by kernel_rfl) (Nat.le_of_ble_eq_true (by kernel_rfl)) (by kernel_rfl)
noncomputable def ref8_round_1 (self_ref8_block : (List api_Token) → Int → Int → Option (List api_Act × Int × api_Fault))  (l : List api_Token) (v_at : Int) (deep : Int) : Option (api_Act × Int × api_Fault) := if 0 ≤ v_at then
 if v_at < (l.length : Int) then
 if 0 ≤ (w64 (v_at + 1)) then
 if (w64 (v_at + 1)) < (l.length : Int) then
 if ((l.getD (w64 (v_at + 1)).toNat api_Token.z).Kind) ≠ 2 then
 (ref6_Bad l (w64 (v_at + 1))).bind fun r1 =>
 some (api_Act.mk 7 [] [] [] 0 [] [] ((l.getD v_at.toNat api_Token.z).At), 0, r1) else
 if 0 ≤ (w64 (v_at + 1)) then
 if (w64 (v_at + 1)) < (l.length : Int) then
 (self_ref8_block l (w64 ((w64 (v_at + 1)) + 1)) deep).bind fun r2 =>
 some (api_Act.mk 7 [] [] [] ((l.getD (w64 (v_at + 1)).toNat api_Token.z).N) r2.1 [] ((l.getD v_at.toNat api_Token.z).At), r2.2.1, r2.2.2) else none else none else none else none else none else none
noncomputable abbrev ref8_round_1_T (self_ref8_block : (List api_Token) → Int → Int → Option (List api_Act × Int × api_Fault)) : Tab S := ⟨[⟨60, [.val (.data (.sl (.st 0))), .val (.data (.int .i64))], [.val (.data (.st 1))], fun x => ref6_Bad x.1 x.2⟩, ⟨29, [.val (.data (.sl (.st 0))), .val (.data (.int .i64)), .val (.data (.int .i64))], [.val (.town (.st 3)), .val (.data (.int .i64)), .val (.data (.st 1))], fun x => self_ref8_block x.1 x.2.1 x.2.2⟩], [], false, false, none, []⟩
theorem ref8_round_1_snd (self_ref8_block : (List api_Token) → Int → Int → Option (List api_Act × Int × api_Fault)) (hself_ref8_block : Snd Tryz.prog S ⟨29, [.val (.data (.sl (.st 0))), .val (.data (.int .i64)), .val (.data (.int .i64))], [.val (.town (.st 3)), .val (.data (.int .i64)), .val (.data (.st 1))], fun x => self_ref8_block x.1 x.2.1 x.2.2⟩) : Snd Tryz.prog S ⟨62, [.val (.data (.sl (.st 0))), .val (.data (.int .i64)), .val (.data (.int .i64))], [.val (.data (.st 3)), .val (.data (.int .i64)), .val (.data (.st 1))], fun x => ref8_round_1 self_ref8_block x.1 x.2.1 x.2.2⟩ :=
 fn_ok0 progOk (T := (ref8_round_1_T self_ref8_block)) (all_cons ref6_Bad_snd (all_cons hself_ref8_block (all_nil))) (all_nil) (all_nil) mixed Tryz.func62 rfl (by kernel_rfl) (ac_code [] Tryz.f62 rfl) (by kernel_rfl) (fun _ => by kernel_rfl) (by kernel_rfl) (by kernel_rfl) (Nat.le_of_ble_eq_true (by kernel_rfl)) (by kernel_rfl)
noncomputable def ref8_block_l0 (self_ref8_block : (List api_Token) → Int → Int → Option (List api_Act × Int × api_Fault)) : Nat → (List api_Token) → Int → Int → Int → Int → (List api_Act) → Option (List api_Act × Int × api_Fault)
 | 0, _, _, _, _, _, _ => none
 | k + 1, l, v_at, deep, x8_Code, x8_At, out => (ref6_Is l v_at s_rb).bind fun r3 =>
  bif !r3 then
  (ref6_Is l v_at s_if).bind fun r4 =>
  bif r4 then
  (ref8_choice_1 self_ref8_block l v_at (w64 (deep + 1))).bind fun r5 =>
  if r5.2.2.Code ≠ 0 then
  some ([], 0, r5.2.2) else
  if (out.length + [api_Act.mk r5.1.Kind r5.1.Name r5.1.Event r5.1.X r5.1.N r5.1.Then r5.1.Else r5.1.At].length) * 128 ≤ 140737488355328 then
  ref8_block_l0 self_ref8_block k l r5.2.1 deep x8_Code x8_At (out ++ [api_Act.mk r5.1.Kind r5.1.Name r5.1.Event r5.1.X r5.1.N r5.1.Then r5.1.Else r5.1.At]) else none else
  (ref6_Is l v_at s_loop).bind fun r6 =>
  bif r6 then
  (ref8_round_1 self_ref8_block l v_at (w64 (deep + 1))).bind fun r7 =>
  if r7.2.2.Code ≠ 0 then
  some ([], 0, r7.2.2) else
  if (out.length + [api_Act.mk r7.1.Kind r7.1.Name r7.1.Event r7.1.X r7.1.N r7.1.Then r7.1.Else r7.1.At].length) * 128 ≤ 140737488355328 then
  ref8_block_l0 self_ref8_block k l r7.2.1 deep x8_Code x8_At (out ++ [api_Act.mk r7.1.Kind r7.1.Name r7.1.Event r7.1.X r7.1.N r7.1.Then r7.1.Else r7.1.At]) else none else
  (ref8_simple l v_at).bind fun r8 =>
  if r8.2.2.Code ≠ 0 then
  some ([], 0, r8.2.2) else
  if (out.length + [api_Act.mk r8.1.Kind r8.1.Name r8.1.Event r8.1.X r8.1.N r8.1.Then r8.1.Else r8.1.At].length) * 128 ≤ 140737488355328 then
  ref8_block_l0 self_ref8_block k l r8.2.1 deep x8_Code x8_At (out ++ [api_Act.mk r8.1.Kind r8.1.Name r8.1.Event r8.1.X r8.1.N r8.1.Then r8.1.Else r8.1.At]) else none else
  some (out, w64 (v_at + 1), api_Fault.mk 0 0)
noncomputable def ref8_block_b (self_ref8_block : (List api_Token) → Int → Int → Option (List api_Act × Int × api_Fault)) (k : Nat) (l : List api_Token) (v_at : Int) (deep : Int) : Option (List api_Act × Int × api_Fault) := (ref6_Is l v_at s_lb).bind fun r1 =>
 bif !r1 then
 (ref6_Bad l v_at).bind fun r2 =>
 some ([], 0, r2) else
 if deep = 4 then
 if 0 ≤ v_at then
 if v_at < (l.length : Int) then
 some ([], 0, api_Fault.mk 14 ((l.getD v_at.toNat api_Token.z).At)) else none else none else
 ref8_block_l0 self_ref8_block k l (w64 (v_at + 1)) deep 0 0 []
noncomputable def ref8_block_f : Nat → (List api_Token) → Int → Int → Option (List api_Act × Int × api_Fault)
 | 0, _, _, _ => none
 | k + 1, x0, x1, x2 => ref8_block_b (ref8_block_f k) k x0 x1 x2
noncomputable def ref8_block  (l : List api_Token) (v_at : Int) (deep : Int) : Option (List api_Act × Int × api_Fault) := lim (fun k (x : List api_Token × Int × Int) => ref8_block_f k x.1 x.2.1 x.2.2) (l, v_at, deep)
noncomputable abbrev ref8_block_T (self_ref8_block : (List api_Token) → Int → Int → Option (List api_Act × Int × api_Fault)) : Tab S := ⟨[⟨59, [.val (.data (.sl (.st 0))), .val (.data (.int .i64)), .val (.data .str)], [.val (.data .bool)], fun x => ref6_Is x.1 x.2.1 x.2.2⟩, ⟨60, [.val (.data (.sl (.st 0))), .val (.data (.int .i64))], [.val (.data (.st 1))], fun x => ref6_Bad x.1 x.2⟩, ⟨61, [.val (.data (.sl (.st 0))), .val (.data (.int .i64)), .val (.data (.int .i64))], [.val (.data (.st 3)), .val (.data (.int .i64)), .val (.data (.st 1))], fun x => ref8_choice_1 self_ref8_block x.1 x.2.1 x.2.2⟩, ⟨62, [.val (.data (.sl (.st 0))), .val (.data (.int .i64)), .val (.data (.int .i64))], [.val (.data (.st 3)), .val (.data (.int .i64)), .val (.data (.st 1))], fun x => ref8_round_1 self_ref8_block x.1 x.2.1 x.2.2⟩, ⟨63, [.val (.data (.sl (.st 0))), .val (.data (.int .i64))], [.val (.data (.st 3)), .val (.data (.int .i64)), .val (.data (.st 1))], fun x => ref8_simple x.1 x.2⟩], [], false, false, none, []⟩
noncomputable def ref8_block_L (self_ref8_block : (List api_Token) → Int → Int → Option (List api_Act × Int × api_Fault)) (k : Nat) : Nat → List (Lab S (List api_Act × Int × api_Fault))
 | 0 => [⟨[0, 1, 2, 8, 9], [.val (.data (.sl (.st 0))), .val (.data (.int .i64)), .val (.data (.int .i64)), .obj [.data (.int .i64), .data (.int .i64)], .val (.town (.st 3))], fun x => ref8_block_l0 self_ref8_block k x.1 x.2.1 x.2.2.1 x.2.2.2.1.1 x.2.2.2.1.2 x.2.2.2.2, false⟩]
 | _ + 1 => []
theorem ref8_block_eq (self_ref8_block : (List api_Token) → Int → Int → Option (List api_Act × Int × api_Fault)) (k : Nat) (l : List api_Token) (v_at : Int) (deep : Int) : ref8_block_b self_ref8_block k l v_at deep = exec S (ref8_block_T self_ref8_block) byt (labs S (ref8_block_T self_ref8_block) (ref8_block_L self_ref8_block k)) (ac [] Tryz.f29) (frame0 S [.val (.data (.sl (.st 0))), .val (.data (.int .i64)), .val (.data (.int .i64))] (l, v_at, deep)) (retK S (ref8_block_T self_ref8_block) Tryz.f29 [.val (.data (.sl (.st 0))), .val (.data (.int .i64)), .val (.data (.int .i64))] [.val (.town (.st 3)), .val (.data (.int .i64)), .val (.data (.st 1))]) := by kernel_rfl
theorem ref8_block_vc (self_ref8_block : (List api_Token) → Int → Int → Option (List api_Act × Int × api_Fault)) (k : Nat) : VC S (ref8_block_T self_ref8_block) byt (ref8_block_L self_ref8_block k) (ref8_block_L self_ref8_block (k + 1)) (ac [] Tryz.f29) (retK S (ref8_block_T self_ref8_block) Tryz.f29 [.val (.data (.sl (.st 0))), .val (.data (.int .i64)), .val (.data (.int .i64))] [.val (.town (.st 3)), .val (.data (.int .i64)), .val (.data (.st 1))]) = [∀ x : List api_Token × Int × Int × (Int × Int) × List api_Act, ref8_block_l0 self_ref8_block (k + 1) x.1 x.2.1 x.2.2.1 x.2.2.2.1.1 x.2.2.2.1.2 x.2.2.2.2 = ref8_block_l0 self_ref8_block (k + 1) x.1 x.2.1 x.2.2.1 x.2.2.2.1.1 x.2.2.2.1.2 x.2.2.2.2] := by kernel_rfl
theorem ref8_block_sndk (self_ref8_block : (List api_Token) → Int → Int → Option (List api_Act × Int × api_Fault)) (hself : Snd Tryz.prog S ⟨29, [.val (.data (.sl (.st 0))), .val (.data (.int .i64)), .val (.data (.int .i64))], [.val (.town (.st 3)), .val (.data (.int .i64)), .val (.data (.st 1))], fun x => self_ref8_block x.1 x.2.1 x.2.2⟩) (k : Nat) : Snd Tryz.prog S ⟨29, [.val (.data (.sl (.st 0))), .val (.data (.int .i64)), .val (.data (.int .i64))], [.val (.town (.st 3)), .val (.data (.int .i64)), .val (.data (.st 1))], fun x => ref8_block_b self_ref8_block k x.1 x.2.1 x.2.2⟩ :=
 fn_ok progOk (T := (ref8_block_T self_ref8_block)) (all_cons ref6_Is_snd (all_cons ref6_Bad_snd (all_cons (ref8_choice_1_snd self_ref8_block hself) (all_cons (ref8_round_1_snd self_ref8_block hself) (all_cons ref8_simple_snd (all_nil)))))) (all_nil) (all_nil) mixed Tryz.func29 rfl (by kernel_rfl) (ac_code [] Tryz.f29 rfl) (L := ref8_block_L self_ref8_block)
  (fun n l h x => by match n, h with
   | 0, h =>
    rcases List.mem_cons.1 h with rfl | h
    · rfl
    cases h
   | _ + 1, h => cases h) (fun k n l h => by match n, h with
   | 0, h =>
    rcases List.mem_cons.1 h with rfl | h
    · rfl
    cases h
   | _ + 1, h => cases h)
  (fun k => All.mem (ref8_block_vc self_ref8_block k) ⟨fun _ => rfl, trivial⟩) (fun x r h => ⟨k, (ref8_block_eq self_ref8_block k x.1 x.2.1 x.2.2).symm.trans h⟩) (by kernel_rfl) (by kernel_rfl) (Nat.le_of_ble_eq_true (by kernel_rfl)) (by kernel_rfl)
theorem ref8_block_sndf : ∀ k, Snd Tryz.prog S ⟨29, [.val (.data (.sl (.st 0))), .val (.data (.int .i64)), .val (.data (.int .i64))], [.val (.town (.st 3)), .val (.data (.int .i64)), .val (.data (.st 1))], fun x => ref8_block_f k x.1 x.2.1 x.2.2⟩
 | 0 => Snd.none ⟨_, Tryz.func29, by kernel_rfl, by kernel_rfl⟩ fun _ => rfl
 | k + 1 => ref8_block_sndk (ref8_block_f k) (ref8_block_sndf k) k
theorem ref8_block_snd : Snd Tryz.prog S ⟨29, [.val (.data (.sl (.st 0))), .val (.data (.int .i64)), .val (.data (.int .i64))], [.val (.town (.st 3)), .val (.data (.int .i64)), .val (.data (.st 1))], fun x => ref8_block x.1 x.2.1 x.2.2⟩ := Snd.lim (ref8_block_sndf)
noncomputable def ref8_Parse  (l : List api_Token) (v_at : Int) : Option (List api_Act × Int × api_Fault) := (ref8_block l v_at 0).bind fun r1 => some (r1.1, r1.2.1, r1.2.2)
noncomputable abbrev ref8_Parse_T : Tab S := ⟨[⟨29, [.val (.data (.sl (.st 0))), .val (.data (.int .i64)), .val (.data (.int .i64))], [.val (.town (.st 3)), .val (.data (.int .i64)), .val (.data (.st 1))], fun x => ref8_block x.1 x.2.1 x.2.2⟩], [], false, false, none, []⟩
theorem ref8_Parse_snd : Snd Tryz.prog S ⟨12, [.val (.data (.sl (.st 0))), .val (.data (.int .i64))], [.val (.town (.st 3)), .val (.data (.int .i64)), .val (.data (.st 1))], fun x => ref8_Parse x.1 x.2⟩ :=
 fn_ok0 progOk (T := (ref8_Parse_T)) (all_cons ref8_block_snd (all_nil)) (all_nil) (all_nil) mixed Tryz.func12 rfl (by kernel_rfl) (ac_code [] Tryz.f12 rfl) (by kernel_rfl) (fun _ => by kernel_rfl) (by kernel_rfl) (by kernel_rfl) (Nat.le_of_ble_eq_true (by kernel_rfl)) (by kernel_rfl)
noncomputable def ref7_Same_l0 (self_ref7_Same : api_Expr → api_Expr → Option Bool) : Nat → Int → Int → (List UInt8) → (List api_Expr) → Int → Int → Int → (List UInt8) → (List api_Expr) → Int → Int → Option Bool
 | 0, _, _, _, _, _, _, _, _, _, _, _ => none
 | k + 1, a_Kind, a_N, a_Name, a_Kids, a_At, b_Kind, b_N, b_Name, b_Kids, b_At, i => if i < (a_Kids.length : Int) then
  if 0 ≤ i then
  if i < (a_Kids.length : Int) then
  if 0 ≤ i then
  if i < (b_Kids.length : Int) then
  (self_ref7_Same (a_Kids.getD i.toNat api_Expr.z) (b_Kids.getD i.toNat api_Expr.z)).bind fun r1 =>
  bif !r1 then
  some false else
  ref7_Same_l0 self_ref7_Same k a_Kind a_N a_Name a_Kids a_At b_Kind b_N b_Name b_Kids b_At (w64 (i + 1)) else none else none else none else none else
  some true
noncomputable def ref7_Same_b (self_ref7_Same : api_Expr → api_Expr → Option Bool) (k : Nat) (a : api_Expr) (b : api_Expr) : Option Bool := if a.Kind ≠ b.Kind then
 some false else
 if a.N ≠ b.N then
 some false else
 if a.Name ≠ b.Name then
 some false else
 if (a.Kids.length : Int) ≠ (b.Kids.length : Int) then
 some false else
 ref7_Same_l0 self_ref7_Same k a.Kind a.N a.Name a.Kids a.At b.Kind b.N b.Name b.Kids b.At 0
noncomputable def ref7_Same_f : Nat → api_Expr → api_Expr → Option Bool
 | 0, _, _ => none
 | k + 1, x0, x1 => ref7_Same_b (ref7_Same_f k) k x0 x1
noncomputable def ref7_Same  (a : api_Expr) (b : api_Expr) : Option Bool := lim (fun k (x : api_Expr × api_Expr) => ref7_Same_f k x.1 x.2) (a, b)
noncomputable abbrev ref7_Same_T (self_ref7_Same : api_Expr → api_Expr → Option Bool) : Tab S := ⟨[⟨65, [.val (.data (.st 4)), .val (.data (.st 4))], [.val (.data .bool)], fun x => self_ref7_Same x.1 x.2⟩], [], false, false, none, []⟩
noncomputable def ref7_Same_L (self_ref7_Same : api_Expr → api_Expr → Option Bool) (k : Nat) : Nat → List (Lab S Bool)
 | 0 => [⟨[2, 3, 5], [.obj [.data (.int .i64), .data (.int .i64), .data .str, .data (.sl (.st 4)), .data (.int .i64)], .obj [.data (.int .i64), .data (.int .i64), .data .str, .data (.sl (.st 4)), .data (.int .i64)], .val (.data (.int .i64))], fun x => ref7_Same_l0 self_ref7_Same k x.1.1 x.1.2.1 x.1.2.2.1 x.1.2.2.2.1 x.1.2.2.2.2 x.2.1.1 x.2.1.2.1 x.2.1.2.2.1 x.2.1.2.2.2.1 x.2.1.2.2.2.2 x.2.2, false⟩]
 | _ + 1 => []
theorem ref7_Same_eq (self_ref7_Same : api_Expr → api_Expr → Option Bool) (k : Nat) (a : api_Expr) (b : api_Expr) : ref7_Same_b self_ref7_Same k a b = exec S (ref7_Same_T self_ref7_Same) byt (labs S (ref7_Same_T self_ref7_Same) (ref7_Same_L self_ref7_Same k)) (ac [] Tryz.f65) (frame0 S [.val (.data (.st 4)), .val (.data (.st 4))] (a, b)) (retK S (ref7_Same_T self_ref7_Same) Tryz.f65 [.val (.data (.st 4)), .val (.data (.st 4))] [.val (.data .bool)]) := by kernel_rfl
theorem ref7_Same_vc (self_ref7_Same : api_Expr → api_Expr → Option Bool) (k : Nat) : VC S (ref7_Same_T self_ref7_Same) byt (ref7_Same_L self_ref7_Same k) (ref7_Same_L self_ref7_Same (k + 1)) (ac [] Tryz.f65) (retK S (ref7_Same_T self_ref7_Same) Tryz.f65 [.val (.data (.st 4)), .val (.data (.st 4))] [.val (.data .bool)]) = [∀ x : (Int × Int × List UInt8 × List api_Expr × Int) × (Int × Int × List UInt8 × List api_Expr × Int) × Int, ref7_Same_l0 self_ref7_Same (k + 1) x.1.1 x.1.2.1 x.1.2.2.1 x.1.2.2.2.1 x.1.2.2.2.2 x.2.1.1 x.2.1.2.1 x.2.1.2.2.1 x.2.1.2.2.2.1 x.2.1.2.2.2.2 x.2.2 = ref7_Same_l0 self_ref7_Same (k + 1) x.1.1 x.1.2.1 x.1.2.2.1 x.1.2.2.2.1 x.1.2.2.2.2 x.2.1.1 x.2.1.2.1 x.2.1.2.2.1 x.2.1.2.2.2.1 x.2.1.2.2.2.2 x.2.2] := by kernel_rfl
theorem ref7_Same_sndk (self_ref7_Same : api_Expr → api_Expr → Option Bool) (hself : Snd Tryz.prog S ⟨65, [.val (.data (.st 4)), .val (.data (.st 4))], [.val (.data .bool)], fun x => self_ref7_Same x.1 x.2⟩) (k : Nat) : Snd Tryz.prog S ⟨65, [.val (.data (.st 4)), .val (.data (.st 4))], [.val (.data .bool)], fun x => ref7_Same_b self_ref7_Same k x.1 x.2⟩ :=
 fn_ok progOk (T := (ref7_Same_T self_ref7_Same)) (all_cons hself (all_nil)) (all_nil) (all_nil) mixed Tryz.func65 rfl (by kernel_rfl) (ac_code [] Tryz.f65 rfl) (L := ref7_Same_L self_ref7_Same)
  (fun n l h x => by match n, h with
   | 0, h =>
    rcases List.mem_cons.1 h with rfl | h
    · rfl
    cases h
   | _ + 1, h => cases h) (fun k n l h => by match n, h with
   | 0, h =>
    rcases List.mem_cons.1 h with rfl | h
    · rfl
    cases h
   | _ + 1, h => cases h)
  (fun k => All.mem (ref7_Same_vc self_ref7_Same k) ⟨fun _ => rfl, trivial⟩) (fun x r h => ⟨k, (ref7_Same_eq self_ref7_Same k x.1 x.2).symm.trans h⟩) (by kernel_rfl) (by kernel_rfl) (Nat.le_of_ble_eq_true (by kernel_rfl)) (by kernel_rfl)
theorem ref7_Same_sndf : ∀ k, Snd Tryz.prog S ⟨65, [.val (.data (.st 4)), .val (.data (.st 4))], [.val (.data .bool)], fun x => ref7_Same_f k x.1 x.2⟩
 | 0 => Snd.none ⟨_, Tryz.func65, by kernel_rfl, by kernel_rfl⟩ fun _ => rfl
 | k + 1 => ref7_Same_sndk (ref7_Same_f k) (ref7_Same_sndf k) k
theorem ref7_Same_snd : Snd Tryz.prog S ⟨65, [.val (.data (.st 4)), .val (.data (.st 4))], [.val (.data .bool)], fun x => ref7_Same x.1 x.2⟩ := Snd.lim (ref7_Same_sndf)
noncomputable def ref7_One_l0 : Nat → (List api_Expr) → (List api_Expr) → Int → Option Bool
 | 0, _, _, _ => none
 | k + 1, a, b, i => if i < (a.length : Int) then
  if 0 ≤ i then
  if i < (a.length : Int) then
  if 0 ≤ i then
  if i < (b.length : Int) then
  (ref7_Same (a.getD i.toNat api_Expr.z) (b.getD i.toNat api_Expr.z)).bind fun r1 =>
  bif !r1 then
  some false else
  ref7_One_l0 k a b (w64 (i + 1)) else none else none else none else none else
  some true
noncomputable def ref7_One_f (k : Nat) (a : List api_Expr) (b : List api_Expr) : Option Bool := if (a.length : Int) ≠ (b.length : Int) then some false else ref7_One_l0 k a b 0
noncomputable def ref7_One  (a : List api_Expr) (b : List api_Expr) : Option Bool := lim (fun k (x : List api_Expr × List api_Expr) => ref7_One_f k x.1 x.2) (a, b)
noncomputable abbrev ref7_One_T : Tab S := ⟨[⟨65, [.val (.data (.st 4)), .val (.data (.st 4))], [.val (.data .bool)], fun x => ref7_Same x.1 x.2⟩], [], false, false, none, []⟩
noncomputable def ref7_One_L (k : Nat) : Nat → List (Lab S Bool)
 | 0 => [⟨[0, 1, 5], [.val (.data (.sl (.st 4))), .val (.data (.sl (.st 4))), .val (.data (.int .i64))], fun x => ref7_One_l0 k x.1 x.2.1 x.2.2, false⟩]
 | _ + 1 => []
theorem ref7_One_eq (k : Nat) (a : List api_Expr) (b : List api_Expr) : ref7_One_f k a b = exec S (ref7_One_T) byt (labs S (ref7_One_T) (ref7_One_L k)) (ac [] Tryz.f64) (frame0 S [.val (.data (.sl (.st 4))), .val (.data (.sl (.st 4)))] (a, b)) (retK S (ref7_One_T) Tryz.f64 [.val (.data (.sl (.st 4))), .val (.data (.sl (.st 4)))] [.val (.data .bool)]) := by kernel_rfl
theorem ref7_One_vc (k : Nat) : VC S (ref7_One_T) byt (ref7_One_L k) (ref7_One_L (k + 1)) (ac [] Tryz.f64) (retK S (ref7_One_T) Tryz.f64 [.val (.data (.sl (.st 4))), .val (.data (.sl (.st 4)))] [.val (.data .bool)]) = [∀ x : List api_Expr × List api_Expr × Int, ref7_One_l0 (k + 1) x.1 x.2.1 x.2.2 = ref7_One_l0 (k + 1) x.1 x.2.1 x.2.2] := by kernel_rfl
theorem ref7_One_sndk (k : Nat) : Snd Tryz.prog S ⟨64, [.val (.data (.sl (.st 4))), .val (.data (.sl (.st 4)))], [.val (.data .bool)], fun x => ref7_One_f k x.1 x.2⟩ :=
 fn_ok progOk (T := (ref7_One_T)) (all_cons ref7_Same_snd (all_nil)) (all_nil) (all_nil) mixed Tryz.func64 rfl (by kernel_rfl) (ac_code [] Tryz.f64 rfl) (L := ref7_One_L)
  (fun n l h x => by match n, h with
   | 0, h =>
    rcases List.mem_cons.1 h with rfl | h
    · rfl
    cases h
   | _ + 1, h => cases h) (fun k n l h => by match n, h with
   | 0, h =>
    rcases List.mem_cons.1 h with rfl | h
    · rfl
    cases h
   | _ + 1, h => cases h)
  (fun k => All.mem (ref7_One_vc k) ⟨fun _ => rfl, trivial⟩) (fun x r h => ⟨k, (ref7_One_eq k x.1 x.2).symm.trans h⟩) (by kernel_rfl) (by kernel_rfl) (Nat.le_of_ble_eq_true (by kernel_rfl)) (by kernel_rfl)
theorem ref7_One_snd : Snd Tryz.prog S ⟨64, [.val (.data (.sl (.st 4))), .val (.data (.sl (.st 4)))], [.val (.data .bool)], fun x => ref7_One x.1 x.2⟩ := Snd.lim (ref7_One_sndk)
noncomputable def ref8_Same_l0 (self_ref8_Same : (List api_Act) → (List api_Act) → Option Bool) : Nat → (List api_Act) → (List api_Act) → Int → Option Bool
 | 0, _, _, _ => none
 | k + 1, a, b, i => if i < (a.length : Int) then
  if 0 ≤ i then
  if i < (a.length : Int) then
  if 0 ≤ i then
  if i < (b.length : Int) then
  if ((a.getD i.toNat api_Act.z).Kind) ≠ ((b.getD i.toNat api_Act.z).Kind) then
  some false else
  if ((a.getD i.toNat api_Act.z).Name) ≠ ((b.getD i.toNat api_Act.z).Name) then
  some false else
  if ((a.getD i.toNat api_Act.z).Event) ≠ ((b.getD i.toNat api_Act.z).Event) then
  some false else
  if ((a.getD i.toNat api_Act.z).N) ≠ ((b.getD i.toNat api_Act.z).N) then
  some false else
  (ref7_One ((a.getD i.toNat api_Act.z).X) ((b.getD i.toNat api_Act.z).X)).bind fun r1 =>
  bif !r1 then
  some false else
  (self_ref8_Same ((a.getD i.toNat api_Act.z).Then) ((b.getD i.toNat api_Act.z).Then)).bind fun r2 =>
  bif !r2 then
  some false else
  (self_ref8_Same ((a.getD i.toNat api_Act.z).Else) ((b.getD i.toNat api_Act.z).Else)).bind fun r3 =>
  bif !r3 then
  some false else
  ref8_Same_l0 self_ref8_Same k a b (w64 (i + 1)) else none else none else none else none else
  some true
noncomputable def ref8_Same_b (self_ref8_Same : (List api_Act) → (List api_Act) → Option Bool) (k : Nat) (a : List api_Act) (b : List api_Act) : Option Bool := if (a.length : Int) ≠ (b.length : Int) then
 some false else
 ref8_Same_l0 self_ref8_Same k a b 0
noncomputable def ref8_Same_f : Nat → (List api_Act) → (List api_Act) → Option Bool
 | 0, _, _ => none
 | k + 1, x0, x1 => ref8_Same_b (ref8_Same_f k) k x0 x1
noncomputable def ref8_Same  (a : List api_Act) (b : List api_Act) : Option Bool := lim (fun k (x : List api_Act × List api_Act) => ref8_Same_f k x.1 x.2) (a, b)
noncomputable abbrev ref8_Same_T (self_ref8_Same : (List api_Act) → (List api_Act) → Option Bool) : Tab S := ⟨[⟨64, [.val (.data (.sl (.st 4))), .val (.data (.sl (.st 4)))], [.val (.data .bool)], fun x => ref7_One x.1 x.2⟩, ⟨30, [.val (.data (.sl (.st 3))), .val (.data (.sl (.st 3)))], [.val (.data .bool)], fun x => self_ref8_Same x.1 x.2⟩], [], false, false, none, []⟩
noncomputable def ref8_Same_L (self_ref8_Same : (List api_Act) → (List api_Act) → Option Bool) (k : Nat) : Nat → List (Lab S Bool)
 | 0 => [⟨[0, 1, 5], [.val (.data (.sl (.st 3))), .val (.data (.sl (.st 3))), .val (.data (.int .i64))], fun x => ref8_Same_l0 self_ref8_Same k x.1 x.2.1 x.2.2, false⟩]
 | _ + 1 => []
theorem ref8_Same_eq (self_ref8_Same : (List api_Act) → (List api_Act) → Option Bool) (k : Nat) (a : List api_Act) (b : List api_Act) : ref8_Same_b self_ref8_Same k a b = exec S (ref8_Same_T self_ref8_Same) byt (labs S (ref8_Same_T self_ref8_Same) (ref8_Same_L self_ref8_Same k)) (ac [] Tryz.f30) (frame0 S [.val (.data (.sl (.st 3))), .val (.data (.sl (.st 3)))] (a, b)) (retK S (ref8_Same_T self_ref8_Same) Tryz.f30 [.val (.data (.sl (.st 3))), .val (.data (.sl (.st 3)))] [.val (.data .bool)]) := by kernel_rfl
theorem ref8_Same_vc (self_ref8_Same : (List api_Act) → (List api_Act) → Option Bool) (k : Nat) : VC S (ref8_Same_T self_ref8_Same) byt (ref8_Same_L self_ref8_Same k) (ref8_Same_L self_ref8_Same (k + 1)) (ac [] Tryz.f30) (retK S (ref8_Same_T self_ref8_Same) Tryz.f30 [.val (.data (.sl (.st 3))), .val (.data (.sl (.st 3)))] [.val (.data .bool)]) = [∀ x : List api_Act × List api_Act × Int, ref8_Same_l0 self_ref8_Same (k + 1) x.1 x.2.1 x.2.2 = ref8_Same_l0 self_ref8_Same (k + 1) x.1 x.2.1 x.2.2] := by kernel_rfl
theorem ref8_Same_sndk (self_ref8_Same : (List api_Act) → (List api_Act) → Option Bool) (hself : Snd Tryz.prog S ⟨30, [.val (.data (.sl (.st 3))), .val (.data (.sl (.st 3)))], [.val (.data .bool)], fun x => self_ref8_Same x.1 x.2⟩) (k : Nat) : Snd Tryz.prog S ⟨30, [.val (.data (.sl (.st 3))), .val (.data (.sl (.st 3)))], [.val (.data .bool)], fun x => ref8_Same_b self_ref8_Same k x.1 x.2⟩ :=
 fn_ok progOk (T := (ref8_Same_T self_ref8_Same)) (all_cons ref7_One_snd (all_cons hself (all_nil))) (all_nil) (all_nil) mixed Tryz.func30 rfl (by kernel_rfl) (ac_code [] Tryz.f30 rfl) (L := ref8_Same_L self_ref8_Same)
  (fun n l h x => by match n, h with
   | 0, h =>
    rcases List.mem_cons.1 h with rfl | h
    · rfl
    cases h
   | _ + 1, h => cases h) (fun k n l h => by match n, h with
   | 0, h =>
    rcases List.mem_cons.1 h with rfl | h
    · rfl
    cases h
   | _ + 1, h => cases h)
  (fun k => All.mem (ref8_Same_vc self_ref8_Same k) ⟨fun _ => rfl, trivial⟩) (fun x r h => ⟨k, (ref8_Same_eq self_ref8_Same k x.1 x.2).symm.trans h⟩) (by kernel_rfl) (by kernel_rfl) (Nat.le_of_ble_eq_true (by kernel_rfl)) (by kernel_rfl)
theorem ref8_Same_sndf : ∀ k, Snd Tryz.prog S ⟨30, [.val (.data (.sl (.st 3))), .val (.data (.sl (.st 3)))], [.val (.data .bool)], fun x => ref8_Same_f k x.1 x.2⟩
 | 0 => Snd.none ⟨_, Tryz.func30, by kernel_rfl, by kernel_rfl⟩ fun _ => rfl
 | k + 1 => ref8_Same_sndk (ref8_Same_f k) (ref8_Same_sndf k) k
theorem ref8_Same_snd : Snd Tryz.prog S ⟨30, [.val (.data (.sl (.st 3))), .val (.data (.sl (.st 3)))], [.val (.data .bool)], fun x => ref8_Same x.1 x.2⟩ := Snd.lim (ref8_Same_sndf)
noncomputable def law8_expr_l0 (self_law8_expr : api_Expr → api_Expr → Option Bool) : Nat → Int → Int → (List UInt8) → (List api_Expr) → Int → Int → Int → (List UInt8) → (List api_Expr) → Int → Int → Option Bool
 | 0, _, _, _, _, _, _, _, _, _, _, _ => none
 | k + 1, a_Kind, a_N, a_Name, a_Kids, a_At, b_Kind, b_N, b_Name, b_Kids, b_At, i => if i < (a_Kids.length : Int) then
  if 0 ≤ i then
  if i < (a_Kids.length : Int) then
  if 0 ≤ i then
  if i < (b_Kids.length : Int) then
  (self_law8_expr (a_Kids.getD i.toNat api_Expr.z) (b_Kids.getD i.toNat api_Expr.z)).bind fun r1 =>
  bif !r1 then
  some false else
  law8_expr_l0 self_law8_expr k a_Kind a_N a_Name a_Kids a_At b_Kind b_N b_Name b_Kids b_At (w64 (i + 1)) else none else none else none else none else
  (ref7_Same (api_Expr.mk a_Kind a_N a_Name a_Kids a_At) (api_Expr.mk b_Kind b_N b_Name b_Kids b_At)).bind fun r2 =>
  some r2
noncomputable def law8_expr_b (self_law8_expr : api_Expr → api_Expr → Option Bool) (k : Nat) (a : api_Expr) (b : api_Expr) : Option Bool := if a.At ≠ b.At then
 some false else
 if (a.Kids.length : Int) ≠ (b.Kids.length : Int) then
 some false else
 law8_expr_l0 self_law8_expr k a.Kind a.N a.Name a.Kids a.At b.Kind b.N b.Name b.Kids b.At 0
noncomputable def law8_expr_f : Nat → api_Expr → api_Expr → Option Bool
 | 0, _, _ => none
 | k + 1, x0, x1 => law8_expr_b (law8_expr_f k) k x0 x1
noncomputable def law8_expr  (a : api_Expr) (b : api_Expr) : Option Bool := lim (fun k (x : api_Expr × api_Expr) => law8_expr_f k x.1 x.2) (a, b)
noncomputable abbrev law8_expr_T (self_law8_expr : api_Expr → api_Expr → Option Bool) : Tab S := ⟨[⟨31, [.val (.data (.st 4)), .val (.data (.st 4))], [.val (.data .bool)], fun x => self_law8_expr x.1 x.2⟩, ⟨65, [.val (.data (.st 4)), .val (.data (.st 4))], [.val (.data .bool)], fun x => ref7_Same x.1 x.2⟩], [], false, false, none, []⟩
noncomputable def law8_expr_L (self_law8_expr : api_Expr → api_Expr → Option Bool) (k : Nat) : Nat → List (Lab S Bool)
 | 0 => [⟨[2, 3, 5], [.obj [.data (.int .i64), .data (.int .i64), .data .str, .data (.sl (.st 4)), .data (.int .i64)], .obj [.data (.int .i64), .data (.int .i64), .data .str, .data (.sl (.st 4)), .data (.int .i64)], .val (.data (.int .i64))], fun x => law8_expr_l0 self_law8_expr k x.1.1 x.1.2.1 x.1.2.2.1 x.1.2.2.2.1 x.1.2.2.2.2 x.2.1.1 x.2.1.2.1 x.2.1.2.2.1 x.2.1.2.2.2.1 x.2.1.2.2.2.2 x.2.2, false⟩]
 | _ + 1 => []
theorem law8_expr_eq (self_law8_expr : api_Expr → api_Expr → Option Bool) (k : Nat) (a : api_Expr) (b : api_Expr) : law8_expr_b self_law8_expr k a b = exec S (law8_expr_T self_law8_expr) byt (labs S (law8_expr_T self_law8_expr) (law8_expr_L self_law8_expr k)) (ac [] Tryz.f31) (frame0 S [.val (.data (.st 4)), .val (.data (.st 4))] (a, b)) (retK S (law8_expr_T self_law8_expr) Tryz.f31 [.val (.data (.st 4)), .val (.data (.st 4))] [.val (.data .bool)]) := by kernel_rfl
theorem law8_expr_vc (self_law8_expr : api_Expr → api_Expr → Option Bool) (k : Nat) : VC S (law8_expr_T self_law8_expr) byt (law8_expr_L self_law8_expr k) (law8_expr_L self_law8_expr (k + 1)) (ac [] Tryz.f31) (retK S (law8_expr_T self_law8_expr) Tryz.f31 [.val (.data (.st 4)), .val (.data (.st 4))] [.val (.data .bool)]) = [∀ x : (Int × Int × List UInt8 × List api_Expr × Int) × (Int × Int × List UInt8 × List api_Expr × Int) × Int, law8_expr_l0 self_law8_expr (k + 1) x.1.1 x.1.2.1 x.1.2.2.1 x.1.2.2.2.1 x.1.2.2.2.2 x.2.1.1 x.2.1.2.1 x.2.1.2.2.1 x.2.1.2.2.2.1 x.2.1.2.2.2.2 x.2.2 = law8_expr_l0 self_law8_expr (k + 1) x.1.1 x.1.2.1 x.1.2.2.1 x.1.2.2.2.1 x.1.2.2.2.2 x.2.1.1 x.2.1.2.1 x.2.1.2.2.1 x.2.1.2.2.2.1 x.2.1.2.2.2.2 x.2.2] := by kernel_rfl
theorem law8_expr_sndk (self_law8_expr : api_Expr → api_Expr → Option Bool) (hself : Snd Tryz.prog S ⟨31, [.val (.data (.st 4)), .val (.data (.st 4))], [.val (.data .bool)], fun x => self_law8_expr x.1 x.2⟩) (k : Nat) : Snd Tryz.prog S ⟨31, [.val (.data (.st 4)), .val (.data (.st 4))], [.val (.data .bool)], fun x => law8_expr_b self_law8_expr k x.1 x.2⟩ :=
 fn_ok progOk (T := (law8_expr_T self_law8_expr)) (all_cons hself (all_cons ref7_Same_snd (all_nil))) (all_nil) (all_nil) mixed Tryz.func31 rfl (by kernel_rfl) (ac_code [] Tryz.f31 rfl) (L := law8_expr_L self_law8_expr)
  (fun n l h x => by match n, h with
   | 0, h =>
    rcases List.mem_cons.1 h with rfl | h
    · rfl
    cases h
   | _ + 1, h => cases h) (fun k n l h => by match n, h with
   | 0, h =>
    rcases List.mem_cons.1 h with rfl | h
    · rfl
    cases h
   | _ + 1, h => cases h)
  (fun k => All.mem (law8_expr_vc self_law8_expr k) ⟨fun _ => rfl, trivial⟩) (fun x r h => ⟨k, (law8_expr_eq self_law8_expr k x.1 x.2).symm.trans h⟩) (by kernel_rfl) (by kernel_rfl) (Nat.le_of_ble_eq_true (by kernel_rfl)) (by kernel_rfl)
theorem law8_expr_sndf : ∀ k, Snd Tryz.prog S ⟨31, [.val (.data (.st 4)), .val (.data (.st 4))], [.val (.data .bool)], fun x => law8_expr_f k x.1 x.2⟩
 | 0 => Snd.none ⟨_, Tryz.func31, by kernel_rfl, by kernel_rfl⟩ fun _ => rfl
 | k + 1 => law8_expr_sndk (law8_expr_f k) (law8_expr_sndf k) k
theorem law8_expr_snd : Snd Tryz.prog S ⟨31, [.val (.data (.st 4)), .val (.data (.st 4))], [.val (.data .bool)], fun x => law8_expr x.1 x.2⟩ := Snd.lim (law8_expr_sndf)
noncomputable def law8_same_l0 (self_law8_same : (List api_Act) → (List api_Act) → Option Bool) : Nat → (List api_Act) → (List api_Act) → Int → Option Bool
 | 0, _, _, _ => none
 | k + 1, a, b, i => if i < (a.length : Int) then
  if 0 ≤ i then
  if i < (a.length : Int) then
  if 0 ≤ i then
  if i < (b.length : Int) then
  if ((a.getD i.toNat api_Act.z).At) ≠ ((b.getD i.toNat api_Act.z).At) then
  some false else
  if (((a.getD i.toNat api_Act.z).X).length : Int) = 1 then
  if (0 : Int) ≤ 0 then
  if 0 < (((a.getD i.toNat api_Act.z).X).length : Int) then
  if (0 : Int) ≤ 0 then
  if 0 < (((b.getD i.toNat api_Act.z).X).length : Int) then
  (law8_expr (((a.getD i.toNat api_Act.z).X).getD (0 : Int).toNat api_Expr.z) (((b.getD i.toNat api_Act.z).X).getD (0 : Int).toNat api_Expr.z)).bind fun r2 =>
  bif !r2 then
  some false else
  (self_law8_same ((a.getD i.toNat api_Act.z).Then) ((b.getD i.toNat api_Act.z).Then)).bind fun r3 =>
  bif !r3 then
  some false else
  (self_law8_same ((a.getD i.toNat api_Act.z).Else) ((b.getD i.toNat api_Act.z).Else)).bind fun r4 =>
  bif !r4 then
  some false else
  law8_same_l0 self_law8_same k a b (w64 (i + 1)) else none else none else none else none else
  (self_law8_same ((a.getD i.toNat api_Act.z).Then) ((b.getD i.toNat api_Act.z).Then)).bind fun r5 =>
  bif !r5 then
  some false else
  (self_law8_same ((a.getD i.toNat api_Act.z).Else) ((b.getD i.toNat api_Act.z).Else)).bind fun r6 =>
  bif !r6 then
  some false else
  law8_same_l0 self_law8_same k a b (w64 (i + 1)) else none else none else none else none else
  some true
noncomputable def law8_same_b (self_law8_same : (List api_Act) → (List api_Act) → Option Bool) (k : Nat) (a : List api_Act) (b : List api_Act) : Option Bool := (ref8_Same a b).bind fun r1 =>
 bif !r1 then
 some false else
 law8_same_l0 self_law8_same k a b 0
noncomputable def law8_same_f : Nat → (List api_Act) → (List api_Act) → Option Bool
 | 0, _, _ => none
 | k + 1, x0, x1 => law8_same_b (law8_same_f k) k x0 x1
noncomputable def law8_same  (a : List api_Act) (b : List api_Act) : Option Bool := lim (fun k (x : List api_Act × List api_Act) => law8_same_f k x.1 x.2) (a, b)
noncomputable abbrev law8_same_T (self_law8_same : (List api_Act) → (List api_Act) → Option Bool) : Tab S := ⟨[⟨30, [.val (.data (.sl (.st 3))), .val (.data (.sl (.st 3)))], [.val (.data .bool)], fun x => ref8_Same x.1 x.2⟩, ⟨31, [.val (.data (.st 4)), .val (.data (.st 4))], [.val (.data .bool)], fun x => law8_expr x.1 x.2⟩, ⟨13, [.val (.data (.sl (.st 3))), .val (.data (.sl (.st 3)))], [.val (.data .bool)], fun x => self_law8_same x.1 x.2⟩], [], false, false, none, []⟩
noncomputable def law8_same_L (self_law8_same : (List api_Act) → (List api_Act) → Option Bool) (k : Nat) : Nat → List (Lab S Bool)
 | 0 => [⟨[0, 1, 5], [.val (.data (.sl (.st 3))), .val (.data (.sl (.st 3))), .val (.data (.int .i64))], fun x => law8_same_l0 self_law8_same k x.1 x.2.1 x.2.2, false⟩]
 | _ + 1 => []
theorem law8_same_eq (self_law8_same : (List api_Act) → (List api_Act) → Option Bool) (k : Nat) (a : List api_Act) (b : List api_Act) : law8_same_b self_law8_same k a b = exec S (law8_same_T self_law8_same) byt (labs S (law8_same_T self_law8_same) (law8_same_L self_law8_same k)) (ac [] Tryz.f13) (frame0 S [.val (.data (.sl (.st 3))), .val (.data (.sl (.st 3)))] (a, b)) (retK S (law8_same_T self_law8_same) Tryz.f13 [.val (.data (.sl (.st 3))), .val (.data (.sl (.st 3)))] [.val (.data .bool)]) := by kernel_rfl
theorem law8_same_vc (self_law8_same : (List api_Act) → (List api_Act) → Option Bool) (k : Nat) : VC S (law8_same_T self_law8_same) byt (law8_same_L self_law8_same k) (law8_same_L self_law8_same (k + 1)) (ac [] Tryz.f13) (retK S (law8_same_T self_law8_same) Tryz.f13 [.val (.data (.sl (.st 3))), .val (.data (.sl (.st 3)))] [.val (.data .bool)]) = [∀ x : List api_Act × List api_Act × Int, law8_same_l0 self_law8_same (k + 1) x.1 x.2.1 x.2.2 = law8_same_l0 self_law8_same (k + 1) x.1 x.2.1 x.2.2] := by kernel_rfl
theorem law8_same_sndk (self_law8_same : (List api_Act) → (List api_Act) → Option Bool) (hself : Snd Tryz.prog S ⟨13, [.val (.data (.sl (.st 3))), .val (.data (.sl (.st 3)))], [.val (.data .bool)], fun x => self_law8_same x.1 x.2⟩) (k : Nat) : Snd Tryz.prog S ⟨13, [.val (.data (.sl (.st 3))), .val (.data (.sl (.st 3)))], [.val (.data .bool)], fun x => law8_same_b self_law8_same k x.1 x.2⟩ :=
 fn_ok progOk (T := (law8_same_T self_law8_same)) (all_cons ref8_Same_snd (all_cons law8_expr_snd (all_cons hself (all_nil)))) (all_nil) (all_nil) mixed Tryz.func13 rfl (by kernel_rfl) (ac_code [] Tryz.f13 rfl) (L := law8_same_L self_law8_same)
  (fun n l h x => by match n, h with
   | 0, h =>
    rcases List.mem_cons.1 h with rfl | h
    · rfl
    cases h
   | _ + 1, h => cases h) (fun k n l h => by match n, h with
   | 0, h =>
    rcases List.mem_cons.1 h with rfl | h
    · rfl
    cases h
   | _ + 1, h => cases h)
  (fun k => All.mem (law8_same_vc self_law8_same k) ⟨fun _ => rfl, trivial⟩) (fun x r h => ⟨k, (law8_same_eq self_law8_same k x.1 x.2).symm.trans h⟩) (by kernel_rfl) (by kernel_rfl) (Nat.le_of_ble_eq_true (by kernel_rfl)) (by kernel_rfl)
theorem law8_same_sndf : ∀ k, Snd Tryz.prog S ⟨13, [.val (.data (.sl (.st 3))), .val (.data (.sl (.st 3)))], [.val (.data .bool)], fun x => law8_same_f k x.1 x.2⟩
 | 0 => Snd.none ⟨_, Tryz.func13, by kernel_rfl, by kernel_rfl⟩ fun _ => rfl
 | k + 1 => law8_same_sndk (law8_same_f k) (law8_same_sndf k) k
theorem law8_same_snd : Snd Tryz.prog S ⟨13, [.val (.data (.sl (.st 3))), .val (.data (.sl (.st 3)))], [.val (.data .bool)], fun x => law8_same x.1 x.2⟩ := Snd.lim (law8_same_sndf)
noncomputable def law8_ActReads  (s : List UInt8) (v_at : Int) : Option Bool := (ref6_All s).bind fun r1 =>
 if r1.2.Code ≠ 0 then
 (law8_known).bind fun r2 =>
 some r2 else
 if 2000 < (s.length : Int) then
 (law8_known).bind fun r3 =>
 some r3 else
 (ref37_Place v_at (r1.1.length : Int)).bind fun r4 =>
 (act_Parse r1.1 r4).bind fun r5 =>
 (ref8_Parse r1.1 r4).bind fun r6 =>
 if r5.2.1 = r6.2.1 then
 if r5.2.2.Code = r6.2.2.Code ∧ r5.2.2.At = r6.2.2.At then
 (law8_same r5.1 r6.1).bind fun r7 =>
 bif r7 then
 (law8_known).bind fun r8 =>
 some r8 else
 some false else
 some false else
 some false
noncomputable abbrev law8_ActReads_T : Tab S := ⟨[⟨8, [.val (.data .str)], [.val (.town (.st 0)), .val (.data (.st 1))], fun x => ref6_All x⟩, ⟨9, [], [.val (.data .bool)], fun x => law8_known⟩, ⟨10, [.val (.data (.int .i64)), .val (.data (.int .i64))], [.val (.data (.int .i64))], fun x => ref37_Place x.1 x.2⟩, ⟨11, [.val (.data (.sl (.st 0))), .val (.data (.int .i64))], [.val (.town (.st 3)), .val (.data (.int .i64)), .val (.data (.st 1))], fun x => act_Parse x.1 x.2⟩, ⟨12, [.val (.data (.sl (.st 0))), .val (.data (.int .i64))], [.val (.town (.st 3)), .val (.data (.int .i64)), .val (.data (.st 1))], fun x => ref8_Parse x.1 x.2⟩, ⟨13, [.val (.data (.sl (.st 3))), .val (.data (.sl (.st 3)))], [.val (.data .bool)], fun x => law8_same x.1 x.2⟩], [], false, false, none, []⟩
theorem law8_ActReads_snd : Snd Tryz.prog S ⟨3, [.val (.data .str), .val (.data (.int .i64))], [.val (.data .bool)], fun x => law8_ActReads x.1 x.2⟩ :=
 fn_ok0 progOk (T := (law8_ActReads_T)) (all_cons ref6_All_snd (all_cons law8_known_snd (all_cons ref37_Place_snd (all_cons act_Parse_snd (all_cons ref8_Parse_snd (all_cons law8_same_snd (all_nil))))))) (all_nil) (all_nil) mixed Tryz.func3 rfl (by kernel_rfl) (ac_code [] Tryz.f3 rfl) (by kernel_rfl) (fun _ => by kernel_rfl) (by kernel_rfl) (by kernel_rfl) (Nat.le_of_ble_eq_true (by kernel_rfl)) (by kernel_rfl)
end Go.Sy.Ex
namespace Go.Sy.Ex
open Go Go.Sy Go.Proofs Go.Proofs.YtabknfplmamfmaaGreatDoor
abbrev L7 : List (String × DataW Unit) := [("math/bits.deBruijn32tab", Rows.laid_math_bits_deBruijn32tab), ("math/bits.deBruijn64tab", Rows.laid_math_bits_deBruijn64tab), ("internal/strconv.uint64pow10", Rows.laid_internal_strconv_uint64pow10), ("strconv.ErrRange", Rows.laid_strconv_ErrRange), ("strconv.ErrSyntax", Rows.laid_strconv_ErrSyntax)]
theorem gER : Tryz.prog.globalNamed "strconv.ErrRange" = some 2 := by kernel_rfl
theorem gES : Tryz.prog.globalNamed "strconv.ErrSyntax" = some 1 := by kernel_rfl
theorem tER : (Tryz.prog.globals[2]?).map (·.type) = some 117 := by kernel_rfl
theorem tES : (Tryz.prog.globals[1]?).map (·.type) = some 117 := by kernel_rfl
theorem star : "*" ++ "errors.errorString" = "*errors.errorString" := by decide
theorem rowE (u : TypeId) (h : Tryz.prog.typeName? 3 u = some "*errors.errorString") : u = 197 :=
 typeName_ptr_named (nm := "errors.errorString") (by rw [star]; kernel_rfl) (by kernel_rfl) (by decide) u (by rw [star]; exact h)
theorem gPT : Tryz.prog.globalNamed "internal/strconv.uint64pow10" = some 3 := by kernel_rfl
theorem tPT : (Tryz.prog.globals[3]?).map (·.type) = some 202 := by kernel_rfl
theorem maxLen_cell {W : World} (h : W.ShapedOpen Tryz.prog) : ∃ m, W.cell? ⟨0, 0, none⟩ = some (.int .i64 m) :=
 cell_of_shapedOpen_int (t := 3) (zero := #[.int .i64 0]) h (of_decide_eq_true (by kernel_rfl)) (by kernel_rfl) rfl (by kernel_rfl) (by kernel_rfl) Tryz.underlying3
theorem glob0 {W : World} {M : St} (hM : NoSt M) (hL : laidMetH Tryz.prog L7 W) (hsh : W.ShapedOpen Tryz.prog) : Glob S W M := by
 rw [MakeChecks.laidMetH_plain _ _ _ (by kernel_rfl)] at hL
 have hT : Lib.TabIs Tryz.prog W "internal/strconv.uint64pow10" .u64 Lib.pow10Tab := Lib.tabIs_of_head gPT tPT Tryz.underlying202 Tryz.underlying157 (by kernel_rfl) (by kernel_rfl) hL.tail.tail
 obtain ⟨a0, s0, hv0, -, -, -⟩ := laid_sentinel hL.tail.tail.tail gER tER Tryz.underlying117 rowE Tryz.underlying197 Tryz.underlying199 rfl rfl Tryz.underlying9 (by kernel_rfl) (by kernel_rfl)
 have c1 := World.var?_cell gER hv0 0
 obtain ⟨a1, s1, hv1, -, -, -⟩ := laid_sentinel hL.tail.tail.tail.tail gES tES Tryz.underlying117 rowE Tryz.underlying197 Tryz.underlying199 rfl rfl Tryz.underlying9 (by kernel_rfl) (by kernel_rfl)
 have c0 := World.var?_cell gES hv1 0
 obtain ⟨m, c3⟩ := maxLen_cell hsh
 refine ⟨fun g hg => ?_, fun g hg => ?_⟩
 · simp only [List.mem_cons, List.not_mem_nil, or_false] at hg
   rcases hg with rfl | rfl | rfl
   · exact ⟨World.block_lt_of_cell? _ _ c3, hM _ _, _, c3, m, rfl⟩
   · exact ⟨World.block_lt_of_cell? _ _ (by simpa using c1), hM _ _, _, by simpa using c1, .inr ⟨_, _, rfl⟩⟩
   · exact ⟨World.block_lt_of_cell? _ _ (by simpa using c0), hM _ _, _, by simpa using c0, .inr ⟨_, _, rfl⟩⟩
 · simp only [List.mem_cons, List.not_mem_nil, or_false] at hg
   subst hg
   unfold Lib.TabIs World.var? at hT
   rw [gPT] at hT
   simp only [Option.bind_some] at hT
   split at hT
   · rename_i cs t f hb
     cases hT
     exact ⟨(Array.getElem?_eq_some_iff.1 hb).1, fun o => hM _ _, _, hb, t, f, rfl⟩
   · cases hT
end Go.Sy.Ex
namespace Go.Sy.Ex
open Go Go.Sy Go.Proofs Go.Proofs.YtabknfplmamfmaaGreatDoor Go.ChangeShapes Go.WideShapes Go.RowKit
theorem returns_and_shaped {H : Type} {enc : TypeId × Value → H} {a : Assume} {C : Checked} {os : Os} {f : FuncId} {fn : Func} {s : ChangeSpec} {conds : List PathCond} {apart fresh handsOn again : Bool} {X : World → Array Value → Prop}
 (hX : ∀ (w w' : World) (args : Array Value), w.heap = w'.heap → X w args → X w' args)
 (own : ownKnob C.prog.godebug = none) (started : os.Started) (noInit : C.prog.inits.idxOf? f = none) (hfn : C.prog.funcs[f]? = some fn)
 (witness : ∃ (w : World) (tape : Tape) (i : Input), w.os = os ∧ (w.forCall tape i).Shaped C.prog ∧ i.vars = [] ∧ Input.okWide C.prog (w.forCall tape i) .any w.heap.size f i ∧
  ((s.pre enc C.prog fn conds apart (w.forCall tape i).memory i.args ∧ X (w.forCall tape i).memory i.args) ∧ sizedMet enc C.prog fn (OpenSpec.ofChange s) apart (w.forCall tape i).memory i.args) ∧ a.holds C.prog (lone (Frame.enter C.prog f i.args .normal) [] (w.forCall tape i)))
 (contract : ∀ (W : World) (base : Nat) (args : Array Value) (ds gs : List (DataW H)) (before : List MemPlace),
  (∀ (j : Nat) t v, fn.params[j]? = some t → args[j]? = some v → Value.okWide C.prog W .any base t v) →
  DataW.Whole enc C.prog fn.params.toList s.vars apart W args.toList ds gs before →
  conds.all (PathCond.test C.prog ⟨fn.params.toList, ds, s.plain.varTypes C.prog, gs⟩) = true →
  (DataW.weightsEach C.prog (fn.params.toList ++ s.plain.varTypes C.prog) (ds ++ gs)).all (· ≤ reachBytes) = true → X W args → W.ShapedOpen C.prog →
  a.holds C.prog (lone (Frame.enter C.prog f args .normal) [] W) →
  Calls C.prog f args W fun e W' => ∃ v, e = .returned v ∧ s.post enc C.prog fn apart fresh handsOn again W args v W') :
 ReturnsInHanded a C os f .any (fun w args => (s.pre enc C.prog fn conds apart w args ∧ X w args) ∧ sizedMet enc C.prog fn (OpenSpec.ofChange s) apart w args) (s.post enc C.prog fn apart fresh handsOn again) := by
 refine returnsInHanded_of_calls own started noInit witness ?_
 intro w tape i _ hsh _ hok hpre hholds
 obtain ⟨_, _, _, fn', hfn', _, _, _, _, hval⟩ := hok
 have e : fn' = fn := Option.some.inj (hfn'.symm.trans hfn)
 subst e
 obtain ⟨⟨⟨ds, gs, before, hw, hc⟩, hx⟩, hz⟩ := hpre
 have hw' := DataW.Whole.of_heap (w' := w.forCall tape i) (by rfl) hw
 refine (contract (w.forCall tape i) w.heap.size i.args ds gs before hval hw' hc (hz.weights hw) (hX _ _ _ (by rfl) hx) hsh hholds).mono fun e W' ⟨v, he, hp⟩ => ?_
 subst he
 exact ChangeSpec.post_blind hp
set_option maxRecDepth 100000 in
theorem door_met (os : Os) (args : Array Value) : laidMetH Tryz.prog L7 ((World.laidAll Tryz.prog os L7).forCall (fun _ _ => 0) ⟨#[], args, []⟩).memory := by
 rw [MakeChecks.laidMetH_plain _ _ _ (by kernel_rfl)]
 exact laidMet_laidAll _ (by kernel_rfl) (by kernel_rfl)
end Go.Sy.Ex
