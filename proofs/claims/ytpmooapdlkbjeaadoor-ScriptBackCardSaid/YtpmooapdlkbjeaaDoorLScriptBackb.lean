import Derived.Stop.LaidErr
import Derived.Shelf.Vars
import Derived.MakeChecks
import Derived.LaidHandle
import Derived.ChangeSame
import Derived.ChangeVars
import Derived.JoinedOf
import Derived.RowKit
import Derived.HandedShaped
import Derived.LaidMore
import Derived.LaidLaws
import Derived.Lay
import Derived.Test.YtpmooapdlkbjeaaDoorRows
import Derived.Test.YtpmooapdlkbjeaaDoorLScriptBacka
set_option linter.unusedVariables false
set_option linter.unusedSimpArgs false
/-! script: a line read. -/
namespace Go.Sy.Sc
open Go.Sy
def failP : api_Op × Int := (api_Op.mk 0 0 (api_Msg.mk [] 0), 22)
def postP (i : Int) (w : List (List UInt8)) : api_Op × Int := match numP (w.getD 3 []) with
  | some v => (api_Op.mk 3 i (api_Msg.mk (w.getD 2 []) v), 0)
  | none => failP
def wordP (i : Int) (w : List (List UInt8)) : api_Op × Int :=
  if w.getD 0 [] = s_start ∧ w.length = 2 then (api_Op.mk 1 i (api_Msg.mk [] 0), 0) else
  if w.getD 0 [] = s_stop ∧ w.length = 2 then (api_Op.mk 2 i (api_Msg.mk [] 0), 0) else
  if w.getD 0 [] = s_post ∧ w.length = 4 ∧ nameP (w.getD 2 []) = true then postP i w else failP
def parseP (ins : List (List UInt8)) (line : List UInt8) : api_Op × Int :=
  if line = s_tick then (api_Op.mk 4 0 (api_Msg.mk [] 0), 0) else
  if line = s_run then (api_Op.mk 5 0 (api_Msg.mk [] 0), 0) else
  if (wordsP line).length < 2 then failP else
  if idxP ins ((wordsP line).getD 1 []) 0 < 0 then failP else wordP (idxP ins ((wordsP line).getD 1 []) 0) (wordsP line)
theorem wordsP_len : ∀ l : List UInt8, (∀ w ∈ wordsP l, w.length ≤ l.length) ∧ (wordsP l).length ≤ l.length + 1 := by
  intro l
  induction l with
  | nil => simp [wordsP]
  | cons b t ih =>
    simp only [wordsP]
    by_cases hb : b = 32
    · rw [if_pos hb]
      refine ⟨fun w hw => ?_, by simp only [List.length_cons]; have := ih.2; omega⟩
      rcases List.mem_cons.1 hw with rfl | hw
      · simp
      · have := ih.1 w hw; simp only [List.length_cons]; omega
    · rw [if_neg hb]
      cases h : wordsP t with
      | nil => exact absurd h (wordsP_ne t)
      | cons w r =>
        rw [h] at ih
        refine ⟨fun x hx => ?_, by have := ih.2; simp only [List.length_cons] at *; omega⟩
        rcases List.mem_cons.1 hx with rfl | hx
        · have := ih.1 w List.mem_cons_self; simp only [List.length_cons]; omega
        · have := ih.1 x (List.mem_cons_of_mem _ hx); simp only [List.length_cons]; omega
theorem getD_len {w : List (List UInt8)} {N : Nat} (h : ∀ x ∈ w, x.length ≤ N) (i : Nat) : (w.getD i []).length ≤ N := by
  by_cases hi : i < w.length
  · rw [getD_lt _ hi]; exact h _ (List.getElem_mem hi)
  · have : w.getD i [] = [] := by simp [List.getD, List.getElem?_eq_none (Nat.le_of_not_lt hi)]
    rw [this]; simp
theorem rc0_no (k : Nat) (a b : Int) (c : List UInt8) (d : Int) (w : List (List UInt8)) (i : Int) : ref34_Parse_c0 (k + 1) a b c d w i false = some failP := rfl
theorem rc0_yes (k : Nat) (a b : Int) (c : List UInt8) (d : Int) (w : List (List UInt8)) (i : Int) (x : Bool) (hw : ∀ x ∈ w, x.length < 1000000) (h4 : w.length = 4) : ref34_Parse_c0 (k + 1) a b c d w i x = some (if x = true then postP i w else failP) := by
  cases x with
  | false => rfl
  | true =>
    simp only [ref34_Parse_c0, cond_true]
    rw [if_pos (by omega), if_pos (by omega), show (3 : Int).toNat = 3 from rfl, show (2 : Int).toNat = 2 from rfl]
    obtain ⟨r, h1, h2⟩ := number_eq (w.getD 3 []) (Nat.lt_of_le_of_lt (getD_len (N := 999999) (fun x hx => by have := hw x hx; omega) 3) (by decide))
    rw [h1, bind_some_eq, if_pos trivial]
    unfold postP
    cases hn : numP (w.getD 3 []) with
    | none => rfl
    | some v =>
      rw [h2 v hn]
      dsimp only [Option.isSome]
      rw [cond_true, if_pos (by omega), if_pos (by omega)]
theorem s_ne1 {a : List UInt8} (h : a = s_start) : ¬ a = s_stop ∧ ¬ a = s_post := by subst h; decide
theorem s_ne2 {a : List UInt8} (h : a = s_stop) : ¬ a = s_post := by subst h; decide
theorem rparse_eq (n : api_Net) (line : List UInt8) (hl : line.length < 900000) (hi : n.Insts.length < 1000000) : ref34_Parse n line = some (parseP n.Insts line) := lim_eq 2 fun k hk => by
  obtain ⟨k, rfl⟩ : ∃ j, k = j + 1 := ⟨k - 1, by omega⟩
  have hw : ∀ x ∈ wordsP line, x.length < 1000000 := fun x hx => by have := (wordsP_len line).1 x hx; omega
  show ref34_Parse_f (k + 1) n line = _
  unfold ref34_Parse_f parseP
  rw [Words_eq line (by omega), bind_some_eq]
  generalize wordsP line = w at hw
  by_cases ht : line = s_tick
  · rw [if_pos ht, if_pos ht]
  rw [if_neg ht, if_neg ht]
  by_cases hr : line = s_run
  · rw [if_pos hr, if_pos hr]
  rw [if_neg hr, if_neg hr]
  by_cases h2 : w.length < 2
  · rw [if_pos (by omega), if_pos h2]; rfl
  rw [if_neg (by omega), if_neg h2, if_pos (by decide), if_pos (by omega), Inst_eq n _ hi, bind_some_eq, show (1 : Int).toNat = 1 from rfl]
  generalize hI : idxP n.Insts (w.getD 1 []) 0 = i
  by_cases hneg : i < 0
  · rw [if_pos hneg, if_pos hneg]; rfl
  have p0 : (0 : Int) < (w.length : Int) := by omega
  have pt : (0 : Int) ≤ 0 := by decide
  rw [if_neg hneg, if_neg hneg, if_pos (by decide), if_pos (by omega), bind_some_eq]
  unfold wordP
  simp only [show (0 : Int).toNat = 0 from rfl, if_pos p0, if_pos pt]
  have hname := rname_eq (w.getD 2 []) (by have := getD_len (N := 999999) (fun x hx => by have := hw x hx; omega) 2 (w := w); omega)
  have post : ∀ a : List UInt8, a = w.getD 0 [] → ∀ R, (w.getD 0 [] = s_post ∧ w.length = 4 → R = (ref6_Name (w.getD 2 [])).bind fun r4 => ref34_Parse_c0 (k + 1) 0 0 [] 0 w i r4) → (¬ (w.getD 0 [] = s_post ∧ w.length = 4) → R = some failP) →
      R = some (if w.getD 0 [] = s_post ∧ w.length = 4 ∧ nameP (w.getD 2 []) = true then postP i w else failP) := by
    intro a _ R h1 h2
    by_cases hc : w.getD 0 [] = s_post ∧ w.length = 4
    · rw [h1 hc, hname, bind_some_eq, rc0_yes k 0 0 [] 0 w i _ hw hc.2]
      by_cases hn : nameP (w.getD 2 []) = true
      · rw [if_pos hn, if_pos ⟨hc.1, hc.2, hn⟩]
      · rw [if_neg hn, if_neg (fun q => hn q.2.2)]
    · rw [h2 hc, if_neg fun q => hc ⟨q.1, q.2.1⟩]
  have e2 : ((w.length : Int) = 2) = (w.length = 2) := propext ⟨fun h => by omega, fun h => by omega⟩
  have e4 : ((w.length : Int) = 4) = (w.length = 4) := propext ⟨fun h => by omega, fun h => by omega⟩
  simp only [e2, e4, show (2 : Int).toNat = 2 from rfl]
  by_cases hA : w.getD 0 [] = s_start
  · obtain ⟨nB, nC⟩ := s_ne1 hA
    by_cases hlen : w.length = 2
    · simp only [eq_true hA, eq_true hlen, if_true, true_and]
    · simp only [eq_true hA, eq_false hlen, eq_false nB, eq_false nC, if_true, if_false, false_and, and_false]
      rfl
  · by_cases hB : w.getD 0 [] = s_stop
    · have nC := s_ne2 hB
      by_cases hlen : w.length = 2
      · simp only [eq_false hA, eq_true hB, eq_true hlen, if_true, if_false, true_and, false_and]
      · simp only [eq_false hA, eq_true hB, eq_false hlen, eq_false nC, if_true, if_false, false_and, and_false]
        rfl
    · simp only [eq_false hA, eq_false hB, if_false, false_and]
      refine post _ rfl _ (fun q => ?_) fun q => ?_
      · rw [if_pos q.1, if_pos q.2, if_pos (by decide), if_pos (by omega)]
      · by_cases hC : w.getD 0 [] = s_post
        · rw [if_pos hC, if_neg (fun h => q ⟨hC, h⟩)]; rfl
        · rw [if_neg hC]; rfl
theorem lc0_eq (k : Nat) (a : Int) (b c d) (ins ch : List (List UInt8)) (x y : Int) (z : List UInt8) (t : Int) (w : List (List UInt8)) (K o : Int) (e : List UInt8) (m : Int) (hi : ins.length < 1000000) (h2 : 2 ≤ w.length) :
    script_Parse_c0 (k + 1) a b c d ins ch x y z t w K o e m = some (if idxP ins (w.getD 1 []) 0 < 0 then failP else (api_Op.mk K (idxP ins (w.getD 1 []) 0) (api_Msg.mk e m), 0)) := by
  simp only [script_Parse_c0]
  rw [if_pos (by decide), if_pos (by omega), show (1 : Int).toNat = 1 from rfl, Index_eq _ _ hi, bind_some_eq]
  by_cases h : idxP ins (w.getD 1 []) 0 < 0
  · rw [if_pos h, if_pos h]; rfl
  · rw [if_neg h, if_neg h]
theorem lc1_eq (k : Nat) (a : Int) (b c d) (ins ch : List (List UInt8)) (x y : Int) (z : List UInt8) (t : Int) (w : List (List UInt8)) (o : Int) (e : List UInt8) (m : Int) (f : Bool) (hi : ins.length < 1000000) (hw : ∀ x ∈ w, x.length < 1000000) (h4 : f = true → w.length = 4) :
    script_Parse_c1 (k + 2) a b c d ins ch x y z t w 0 o e m f = some (if f = true then (if idxP ins (w.getD 1 []) 0 < 0 then failP else postP (idxP ins (w.getD 1 []) 0) w) else failP) := by
  cases f with
  | false => rfl
  | true =>
    have h4 := h4 rfl
    simp only [script_Parse_c1, cond_true]
    rw [if_pos (by decide), if_pos (by omega), show (3 : Int).toNat = 3 from rfl, show (2 : Int).toNat = 2 from rfl]
    have hlen : (w.getD 3 []).length ≤ 281474976710656 := Nat.le_trans (getD_len (N := 999999) (fun x hx => by have := hw x hx; omega) 3) (by decide)
    unfold p_ParseInt
    rw [if_pos ⟨hlen, rfl, rfl⟩, bind_some_eq]
    unfold postP
    cases hp : Lib.parseIntB 64 (w.getD 3 []) with
    | ok v =>
      have hv := parse_range _ v hp
      dsimp only
      rw [Bool.not_true, cond_false]
      unfold p_FormatInt
      rw [if_pos ⟨rfl, hv⟩, bind_some_eq, if_pos (by decide), if_pos (by omega)]
      by_cases he : Lib.itoa v = w.getD 3 []
      · have hn := (numP_iff _ v).2 ⟨hv, he⟩
        rw [if_neg (fun q => q he), if_pos (by decide), if_pos (by omega), lc0_eq k a b c d ins ch x y z t w 3 o _ v hi (by omega), hn]
        simp only [if_true]
      · have hn : numP (w.getD 3 []) = none := by
          unfold numP
          rw [hp]
          dsimp only
          rw [if_neg he]
        rw [if_pos he, hn]
        simp only [ite_self, if_true]
        rfl
    | range =>
      have hn : numP (w.getD 3 []) = none := by unfold numP; rw [hp]
      rw [hn]
      dsimp only
      simp only [ite_self, if_true]
      rfl
    | _ =>
      have hn : numP (w.getD 3 []) = none := by unfold numP; rw [hp]
      rw [hn]
      dsimp only
      simp only [ite_self, if_true]
      rfl
theorem lparse_eq (n : api_Net) (line : List UInt8) (hl : line.length < 900000) (hi : n.Insts.length < 1000000) : script_Parse n line = some (parseP n.Insts line) := lim_eq 3 fun k hk => by
  obtain ⟨k, rfl⟩ : ∃ j, k = j + 2 := ⟨k - 2, by omega⟩
  have hw : ∀ x ∈ wordsP line, x.length < 1000000 := fun x hx => by have := (wordsP_len line).1 x hx; omega
  show script_Parse_f (k + 2) n line = _
  unfold script_Parse_f parseP
  rw [show p_Split line s_v = some (wordsP line) from if_pos ⟨by omega, rfl⟩, bind_some_eq]
  generalize wordsP line = w at hw
  by_cases ht : line = s_tick
  · rw [if_pos ht, if_pos ht]
  rw [if_neg ht, if_neg ht]
  by_cases hr : line = s_run
  · rw [if_pos hr, if_pos hr]
  rw [if_neg hr, if_neg hr]
  have e2 : ((w.length : Int) = 2) = (w.length = 2) := propext ⟨fun h => by omega, fun h => by omega⟩
  have e4 : ((w.length : Int) = 4) = (w.length = 4) := propext ⟨fun h => by omega, fun h => by omega⟩
  have pt : (0 : Int) ≤ 0 := by decide
  have p2 : (0 : Int) ≤ 2 := by decide
  have hname := lname_eq (w.getD 2 []) (by have := getD_len (N := 999999) (fun x hx => by have := hw x hx; omega) 2 (w := w); omega)
  simp only [e2, e4, if_pos pt, if_pos p2, show (0 : Int).toNat = 0 from rfl, show (2 : Int).toNat = 2 from rfl, hname, bind_some_eq]
  have no : ∀ o e m, script_Parse_c1 (k + 2) n.Age n.Tables n.Parts n.Lines n.Insts n.Chans 0 0 [] 0 w 0 o e m false = some failP := fun _ _ _ => rfl
  simp only [no]
  by_cases h2 : w.length = 2
  · have p0 : (0 : Int) < (w.length : Int) := by omega
    have n4 : ¬ w.length = 4 := by omega
    simp only [if_pos h2, if_pos p0, if_neg n4]
    rw [if_neg (show ¬ w.length < 2 by omega)]
    rw [lc0_eq (k + 1) _ _ _ _ _ _ _ _ _ _ w 1 _ _ _ hi (by omega), lc0_eq (k + 1) _ _ _ _ _ _ _ _ _ _ w 2 _ _ _ hi (by omega)]
    unfold wordP
    by_cases hneg : idxP n.Insts (w.getD 1 []) 0 < 0
    · simp only [if_pos hneg, ite_self]
    · simp only [if_neg hneg, h2, n4, and_true, true_and, false_and, and_false, if_false]
      by_cases hA : w.getD 0 [] = s_start
      · rw [if_pos hA, if_pos hA]
      · rw [if_neg hA, if_neg hA]
        by_cases hB : w.getD 0 [] = s_stop
        · rw [if_pos hB, if_pos hB]
        · rw [if_neg hB, if_neg hB]
          simp
  · simp only [if_neg h2]
    by_cases h4 : w.length = 4
    · have p0 : (0 : Int) < (w.length : Int) := by omega
      have p3 : (2 : Int) < (w.length : Int) := by omega
      simp only [if_pos h4, if_pos p0, if_pos p3]
      rw [lc1_eq k _ _ _ _ _ _ _ _ _ _ w _ _ _ _ hi hw (fun _ => h4)]
      rw [if_neg (show ¬ w.length < 2 by omega)]
      unfold wordP
      by_cases hneg : idxP n.Insts (w.getD 1 []) 0 < 0
      · simp only [if_pos hneg, ite_self]
      · simp only [if_neg hneg, h2, h4, and_true, true_and, false_and, and_false, if_false]
        by_cases hC : w.getD 0 [] = s_post
        · have nA : ¬ w.getD 0 [] = s_start := fun q => (s_ne1 q).2 hC
          have nB : ¬ w.getD 0 [] = s_stop := fun q => s_ne2 q hC
          simp only [eq_true hC, true_and, if_true]
          by_cases hn : nameP (w.getD 2 []) = true
          · simp only [hn, if_true, show (4 : Nat) = 2 ↔ False from by decide, and_false, if_false]
          · simp only [hn, if_false, show (4 : Nat) = 2 ↔ False from by decide, and_false]
        · simp only [eq_false hC, false_and, if_false, show (4 : Nat) = 2 ↔ False from by decide, and_false]
    · simp only [if_neg h4]
      by_cases hlt : w.length < 2
      · rw [if_pos hlt]
      · rw [if_neg hlt]
        unfold wordP
        simp only [h2, h4, and_false, false_and, if_false, ite_self]
end Go.Sy.Sc
/-! script: the chapter's examples; ScriptParses. -/
namespace Go.Sy.Sc
open Go.Sy
abbrev net0 : api_Net := api_Net.mk 1 [api_Table.mk s_c 2 9 [] [] [] [api_Node.mk 2 (-1) 1 1 (-1) (-1) [], api_Node.mk 1 0 1 (-1) (-1) (-1) s_x] [] []] [api_Part.mk 0 1 1 0 [] [], api_Part.mk 0 1 0 0 [] []] [] [s_a, s_b2] []
theorem small_eq : law34_small = some net0 := rfl
theorem itoa_d (d : Nat) (h : d < 10) : Lib.itoa (d : Int) = [UInt8.ofNat (48 + d)] := by rw [Lib.itoa_nonneg, dec_small h]
theorem num_3 : numP [45, 51] = some (-3) := (numP_iff _ _).2 ⟨⟨by decide, by decide⟩, by rw [show (-3 : Int) = -((3 : Nat) : Int) from rfl, Lib.itoa_neg 3 (by decide), dec_small (by decide)]; rfl⟩
theorem num_03 : numP [48, 51] = none := by
  cases h : numP [48, 51] with
  | none => rfl
  | some v =>
    exfalso
    obtain ⟨hv, h⟩ := (numP_iff _ _).1 h
    have h3 : Lib.parseIntB 64 [48, 51] = .ok 3 := by decide +kernel
    rw [← h, parse_itoa v hv.1 hv.2] at h3
    cases h3
    rw [show (3 : Int) = ((3 : Nat) : Int) from rfl, itoa_d 3 (by decide)] at h
    exact absurd h (by decide)
theorem words1 : wordsP s_post_a_go_3 = [s_post, s_a, s_go, [45, 51]] := by decide +kernel
theorem words2 : wordsP s_post_a_go_03 = [s_post, s_a, s_go, [48, 51]] := by decide +kernel
theorem words3 : wordsP (s_stop_ ++ s_b2) = [s_stop, s_b2] := by decide +kernel
theorem name_go : nameP s_go = true := by decide +kernel
theorem ex1 : parseP net0.Insts s_post_a_go_3 = (api_Op.mk 3 0 (api_Msg.mk s_go (-3)), 0) := by
  unfold parseP
  rw [if_neg (by decide), if_neg (by decide), words1, if_neg (by decide), if_neg (by decide)]
  unfold wordP
  rw [if_neg (by decide), if_neg (by decide), if_pos ⟨rfl, rfl, name_go⟩]
  unfold postP
  rw [show ([s_post, s_a, s_go, [45, 51]] : List (List UInt8)).getD 3 [] = [45, 51] from rfl, num_3]
  rfl
theorem ex2 : parseP net0.Insts s_post_a_go_03 = failP := by
  unfold parseP
  rw [if_neg (by decide), if_neg (by decide), words2, if_neg (by decide), if_neg (by decide)]
  unfold wordP
  rw [if_neg (by decide), if_neg (by decide), if_pos ⟨rfl, rfl, name_go⟩]
  unfold postP
  rw [show ([s_post, s_a, s_go, [48, 51]] : List (List UInt8)).getD 3 [] = [48, 51] from rfl, num_03]
theorem ex3 : parseP net0.Insts (s_stop_ ++ s_b2) = (api_Op.mk 2 1 (api_Msg.mk [] 0), 0) := by
  unfold parseP
  rw [if_neg (by decide), if_neg (by decide), words3, if_neg (by decide), if_neg (by decide)]
  unfold wordP
  rw [if_neg (by decide), if_pos ⟨rfl, rfl⟩]
  rfl
theorem print_ex : script_Print net0 (api_Op.mk 2 1 (api_Msg.mk [] 0)) = some (s_stop_ ++ s_b2, 0) := lim_eq 3 fun k hk => by
  obtain ⟨k, rfl⟩ : ∃ j, k = j + 3 := ⟨k - 3, by omega⟩
  show script_Print_f (k + 3) net0 (api_Op.mk 2 1 (api_Msg.mk [] 0)) = _
  unfold script_Print_f
  rw [if_pos (by decide), if_pos (by decide), if_pos (by decide), if_pos (by decide)]
  simp only [script_Print_c0]
  rw [if_neg (by decide), if_pos (by decide), if_pos (by decide)]
  simp only [script_Print_c1]
  rw [show (net0.Insts.getD (1 : Int).toNat []) = s_b2 from rfl, show api_Net.mk net0.Age net0.Tables net0.Parts net0.Lines net0.Insts net0.Chans = net0 from rfl, lparse_eq net0 _ (by decide) (by decide), ex3, bind_some_eq, if_neg (by decide), if_neg (by decide)]
theorem table_ex : script_table net0 0 = some (api_Table.mk s_c 2 9 [] [] [] [api_Node.mk 2 (-1) 1 1 (-1) (-1) [], api_Node.mk 1 0 1 (-1) (-1) (-1) s_x] [] []) := lim_eq 2 fun k hk => by
  obtain ⟨k, rfl⟩ : ∃ j, k = j + 2 := ⟨k - 2, by omega⟩
  rfl
theorem where_ex : script_Where net0 0 (api_Life.mk [0, 1] [] []) = some (s_v_in_ ++ s_x) := lim_eq 4 fun k hk => by
  obtain ⟨k, rfl⟩ : ∃ j, k = j + 1 + 1 + 1 + 1 := ⟨k - 4, by omega⟩
  show script_Where_l0 (k + 1 + 1 + 1 + 1) 0 net0.Age net0.Tables net0.Parts net0.Lines net0.Insts net0.Chans [0, 1] [] [] [] [] [0, 1] 2 0 = _
  have w1 : w64 (0 + 1) = 1 := by decide
  have w2 : w64 (1 + 1) = 2 := by decide
  rw [script_Where_l0, if_pos (by decide), if_pos (by decide), if_pos (by decide), show api_Net.mk net0.Age net0.Tables net0.Parts net0.Lines net0.Insts net0.Chans = net0 from rfl, table_ex, bind_some_eq, if_neg (by decide), w1]
  rw [script_Where_l0, if_pos (by decide), if_pos (by decide), if_pos (by decide), show api_Net.mk net0.Age net0.Tables net0.Parts net0.Lines net0.Insts net0.Chans = net0 from rfl, table_ex, bind_some_eq, if_pos (by decide), if_pos (by decide), if_pos (by decide), if_pos (by decide), if_pos (by decide), w2]
  rw [script_Where_l0, if_neg (by decide), script_Where_l1, if_neg (by decide)]
  rfl
theorem num1 : script_number 1 = some [49] := by
  unfold script_number p_Itoa
  rw [if_pos (by decide), bind_some_eq, show (1 : Int) = ((1 : Nat) : Int) from rfl, itoa_d 1 (by decide)]
  rfl
abbrev rec0 : api_Rec := api_Rec.mk 1 0 0 0 (api_Msg.mk [] 0) [] [0, 1] [] 1 [] []
theorem tail_ex : script_tail net0 rec0 = some (((s_v_in_ ++ s_x) ++ s_cost) ++ [49]) := lim_eq 3 fun k hk => by
  obtain ⟨k, rfl⟩ : ∃ j, k = j + 3 := ⟨k - 3, by omega⟩
  show script_tail_f (k + 3) net0 rec0 = _
  unfold script_tail_f
  rw [show script_Where net0 rec0.Inst (api_Life.mk rec0.Conf rec0.Vars []) = some (s_v_in_ ++ s_x) from where_ex, bind_some_eq, if_pos (by decide), show script_number rec0.Cost = some [49] from num1, bind_some_eq, if_pos (by decide)]
  rfl
theorem tell_ex : script_Tell net0 rec0 = some s_started_a_in_x_cost_1 := lim_eq 1 fun k hk => by
  show script_Tell_f k net0 rec0 = _
  unfold script_Tell_f
  rw [show script_name net0.Insts rec0.Inst = some (s_v ++ s_a) from rfl, bind_some_eq, if_pos rfl, if_pos (by decide), tail_ex, bind_some_eq, if_pos (by decide)]
  rfl
theorem known_eq : law34_known = some true := by
  unfold law34_known
  rw [small_eq, bind_some_eq, lparse_eq net0 _ (by decide) (by decide), bind_some_eq, lparse_eq net0 _ (by decide) (by decide), bind_some_eq, print_ex, bind_some_eq, tell_ex, bind_some_eq, ex1, ex2]
  rfl
end Go.Sy.Sc
/-! script: ScriptParses. -/
namespace Go.Sy.Sc
open Go.Sy
theorem wordsP_at (l m : List UInt8) (h : 32 ∉ l) : wordsP (l ++ 32 :: m) = l :: wordsP m := by
  rw [wordsP_skip l _ h]
  simp [wordsP]
theorem wordsP_one (l : List UInt8) (h : 32 ∉ l) : wordsP l = [l] := by
  have := wordsP_skip l [] h
  rw [List.append_nil] at this
  rw [this]
  simp [wordsP]
theorem itoa_32 (v : Int) : (32 : UInt8) ∉ Lib.itoa v := by
  by_cases h : v < 0
  · obtain ⟨u, rfl⟩ : ∃ u : Nat, v = -(u : Int) := ⟨v.natAbs, by omega⟩
    rw [Lib.itoa_neg u (by omega), List.mem_cons]
    rintro (q | q)
    · exact absurd q (by decide)
    · have := dec_digits _ _ (Nat.le_refl _) _ q
      exact absurd this (by decide)
  · obtain ⟨u, rfl⟩ : ∃ u : Nat, v = (u : Int) := ⟨v.natAbs, by omega⟩
    rw [Lib.itoa_nonneg]
    intro q
    have := dec_digits _ _ (Nat.le_refl _) _ q
    exact absurd this (by decide)
theorem itoa_len (v : Int) (h : in64 v) : (Lib.itoa v).length ≤ 20 := by
  by_cases hn : v < 0
  · obtain ⟨u, rfl⟩ : ∃ u : Nat, v = -(u : Int) := ⟨v.natAbs, by omega⟩
    rw [Lib.itoa_neg u (by omega), List.length_cons]
    have := dec_len 18 u (by have := h.1; omega)
    omega
  · obtain ⟨u, rfl⟩ : ∃ u : Nat, v = (u : Int) := ⟨v.natAbs, by omega⟩
    rw [Lib.itoa_nonneg]
    have := dec_len 18 u (by have := h.2; omega)
    omega
theorem words_post (v : Int) : wordsP (s_post_a_go ++ Lib.itoa v) = [s_post, s_a, s_go, Lib.itoa v] := by
  rw [show s_post_a_go ++ Lib.itoa v = s_post ++ 32 :: (s_a ++ 32 :: (s_go ++ 32 :: Lib.itoa v)) from rfl, wordsP_at _ _ (by decide), wordsP_at _ _ (by decide), wordsP_at _ _ (by decide), wordsP_one _ (itoa_32 v)]
theorem parse_post (v : Int) (h : in64 v) : parseP net0.Insts (s_post_a_go ++ Lib.itoa v) = (api_Op.mk 3 0 (api_Msg.mk s_go v), 0) := by
  have h1 : ∀ x : List UInt8, ¬ s_post_a_go ++ x = s_tick := fun x q => by
    have := congrArg List.length q
    rw [List.length_append] at this
    have h2 : s_post_a_go.length = 10 := rfl
    have h3 : s_tick.length = 4 := rfl
    omega
  have h2 : ∀ x : List UInt8, ¬ s_post_a_go ++ x = s_run := fun x q => by
    have := congrArg List.length q
    rw [List.length_append] at this
    have h2 : s_post_a_go.length = 10 := rfl
    have h3 : s_run.length = 3 := rfl
    omega
  unfold parseP
  rw [if_neg (h1 _), if_neg (h2 _), words_post]
  rw [if_neg (show ¬ List.length [s_post, s_a, s_go, Lib.itoa v] < 2 by simp)]
  rw [if_neg (show ¬ idxP net0.Insts (List.getD [s_post, s_a, s_go, Lib.itoa v] 1 []) 0 < 0 from (by decide : ¬ idxP net0.Insts s_a 0 < 0))]
  unfold wordP
  rw [if_neg (fun q => absurd q.1 (by decide : ¬ s_post = s_start)), if_neg (fun q => absurd q.1 (by decide : ¬ s_post = s_stop)), if_pos ⟨rfl, rfl, name_go⟩]
  unfold postP
  rw [show List.getD [s_post, s_a, s_go, Lib.itoa v] 3 [] = Lib.itoa v from rfl, (numP_iff _ v).2 ⟨h, rfl⟩]
  rfl
theorem l1_run (num : Int) (hn : in64 num) (t : List UInt8) (ht : t = s_post_a_go ++ Lib.itoa num) (x : List UInt8 × List UInt8 × List UInt8) (hx : ∀ y ∈ [x.1, x.2.1, x.2.2], y.length < 900000) : ∀ m n, n + m = 3 → ∀ k, m + 1 ≤ k →
    law34_ScriptParses_l1 k num net0.Age net0.Tables net0.Parts net0.Lines net0.Insts net0.Chans t x ((n : Nat) : Int) = some true := by
  intro m
  induction m with
  | zero =>
    intro n h k hk
    obtain ⟨k, rfl⟩ : ∃ j, k = j + 1 := ⟨k - 1, by omega⟩
    subst ht
    rw [law34_ScriptParses_l1, if_neg (by omega), show api_Net.mk net0.Age net0.Tables net0.Parts net0.Lines net0.Insts net0.Chans = net0 from rfl, lparse_eq net0 _ (by
      rw [List.length_append]
      have := itoa_len num hn
      have h2 : s_post_a_go.length = 10 := rfl
      omega) (by decide), bind_some_eq, parse_post num hn, if_pos rfl, if_pos rfl, known_eq]
    rfl
  | succ m ih =>
    intro n h k hk
    obtain ⟨k, rfl⟩ : ∃ j, k = j + 1 := ⟨k - 1, by omega⟩
    have e : w64 ((n : Int) + 1) = ((n + 1 : Nat) : Int) := by rw [w64_in (by omega) (by omega)]; omega
    have h3 : List.length [x.1, x.2.1, x.2.2] = 3 := rfl
    have hlen : (List.getD [x.1, x.2.1, x.2.2] n []).length < 900000 := by
      rw [getD_lt _ (show n < List.length [x.1, x.2.1, x.2.2] by omega)]
      exact hx _ (List.getElem_mem _)
    rw [law34_ScriptParses_l1, if_pos (by omega), if_pos (by omega), if_pos (by rw [h3]; omega), show api_Net.mk net0.Age net0.Tables net0.Parts net0.Lines net0.Insts net0.Chans = net0 from rfl, Int.toNat_natCast, lparse_eq net0 _ hlen (by decide), bind_some_eq, rparse_eq net0 _ hlen (by decide), bind_some_eq]
    rw [if_neg (fun q => q ⟨rfl, rfl, rfl, rfl⟩), if_neg (fun q => q rfl), e]
    exact ih (n + 1) (by omega) k (by omega)
abbrev allL : List (List UInt8) := [arr_0.1, arr_0.2.1, arr_0.2.2.1, arr_0.2.2.2.1, arr_0.2.2.2.2.1, arr_0.2.2.2.2.2.1, arr_0.2.2.2.2.2.2.1, arr_0.2.2.2.2.2.2.2.1, arr_0.2.2.2.2.2.2.2.2.1, arr_0.2.2.2.2.2.2.2.2.2.1, arr_0.2.2.2.2.2.2.2.2.2.2.1, arr_0.2.2.2.2.2.2.2.2.2.2.2.1, arr_0.2.2.2.2.2.2.2.2.2.2.2.2.1, arr_0.2.2.2.2.2.2.2.2.2.2.2.2.2.1, arr_0.2.2.2.2.2.2.2.2.2.2.2.2.2.2.1, arr_0.2.2.2.2.2.2.2.2.2.2.2.2.2.2.2]
theorem all_len (j : Nat) (hj : j < 16) : (allL.getD j []).length ≤ 20 := by
  have : ∀ j, j < 16 → (allL.getD j []).length ≤ 20 := by decide +kernel
  exact this j hj
theorem add_small {a b c : Nat} (h : a ≤ c) (h2 : c ≤ 1000) (h' : b ≤ 20) : a + b ≤ 9223372036854775807 := by omega
theorem add_to {a b c : Nat} (h : a ≤ c) (h' : b ≤ 20) : a + b ≤ c + 20 := by omega
theorem l0_run (line : List UInt8) (words : List Int) (num : Int) (hline : line.length ≤ 200) (hw8 : words.length ≤ 8) (hn : in64 num) (hw : ∀ i, 0 ≤ words.getD i 0 ∧ words.getD i 0 < 256) : ∀ m n s, n + m = words.length → s.length ≤ 21 * n → ∀ k, m + 5 ≤ k →
    law34_ScriptParses_l0 k line words num net0.Age net0.Tables net0.Parts net0.Lines net0.Insts net0.Chans arr_0 s ((n : Nat) : Int) = some true := by
  intro m
  induction m with
  | zero =>
    intro n s h hs k hk
    obtain ⟨k, rfl⟩ : ∃ j, k = j + 1 := ⟨k - 1, by omega⟩
    have hil := itoa_len num hn
    have h2 : s_post_a_go.length = 10 := rfl
    rw [law34_ScriptParses_l0, if_neg (by omega), digits_eq num hn.1 hn.2, bind_some_eq, if_pos (by omega)]
    refine l1_run num hn _ rfl _ (fun y hy => ?_) 3 0 rfl k (by omega)
    simp only [List.mem_cons, List.not_mem_nil, or_false] at hy
    rcases hy with rfl | rfl | rfl
    · omega
    · omega
    · rw [List.length_append]; omega
  | succ m ih =>
    intro n s h hs k hk
    obtain ⟨k, rfl⟩ : ∃ j, k = j + 1 := ⟨k - 1, by omega⟩
    have e : w64 ((n : Int) + 1) = ((n + 1 : Nat) : Int) := by rw [w64_in (by omega) (by omega)]; omega
    have hwn := hw n
    have hm : Int.tmod (words.getD n 0) 16 = (((words.getD n 0).toNat % 16 : Nat) : Int) := by
      rw [Int.tmod_eq_emod_of_nonneg hwn.1]; omega
    have hlt : (words.getD n 0).toNat % 16 < 16 := Nat.mod_lt _ (by decide)
    have hal := all_len _ hlt
    have h16 : allL.length = 16 := rfl
    have hv : s_v.length = 1 := rfl
    rw [law34_ScriptParses_l0, if_pos (by omega)]
    by_cases h0 : (0 : Int) < (n : Int)
    · rw [if_pos h0, if_pos (by omega), if_pos (by omega), if_pos (by omega), if_pos (by decide), Int.toNat_natCast, hm, if_pos (by omega), if_pos (by rw [h16]; omega), Int.toNat_natCast, if_pos (add_small (c := 21 * n + 1) (by rw [List.length_append]; omega) (by omega) hal), e]
      refine ih (n + 1) _ (by omega) ?_ k (by omega)
      rw [List.length_append]
      exact Nat.le_trans (add_to (c := 21 * n + 1) (by rw [List.length_append]; omega) hal) (by omega)
    · rw [if_neg h0, if_pos (by omega), if_pos (by omega), if_pos (by decide), Int.toNat_natCast, hm, if_pos (by omega), if_pos (by rw [h16]; omega), Int.toNat_natCast, if_pos (add_small (c := 21 * n) hs (by omega) hal), e]
      refine ih (n + 1) _ (by omega) ?_ k (by omega)
      rw [List.length_append]
      exact Nat.le_trans (add_to (c := 21 * n) hs hal) (by omega)
theorem parses_true (line : List UInt8) (words : List Int) (num : Int) (hn : in64 num) (hw : ∀ i, 0 ≤ words.getD i 0 ∧ words.getD i 0 < 256) : law34_ScriptParses line words num = some true := lim_eq 20 fun k hk => by
  show law34_ScriptParses_f k line words num = _
  unfold law34_ScriptParses_f
  by_cases h1 : 200 < (line.length : Int)
  · rw [if_pos h1, known_eq]; rfl
  rw [if_neg h1]
  by_cases h2 : 8 < (words.length : Int)
  · rw [if_pos h2, known_eq]; rfl
  rw [if_neg h2, small_eq, bind_some_eq]
  exact l0_run line words num (by omega) (by omega) hn hw words.length 0 [] (by omega) (by simp) k (by omega)
end Go.Sy.Sc
/-! script: ScriptBack. -/
namespace Go.Sy.Sc
open Go.Sy
def instP (ins : List (List UInt8)) (i : Int) : List UInt8 := if 0 ≤ i ∧ i < (ins.length : Int) then ins.getD i.toNat [] else []
def lineP (a : List UInt8) (o : api_Op) : List UInt8 :=
  if o.Kind = 1 then s_start_ ++ a else if o.Kind = 2 then s_stop_ ++ a else
  if o.Kind = 3 then (s_post_ ++ a) ++ (((s_v ++ o.Msg.Event) ++ s_v) ++ Lib.itoa o.Msg.N) else
  if o.Kind = 4 then s_tick else if o.Kind = 5 then s_run else []
def backP (ins : List (List UInt8)) (o : api_Op) (line : List UInt8) : List UInt8 × Int :=
  if (parseP ins line).2 ≠ 0 then ([], 1) else
  if ¬ ((parseP ins line).1.Kind = o.Kind ∧ (parseP ins line).1.Inst = o.Inst ∧ (parseP ins line).1.Msg.Event = o.Msg.Event ∧ (parseP ins line).1.Msg.N = o.Msg.N) then ([], 1) else (line, 0)
def printP (ins : List (List UInt8)) (o : api_Op) : List UInt8 × Int := backP ins o (lineP (instP ins o.Inst) o)
theorem inst_len (i : Int) : (instP net0.Insts i).length ≤ 2 := by
  unfold instP
  split
  · exact getD_len (N := 2) (by decide) _
  · simp
theorem line_len (o : api_Op) (a : List UInt8) (ha : a.length ≤ 2) (he : o.Msg.Event.length ≤ 100) (hN : in64 o.Msg.N) : (lineP a o).length < 900000 := by
  have h1 := itoa_len o.Msg.N hN
  have k1 : s_start_.length = 6 := rfl
  have k2 : s_stop_.length = 5 := rfl
  have k3 : s_post_.length = 5 := rfl
  have k4 : s_v.length = 1 := rfl
  unfold lineP
  split
  · rw [List.length_append]; omega
  · split
    · rw [List.length_append]; omega
    · split
      · simp only [List.length_append]; omega
      · split
        · decide
        · split
          · decide
          · decide
theorem lc1P (k : Nat) (o : api_Op) (line : List UInt8) (hl : line.length < 900000) : script_Print_c1 (k + 1) net0.Age net0.Tables net0.Parts net0.Lines net0.Insts net0.Chans o.Kind o.Inst o.Msg.Event o.Msg.N line = some (backP net0.Insts o line) := by
  simp only [script_Print_c1]
  rw [show api_Net.mk net0.Age net0.Tables net0.Parts net0.Lines net0.Insts net0.Chans = net0 from rfl, lparse_eq net0 _ hl (by decide), bind_some_eq]
  unfold backP
  split
  · rfl
  · split <;> rfl
theorem rc1P (k : Nat) (o : api_Op) (line : List UInt8) (hl : line.length < 900000) : ref34_Print_c1 (k + 1) net0.Age net0.Tables net0.Parts net0.Lines net0.Insts net0.Chans o.Kind o.Inst o.Msg.Event o.Msg.N line = some (backP net0.Insts o line) := by
  simp only [ref34_Print_c1]
  rw [show api_Net.mk net0.Age net0.Tables net0.Parts net0.Lines net0.Insts net0.Chans = net0 from rfl, rparse_eq net0 _ hl (by decide), bind_some_eq]
  unfold backP
  split
  · rfl
  · split <;> rfl
theorem lc0P (k : Nat) (o : api_Op) (a : List UInt8) (ha : a.length ≤ 2) (he : o.Msg.Event.length ≤ 100) (hN : in64 o.Msg.N) : script_Print_c0 (k + 2) net0.Age net0.Tables net0.Parts net0.Lines net0.Insts net0.Chans o.Kind o.Inst o.Msg.Event o.Msg.N a = some (backP net0.Insts o (lineP a o)) := by
  have hll := line_len o a ha he hN
  have h1 := itoa_len o.Msg.N hN
  have k1 : s_start_.length = 6 := rfl
  have k2 : s_stop_.length = 5 := rfl
  have k3 : s_post_.length = 5 := rfl
  have k4 : s_v.length = 1 := rfl
  rw [script_Print_c0]
  by_cases c1 : o.Kind = 1
  · have : lineP a o = s_start_ ++ a := by unfold lineP; rw [if_pos c1]
    rw [if_pos c1, if_pos (by omega), ← this]
    exact lc1P k o _ hll
  by_cases c2 : o.Kind = 2
  · have : lineP a o = s_stop_ ++ a := by unfold lineP; rw [if_neg c1, if_pos c2]
    rw [if_neg c1, if_pos c2, if_pos (by omega), ← this]
    exact lc1P k o _ hll
  by_cases c3 : o.Kind = 3
  · have : lineP a o = (s_post_ ++ a) ++ (((s_v ++ o.Msg.Event) ++ s_v) ++ Lib.itoa o.Msg.N) := by unfold lineP; rw [if_neg c1, if_neg c2, if_pos c3]
    rw [if_neg c1, if_neg c2, if_pos c3, if_pos (by omega)]
    have hm : script_message (api_Msg.mk o.Msg.Event o.Msg.N) = some (((s_v ++ o.Msg.Event) ++ s_v) ++ Lib.itoa o.Msg.N) := by
      unfold script_message
      rw [if_pos (by show s_v.length + o.Msg.Event.length ≤ _; omega), if_pos (by rw [List.length_append]; show s_v.length + o.Msg.Event.length + s_v.length ≤ _; omega)]
      rw [show p_FormatInt (api_Msg.mk o.Msg.Event o.Msg.N).N 10 = some (Lib.itoa o.Msg.N) from if_pos ⟨rfl, hN.1, hN.2⟩, bind_some_eq, if_pos (by simp only [List.length_append]; show s_v.length + o.Msg.Event.length + s_v.length + _ ≤ _; omega)]
    rw [hm, bind_some_eq, if_pos (by simp only [List.length_append]; omega), ← this]
    exact lc1P k o _ hll
  by_cases c4 : o.Kind = 4
  · have : lineP a o = s_tick := by unfold lineP; rw [if_neg c1, if_neg c2, if_neg c3, if_pos c4]
    rw [if_neg c1, if_neg c2, if_neg c3, if_pos c4, ← this]
    exact lc1P k o _ hll
  by_cases c5 : o.Kind = 5
  · have : lineP a o = s_run := by unfold lineP; rw [if_neg c1, if_neg c2, if_neg c3, if_neg c4, if_pos c5]
    rw [if_neg c1, if_neg c2, if_neg c3, if_neg c4, if_pos c5, ← this]
    exact lc1P k o _ hll
  · have : lineP a o = [] := by unfold lineP; rw [if_neg c1, if_neg c2, if_neg c3, if_neg c4, if_neg c5]
    rw [if_neg c1, if_neg c2, if_neg c3, if_neg c4, if_neg c5]
    rw [this] at hll ⊢
    exact lc1P k o _ hll
theorem rc0P (k : Nat) (o : api_Op) (a : List UInt8) (ha : a.length ≤ 2) (he : o.Msg.Event.length ≤ 100) (hN : in64 o.Msg.N) : ref34_Print_c0 (k + 2) net0.Age net0.Tables net0.Parts net0.Lines net0.Insts net0.Chans o.Kind o.Inst o.Msg.Event o.Msg.N [] a = some (backP net0.Insts o (lineP a o)) := by
  have hll := line_len o a ha he hN
  have h1 := itoa_len o.Msg.N hN
  have k1 : s_start_.length = 6 := rfl
  have k2 : s_stop_.length = 5 := rfl
  have k3 : s_post_.length = 5 := rfl
  have k4 : s_v.length = 1 := rfl
  rw [ref34_Print_c0]
  by_cases c1 : o.Kind = 1
  · have : lineP a o = s_start_ ++ a := by unfold lineP; rw [if_pos c1]
    rw [if_pos c1, if_pos (by omega), ← this]
    exact rc1P k o _ hll
  by_cases c2 : o.Kind = 2
  · have : lineP a o = s_stop_ ++ a := by unfold lineP; rw [if_neg c1, if_pos c2]
    rw [if_neg c1, if_pos c2, if_pos (by omega), ← this]
    exact rc1P k o _ hll
  by_cases c3 : o.Kind = 3
  · have : lineP a o = ((((s_post_ ++ a) ++ s_v) ++ o.Msg.Event) ++ s_v) ++ Lib.itoa o.Msg.N := by unfold lineP; rw [if_neg c1, if_neg c2, if_pos c3]; simp only [List.append_assoc]
    rw [if_neg c1, if_neg c2, if_pos c3, if_pos (by omega), if_pos (by simp only [List.length_append]; omega), if_pos (by simp only [List.length_append]; omega), if_pos (by simp only [List.length_append]; omega), Dec_eq _ hN.1 hN.2, bind_some_eq, if_pos (by simp only [List.length_append]; omega), ← this]
    exact rc1P k o _ hll
  by_cases c4 : o.Kind = 4
  · have : lineP a o = s_tick := by unfold lineP; rw [if_neg c1, if_neg c2, if_neg c3, if_pos c4]
    rw [if_neg c1, if_neg c2, if_neg c3, if_pos c4, ← this]
    exact rc1P k o _ hll
  by_cases c5 : o.Kind = 5
  · have : lineP a o = s_run := by unfold lineP; rw [if_neg c1, if_neg c2, if_neg c3, if_neg c4, if_pos c5]
    rw [if_neg c1, if_neg c2, if_neg c3, if_neg c4, if_pos c5, ← this]
    exact rc1P k o _ hll
  · have : lineP a o = [] := by unfold lineP; rw [if_neg c1, if_neg c2, if_neg c3, if_neg c4, if_neg c5]
    rw [if_neg c1, if_neg c2, if_neg c3, if_neg c4, if_neg c5]
    rw [this] at hll ⊢
    exact rc1P k o _ hll
theorem lPrint_eq (o : api_Op) (he : o.Msg.Event.length ≤ 100) (hN : in64 o.Msg.N) : script_Print net0 o = some (printP net0.Insts o) := lim_eq 2 fun k hk => by
  obtain ⟨k, rfl⟩ : ∃ j, k = j + 2 := ⟨k - 2, by omega⟩
  have hil := inst_len o.Inst
  show script_Print_f (k + 2) net0 o = _
  unfold script_Print_f printP
  by_cases h0 : 0 ≤ o.Inst
  · by_cases h1 : o.Inst < (net0.Insts.length : Int)
    · have : instP net0.Insts o.Inst = net0.Insts.getD o.Inst.toNat [] := if_pos ⟨h0, h1⟩
      rw [if_pos h0, if_pos h1, if_pos h0, if_pos h1, ← this]
      exact lc0P k o _ hil he hN
    · have : instP net0.Insts o.Inst = [] := if_neg (fun q => h1 q.2)
      rw [if_pos h0, if_neg h1, this]
      exact lc0P k o _ (by decide) he hN
  · have : instP net0.Insts o.Inst = [] := if_neg (fun q => h0 q.1)
    rw [if_neg h0, this]
    exact lc0P k o _ (by decide) he hN
theorem rPrint_eq (o : api_Op) (he : o.Msg.Event.length ≤ 100) (hN : in64 o.Msg.N) : ref34_Print net0 o = some (printP net0.Insts o) := lim_eq 2 fun k hk => by
  obtain ⟨k, rfl⟩ : ∃ j, k = j + 2 := ⟨k - 2, by omega⟩
  have hil := inst_len o.Inst
  show ref34_Print_f (k + 2) net0 o = _
  unfold ref34_Print_f printP
  by_cases h0 : 0 ≤ o.Inst
  · by_cases h1 : o.Inst < (net0.Insts.length : Int)
    · have : instP net0.Insts o.Inst = net0.Insts.getD o.Inst.toNat [] := if_pos ⟨h0, h1⟩
      rw [if_pos h0, if_pos h1, if_pos h0, if_pos h1, ← this]
      exact rc0P k o _ hil he hN
    · have : instP net0.Insts o.Inst = [] := if_neg (fun q => h1 q.2)
      rw [if_pos h0, if_neg h1, this]
      exact rc0P k o _ (by decide) he hN
  · have : instP net0.Insts o.Inst = [] := if_neg (fun q => h0 q.1)
    rw [if_neg h0, this]
    exact rc0P k o _ (by decide) he hN
theorem back_ok {ins : List (List UInt8)} {o : api_Op} {a : List UInt8} (h : (backP ins o a).2 = 0) : backP ins o a = (a, 0) ∧ (parseP ins a).2 = 0 ∧ (parseP ins a).1.Kind = o.Kind ∧ (parseP ins a).1.Inst = o.Inst ∧ (parseP ins a).1.Msg.Event = o.Msg.Event ∧ (parseP ins a).1.Msg.N = o.Msg.N := by
  unfold backP at h ⊢
  by_cases h1 : (parseP ins a).2 ≠ 0
  · rw [if_pos h1] at h; exact absurd h (by decide)
  · rw [if_neg h1] at h ⊢
    by_cases h2 : ((parseP ins a).1.Kind = o.Kind ∧ (parseP ins a).1.Inst = o.Inst ∧ (parseP ins a).1.Msg.Event = o.Msg.Event ∧ (parseP ins a).1.Msg.N = o.Msg.N)
    · rw [if_neg (fun q => q h2)]
      exact ⟨rfl, Classical.not_not.1 h1, h2⟩
    · rw [if_pos h2] at h; exact absurd h (by decide)
/-- One of the law's two operations. -/
theorem one_back (o : api_Op) (he : o.Msg.Event.length ≤ 100) (hN : in64 o.Msg.N) (R : Option Bool) :
    ((script_Print net0 o).bind fun r8 => (ref34_Print net0 o).bind fun r9 => if r8.1 ≠ r9.1 then some false else if r8.2 ≠ r9.2 then some false else
      if r8.2 = 0 then (script_Parse net0 r8.1).bind fun r10 => if r10.2 ≠ 0 then some false else if ¬ (r10.1.Kind = o.Kind ∧ r10.1.Inst = o.Inst ∧ r10.1.Msg.Event = o.Msg.Event ∧ r10.1.Msg.N = o.Msg.N) then some false else R else R) = R := by
  rw [lPrint_eq o he hN, bind_some_eq, rPrint_eq o he hN, bind_some_eq, if_neg (fun q => q rfl), if_neg (fun q => q rfl)]
  by_cases h0 : (printP net0.Insts o).2 = 0
  · obtain ⟨h1, h2, h3⟩ := back_ok h0
    have hll := line_len o (instP net0.Insts o.Inst) (inst_len _) he hN
    rw [if_pos h0, show printP net0.Insts o = (lineP (instP net0.Insts o.Inst) o, 0) from h1, lparse_eq net0 _ hll (by decide), bind_some_eq, if_neg (fun q => q h2), if_neg (fun q => q h3)]
  · rw [if_neg h0]
theorem l0_back (x : Int × Int × List UInt8 × Int × Int × Int × List UInt8 × Int) (h1 : x.2.2.1.length ≤ 100) (h2 : in64 x.2.2.2.1) (h3 : x.2.2.2.2.2.2.1.length ≤ 100) (h4 : in64 x.2.2.2.2.2.2.2) (k : Nat) :
    law34_ScriptBack_l0 (k + 1 + 1 + 1) net0.Age net0.Tables net0.Parts net0.Lines net0.Insts net0.Chans x 0 = some true := by
  have w1 : w64 (0 + 1) = 1 := by decide
  have w2 : w64 (1 + 1) = 2 := by decide
  have e0 : api_Net.mk net0.Age net0.Tables net0.Parts net0.Lines net0.Insts net0.Chans = net0 := rfl
  rw [law34_ScriptBack_l0, if_pos (by decide), if_pos rfl, e0, w1]
  rw [one_back (api_Op.mk x.1 x.2.1 (api_Msg.mk x.2.2.1 x.2.2.2.1)) h1 h2]
  rw [law34_ScriptBack_l0, if_pos (by decide), if_neg (by decide), if_pos rfl, e0, w2]
  rw [one_back (api_Op.mk x.2.2.2.2.1 x.2.2.2.2.2.1 (api_Msg.mk x.2.2.2.2.2.2.1 x.2.2.2.2.2.2.2)) h3 h4]
  rw [law34_ScriptBack_l0, if_neg (by decide), known_eq]
  rfl
theorem place_eq (v n : Int) (hv : in64 v) (h0 : 0 < n) (h1 : n < 1000) : ∃ r, ref37_Place v n = some r ∧ 0 ≤ r ∧ r < n := by
  unfold ref37_Place
  rw [if_pos (by omega)]
  have b1 := Int.tmod_lt_of_pos v h0
  have b2 : -n < v.tmod n := by
    have := Int.tmod_lt_of_pos (-v) h0
    rw [Int.neg_tmod] at this
    omega
  by_cases h : v.tmod n < 0
  · rw [if_pos h]
    exact ⟨_, rfl, by rw [w64_in (by omega) (by omega)]; omega, by rw [w64_in (by omega) (by omega)]; omega⟩
  · rw [if_neg h]
    exact ⟨_, rfl, by omega, b1⟩
theorem event_eq (v : Int) (hv : in64 v) : ∃ r, ref37_Event v = some r ∧ r.length ≤ 100 := by
  obtain ⟨q, h1, h2, h3⟩ := place_eq v 8 hv (by decide) (by decide)
  have hl : row_0.length = 8 := rfl
  unfold ref37_Event
  rw [h1, bind_some_eq, if_pos h2, if_pos (by rw [hl]; omega)]
  exact ⟨_, rfl, getD_len (N := 100) (by decide) _⟩
theorem back_true (o : api_Op) (kind k_ : Int) (hN : in64 o.Msg.N) (hk : in64 k_) (hkind : 0 ≤ kind ∧ kind < 256) : law34_ScriptBack o kind k_ = some true := lim_eq 3 fun k hkk => by
  obtain ⟨k, rfl⟩ : ∃ j, k = j + 1 + 1 + 1 := ⟨k - 3, by omega⟩
  show law34_ScriptBack_f (k + 1 + 1 + 1) o kind k_ = _
  unfold law34_ScriptBack_f
  by_cases h60 : 60 < (o.Msg.Event.length : Int)
  · rw [if_pos h60, known_eq]; rfl
  obtain ⟨r3, hr3, _⟩ := place_eq k_ 3 hk (by decide) (by decide)
  obtain ⟨r4, hr4, hlen⟩ := event_eq (w64 (k_.tdiv 3)) (w64_rng _)
  rw [if_neg h60, small_eq, bind_some_eq, if_pos (by decide), hr3, bind_some_eq, if_pos (by decide), hr4, bind_some_eq]
  have z : in64 0 := ⟨by decide, by decide⟩
  have he : o.Msg.Event.length ≤ 100 := by omega
  split
  · split
    · exact l0_back _ he hN (Nat.zero_le _) z k
    · exact l0_back _ he hN (Nat.zero_le _) z k
  · split
    · exact l0_back _ he hN hlen hN k
    · exact l0_back _ he hN hlen hN k
end Go.Sy.Sc
/-! The start of a call: the package variables. -/
namespace Go.Sy.Sc
open Go Go.Sy Go.Proofs Go.Proofs.YtpmooapdlkbjeaaDoor
abbrev L7 : List (String × DataW Unit) := [("math/bits.deBruijn32tab", Rows.laid_math_bits_deBruijn32tab), ("math/bits.deBruijn64tab", Rows.laid_math_bits_deBruijn64tab), ("internal/strconv.uint64pow10", Rows.laid_internal_strconv_uint64pow10), ("unicode/utf8.acceptRanges", Rows.laid_unicode_utf8_acceptRanges), ("strconv.ErrRange", Rows.laid_strconv_ErrRange), ("strconv.ErrSyntax", Rows.laid_strconv_ErrSyntax), ("unicode/utf8.first", Rows.laid_unicode_utf8_first)]
theorem gER : Tryd.prog.globalNamed "strconv.ErrRange" = some 1 := by kernel_rfl
theorem gES : Tryd.prog.globalNamed "strconv.ErrSyntax" = some 0 := by kernel_rfl
theorem gPT : Tryd.prog.globalNamed "internal/strconv.uint64pow10" = some 2 := by kernel_rfl
theorem tER : (Tryd.prog.globals[1]?).map (·.type) = some 68 := by kernel_rfl
theorem tES : (Tryd.prog.globals[0]?).map (·.type) = some 68 := by kernel_rfl
theorem tPT : (Tryd.prog.globals[2]?).map (·.type) = some 133 := by kernel_rfl
theorem maxLen_cell {W : World} (h : W.ShapedOpen Tryd.prog) : ∃ m, W.cell? ⟨3, 0, none⟩ = some (.int .i64 m) :=
  cell_of_shapedOpen_int (t := 3) (zero := #[.int .i64 0]) h (of_decide_eq_true (by kernel_rfl)) (by kernel_rfl) rfl (by kernel_rfl) (by kernel_rfl) Tryd.underlying3
theorem star : "*" ++ "errors.errorString" = "*errors.errorString" := by decide
theorem row141 (u : TypeId) (h : Tryd.prog.typeName? 3 u = some "*errors.errorString") : u = 141 :=
  typeName_ptr_named (nm := "errors.errorString") (by rw [star]; kernel_rfl) (by kernel_rfl) (by decide) u (by rw [star]; exact h)
theorem glob0 {W : World} {M : St} (hM : NoSt M) (hL : laidMetH Tryd.prog L7 W) (hsh : W.ShapedOpen Tryd.prog) : Glob S W M := by
  rw [MakeChecks.laidMetH_plain _ _ _ (by kernel_rfl)] at hL
  have hT : Lib.TabIs Tryd.prog W "internal/strconv.uint64pow10" .u64 Lib.pow10Tab := Lib.tabIs_of_head gPT tPT Tryd.underlying133 Tryd.underlying107 (by kernel_rfl) (by kernel_rfl) hL.tail.tail
  have h4 := hL.tail.tail.tail.tail
  obtain ⟨a0, s0, hv0, -, -, -⟩ := laid_sentinel h4 gER tER Tryd.underlying68 row141 Tryd.underlying141 Tryd.underlying143 rfl rfl Tryd.underlying9 (by kernel_rfl) (by kernel_rfl)
  obtain ⟨a1, s1, hv1, -, -, -⟩ := laid_sentinel h4.tail gES tES Tryd.underlying68 row141 Tryd.underlying141 Tryd.underlying143 rfl rfl Tryd.underlying9 (by kernel_rfl) (by kernel_rfl)
  have c1 := World.var?_cell gER hv0 0
  have c0 := World.var?_cell gES hv1 0
  obtain ⟨m, c3⟩ := maxLen_cell hsh
  have hsz : 3 < W.heap.size := World.block_lt_of_cell? _ _ c3
  refine ⟨fun g hg => ?_, fun g hg => ?_⟩
  · simp only [List.mem_cons, List.not_mem_nil, or_false] at hg
    rcases hg with rfl | rfl | rfl
    · exact ⟨by show 3 < _; omega, hM _ _, _, c3, m, rfl⟩
    · exact ⟨by show 1 < _; omega, hM _ _, _, by simpa using c1, .inr ⟨_, _, rfl⟩⟩
    · exact ⟨by show 0 < _; omega, hM _ _, _, by simpa using c0, .inr ⟨_, _, rfl⟩⟩
  · simp only [List.mem_cons, List.not_mem_nil, or_false] at hg
    subst hg
    refine ⟨by show 2 < _; omega, fun o => hM _ _, ?_⟩
    unfold Lib.TabIs World.var? at hT
    rw [gPT] at hT
    simp only [Option.bind_some] at hT
    split at hT
    · rename_i cs t f hb
      cases hT
      exact ⟨_, hb, t, f, rfl⟩
    · cases hT
end Go.Sy.Sc
namespace Go.Sy.Sc
open Go Go.Sy Go.Proofs Go.Proofs.YtpmooapdlkbjeaaDoor Go.ChangeShapes Go.WideShapes Go.RowKit
/-- A contract under a condition on the memory, the world's shape kept. -/
theorem returns_and_shaped {H : Type} {enc : TypeId × Value → H} {a : Assume} {C : Checked} {os : Os} {f : FuncId} {fn : Func} {s : ChangeSpec} {conds : List PathCond} {apart fresh handsOn again : Bool} {X : World → Array Value → Prop}
    (hX : ∀ (w w' : World) (args : Array Value), w.heap = w'.heap → X w args → X w' args)
    (own : ownKnob C.prog.godebug = none) (started : os.Started) (noInit : C.prog.inits.idxOf? f = none) (hfn : C.prog.funcs[f]? = some fn)
    (witness : ∃ (w : World) (tape : Tape) (i : Input), w.os = os ∧ (w.forCall tape i).Shaped C.prog ∧ i.vars = [] ∧ Input.okWide C.prog (w.forCall tape i) .any w.heap.size f i ∧
      ((s.pre enc C.prog fn conds apart (w.forCall tape i).memory i.args ∧ X (w.forCall tape i).memory i.args) ∧ sizedMet enc C.prog fn (OpenSpec.ofChange s) apart (w.forCall tape i).memory i.args) ∧ a.holds C.prog (lone (Frame.enter C.prog f i.args .normal) [] (w.forCall tape i)))
    (contract : ∀ (W : World) (base : Nat) (args : Array Value) (ds gs : List (DataW H)) (before : List MemPlace),
      (∀ (j : Nat) t v, fn.params[j]? = some t → args[j]? = some v → Value.okWide C.prog W .any base t v) →
      DataW.Whole enc C.prog fn.params.toList s.vars apart W args.toList ds gs before →
      conds.all (PathCond.test C.prog ⟨fn.params.toList, ds, s.plain.varTypes C.prog, gs⟩) = true →
      (DataW.weightsEach C.prog (fn.params.toList ++ s.plain.varTypes C.prog) (ds ++ gs)).all (· ≤ reachBytes) = true → X W args → W.ShapedOpen C.prog →
      a.holds C.prog (lone (Frame.enter C.prog f args .normal) [] W) →
      Calls C.prog f args W fun e W' => ∃ v, e = .returned v ∧ s.post enc C.prog fn apart fresh handsOn again W args v W') :
    ReturnsInHanded a C os f .any (fun w args => (s.pre enc C.prog fn conds apart w args ∧ X w args) ∧ sizedMet enc C.prog fn (OpenSpec.ofChange s) apart w args) (s.post enc C.prog fn apart fresh handsOn again) := by
  refine returnsInHanded_of_calls own started noInit witness ?_
  intro w tape i _ hsh _ hok hpre hholds
  obtain ⟨_, _, _, fn', hfn', _, _, _, _, hval⟩ := hok
  have e : fn' = fn := Option.some.inj (hfn'.symm.trans hfn)
  subst e
  obtain ⟨⟨⟨ds, gs, before, hw, hc⟩, hx⟩, hz⟩ := hpre
  have hw' := DataW.Whole.of_heap (w' := w.forCall tape i) (by rfl) hw
  refine (contract (w.forCall tape i) w.heap.size i.args ds gs before hval hw' hc (hz.weights hw) (hX _ _ _ (by rfl) hx) hsh hholds).mono fun e W' ⟨v, he, hp⟩ => ?_
  subst he
  exact ChangeSpec.post_blind hp
set_option maxRecDepth 100000 in
theorem door_met (os : Os) (args : Array Value) : laidMetH Tryd.prog L7 ((World.laidAll Tryd.prog os L7).forCall (fun _ _ => 0) ⟨#[], args, []⟩).memory := by
  rw [MakeChecks.laidMetH_plain _ _ _ (by kernel_rfl)]
  exact laidMet_laidAll _ (by kernel_rfl) (by kernel_rfl)
end Go.Sy.Sc
