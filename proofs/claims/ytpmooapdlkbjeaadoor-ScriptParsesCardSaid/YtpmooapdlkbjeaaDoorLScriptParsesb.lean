import Derived.Stop.LaidErr
import Derived.Shelf.Vars
import Derived.MakeChecks
import Derived.LaidHandle
import Derived.ChangeSame
import Derived.ChangeVars
import Derived.JoinedOf
import Derived.RowKit
import Derived.HandedShaped
import Derived.LaidMore
import Derived.LaidLaws
import Derived.Lay
import Derived.Test.YtpmooapdlkbjeaaDoorRows
import Derived.Test.YtpmooapdlkbjeaaDoorLScriptParsesa
set_option linter.unusedVariables false
set_option linter.unusedSimpArgs false
/-! script: ScriptParses. -/
namespace Go.Sy.Sc
open Go.Sy
theorem wordsP_at (l m : List UInt8) (h : 32 ∉ l) : wordsP (l ++ 32 :: m) = l :: wordsP m := by
  rw [wordsP_skip l _ h]
  simp [wordsP]
theorem wordsP_one (l : List UInt8) (h : 32 ∉ l) : wordsP l = [l] := by
  have := wordsP_skip l [] h
  rw [List.append_nil] at this
  rw [this]
  simp [wordsP]
theorem itoa_32 (v : Int) : (32 : UInt8) ∉ Lib.itoa v := by
  by_cases h : v < 0
  · obtain ⟨u, rfl⟩ : ∃ u : Nat, v = -(u : Int) := ⟨v.natAbs, by omega⟩
    rw [Lib.itoa_neg u (by omega), List.mem_cons]
    rintro (q | q)
    · exact absurd q (by decide)
    · have := dec_digits _ _ (Nat.le_refl _) _ q
      exact absurd this (by decide)
  · obtain ⟨u, rfl⟩ : ∃ u : Nat, v = (u : Int) := ⟨v.natAbs, by omega⟩
    rw [Lib.itoa_nonneg]
    intro q
    have := dec_digits _ _ (Nat.le_refl _) _ q
    exact absurd this (by decide)
theorem itoa_len (v : Int) (h : in64 v) : (Lib.itoa v).length ≤ 20 := by
  by_cases hn : v < 0
  · obtain ⟨u, rfl⟩ : ∃ u : Nat, v = -(u : Int) := ⟨v.natAbs, by omega⟩
    rw [Lib.itoa_neg u (by omega), List.length_cons]
    have := dec_len 18 u (by have := h.1; omega)
    omega
  · obtain ⟨u, rfl⟩ : ∃ u : Nat, v = (u : Int) := ⟨v.natAbs, by omega⟩
    rw [Lib.itoa_nonneg]
    have := dec_len 18 u (by have := h.2; omega)
    omega
theorem words_post (v : Int) : wordsP (s_post_a_go ++ Lib.itoa v) = [s_post, s_a, s_go, Lib.itoa v] := by
  rw [show s_post_a_go ++ Lib.itoa v = s_post ++ 32 :: (s_a ++ 32 :: (s_go ++ 32 :: Lib.itoa v)) from rfl, wordsP_at _ _ (by decide), wordsP_at _ _ (by decide), wordsP_at _ _ (by decide), wordsP_one _ (itoa_32 v)]
theorem parse_post (v : Int) (h : in64 v) : parseP net0.Insts (s_post_a_go ++ Lib.itoa v) = (api_Op.mk 3 0 (api_Msg.mk s_go v), 0) := by
  have h1 : ∀ x : List UInt8, ¬ s_post_a_go ++ x = s_tick := fun x q => by
    have := congrArg List.length q
    rw [List.length_append] at this
    have h2 : s_post_a_go.length = 10 := rfl
    have h3 : s_tick.length = 4 := rfl
    omega
  have h2 : ∀ x : List UInt8, ¬ s_post_a_go ++ x = s_run := fun x q => by
    have := congrArg List.length q
    rw [List.length_append] at this
    have h2 : s_post_a_go.length = 10 := rfl
    have h3 : s_run.length = 3 := rfl
    omega
  unfold parseP
  rw [if_neg (h1 _), if_neg (h2 _), words_post]
  rw [if_neg (show ¬ List.length [s_post, s_a, s_go, Lib.itoa v] < 2 by simp)]
  rw [if_neg (show ¬ idxP net0.Insts (List.getD [s_post, s_a, s_go, Lib.itoa v] 1 []) 0 < 0 from (by decide : ¬ idxP net0.Insts s_a 0 < 0))]
  unfold wordP
  rw [if_neg (fun q => absurd q.1 (by decide : ¬ s_post = s_start)), if_neg (fun q => absurd q.1 (by decide : ¬ s_post = s_stop)), if_pos ⟨rfl, rfl, name_go⟩]
  unfold postP
  rw [show List.getD [s_post, s_a, s_go, Lib.itoa v] 3 [] = Lib.itoa v from rfl, (numP_iff _ v).2 ⟨h, rfl⟩]
  rfl
theorem l1_run (num : Int) (hn : in64 num) (t : List UInt8) (ht : t = s_post_a_go ++ Lib.itoa num) (x : List UInt8 × List UInt8 × List UInt8) (hx : ∀ y ∈ [x.1, x.2.1, x.2.2], y.length < 900000) : ∀ m n, n + m = 3 → ∀ k, m + 1 ≤ k →
    law34_ScriptParses_l1 k num net0.Age net0.Tables net0.Parts net0.Lines net0.Insts net0.Chans t x ((n : Nat) : Int) = some true := by
  intro m
  induction m with
  | zero =>
    intro n h k hk
    obtain ⟨k, rfl⟩ : ∃ j, k = j + 1 := ⟨k - 1, by omega⟩
    subst ht
    rw [law34_ScriptParses_l1, if_neg (by omega), show api_Net.mk net0.Age net0.Tables net0.Parts net0.Lines net0.Insts net0.Chans = net0 from rfl, lparse_eq net0 _ (by
      rw [List.length_append]
      have := itoa_len num hn
      have h2 : s_post_a_go.length = 10 := rfl
      omega) (by decide), bind_some_eq, parse_post num hn, if_pos rfl, if_pos rfl, known_eq]
    rfl
  | succ m ih =>
    intro n h k hk
    obtain ⟨k, rfl⟩ : ∃ j, k = j + 1 := ⟨k - 1, by omega⟩
    have e : w64 ((n : Int) + 1) = ((n + 1 : Nat) : Int) := by rw [w64_in (by omega) (by omega)]; omega
    have h3 : List.length [x.1, x.2.1, x.2.2] = 3 := rfl
    have hlen : (List.getD [x.1, x.2.1, x.2.2] n []).length < 900000 := by
      rw [getD_lt _ (show n < List.length [x.1, x.2.1, x.2.2] by omega)]
      exact hx _ (List.getElem_mem _)
    rw [law34_ScriptParses_l1, if_pos (by omega), if_pos (by omega), if_pos (by rw [h3]; omega), show api_Net.mk net0.Age net0.Tables net0.Parts net0.Lines net0.Insts net0.Chans = net0 from rfl, Int.toNat_natCast, lparse_eq net0 _ hlen (by decide), bind_some_eq, rparse_eq net0 _ hlen (by decide), bind_some_eq]
    rw [if_neg (fun q => q ⟨rfl, rfl, rfl, rfl⟩), if_neg (fun q => q rfl), e]
    exact ih (n + 1) (by omega) k (by omega)
abbrev allL : List (List UInt8) := [arr_0.1, arr_0.2.1, arr_0.2.2.1, arr_0.2.2.2.1, arr_0.2.2.2.2.1, arr_0.2.2.2.2.2.1, arr_0.2.2.2.2.2.2.1, arr_0.2.2.2.2.2.2.2.1, arr_0.2.2.2.2.2.2.2.2.1, arr_0.2.2.2.2.2.2.2.2.2.1, arr_0.2.2.2.2.2.2.2.2.2.2.1, arr_0.2.2.2.2.2.2.2.2.2.2.2.1, arr_0.2.2.2.2.2.2.2.2.2.2.2.2.1, arr_0.2.2.2.2.2.2.2.2.2.2.2.2.2.1, arr_0.2.2.2.2.2.2.2.2.2.2.2.2.2.2.1, arr_0.2.2.2.2.2.2.2.2.2.2.2.2.2.2.2]
theorem all_len (j : Nat) (hj : j < 16) : (allL.getD j []).length ≤ 20 := by
  have : ∀ j, j < 16 → (allL.getD j []).length ≤ 20 := by decide +kernel
  exact this j hj
theorem add_small {a b c : Nat} (h : a ≤ c) (h2 : c ≤ 1000) (h' : b ≤ 20) : a + b ≤ 9223372036854775807 := by omega
theorem add_to {a b c : Nat} (h : a ≤ c) (h' : b ≤ 20) : a + b ≤ c + 20 := by omega
theorem l0_run (line : List UInt8) (words : List Int) (num : Int) (hline : line.length ≤ 200) (hw8 : words.length ≤ 8) (hn : in64 num) (hw : ∀ i, 0 ≤ words.getD i 0 ∧ words.getD i 0 < 256) : ∀ m n s, n + m = words.length → s.length ≤ 21 * n → ∀ k, m + 5 ≤ k →
    law34_ScriptParses_l0 k line words num net0.Age net0.Tables net0.Parts net0.Lines net0.Insts net0.Chans arr_0 s ((n : Nat) : Int) = some true := by
  intro m
  induction m with
  | zero =>
    intro n s h hs k hk
    obtain ⟨k, rfl⟩ : ∃ j, k = j + 1 := ⟨k - 1, by omega⟩
    have hil := itoa_len num hn
    have h2 : s_post_a_go.length = 10 := rfl
    rw [law34_ScriptParses_l0, if_neg (by omega), digits_eq num hn.1 hn.2, bind_some_eq, if_pos (by omega)]
    refine l1_run num hn _ rfl _ (fun y hy => ?_) 3 0 rfl k (by omega)
    simp only [List.mem_cons, List.not_mem_nil, or_false] at hy
    rcases hy with rfl | rfl | rfl
    · omega
    · omega
    · rw [List.length_append]; omega
  | succ m ih =>
    intro n s h hs k hk
    obtain ⟨k, rfl⟩ : ∃ j, k = j + 1 := ⟨k - 1, by omega⟩
    have e : w64 ((n : Int) + 1) = ((n + 1 : Nat) : Int) := by rw [w64_in (by omega) (by omega)]; omega
    have hwn := hw n
    have hm : Int.tmod (words.getD n 0) 16 = (((words.getD n 0).toNat % 16 : Nat) : Int) := by
      rw [Int.tmod_eq_emod_of_nonneg hwn.1]; omega
    have hlt : (words.getD n 0).toNat % 16 < 16 := Nat.mod_lt _ (by decide)
    have hal := all_len _ hlt
    have h16 : allL.length = 16 := rfl
    have hv : s_v.length = 1 := rfl
    rw [law34_ScriptParses_l0, if_pos (by omega)]
    by_cases h0 : (0 : Int) < (n : Int)
    · rw [if_pos h0, if_pos (by omega), if_pos (by omega), if_pos (by omega), if_pos (by decide), Int.toNat_natCast, hm, if_pos (by omega), if_pos (by rw [h16]; omega), Int.toNat_natCast, if_pos (add_small (c := 21 * n + 1) (by rw [List.length_append]; omega) (by omega) hal), e]
      refine ih (n + 1) _ (by omega) ?_ k (by omega)
      rw [List.length_append]
      exact Nat.le_trans (add_to (c := 21 * n + 1) (by rw [List.length_append]; omega) hal) (by omega)
    · rw [if_neg h0, if_pos (by omega), if_pos (by omega), if_pos (by decide), Int.toNat_natCast, hm, if_pos (by omega), if_pos (by rw [h16]; omega), Int.toNat_natCast, if_pos (add_small (c := 21 * n) hs (by omega) hal), e]
      refine ih (n + 1) _ (by omega) ?_ k (by omega)
      rw [List.length_append]
      exact Nat.le_trans (add_to (c := 21 * n) hs hal) (by omega)
theorem parses_true (line : List UInt8) (words : List Int) (num : Int) (hn : in64 num) (hw : ∀ i, 0 ≤ words.getD i 0 ∧ words.getD i 0 < 256) : law34_ScriptParses line words num = some true := lim_eq 20 fun k hk => by
  show law34_ScriptParses_f k line words num = _
  unfold law34_ScriptParses_f
  by_cases h1 : 200 < (line.length : Int)
  · rw [if_pos h1, known_eq]; rfl
  rw [if_neg h1]
  by_cases h2 : 8 < (words.length : Int)
  · rw [if_pos h2, known_eq]; rfl
  rw [if_neg h2, small_eq, bind_some_eq]
  exact l0_run line words num (by omega) (by omega) hn hw words.length 0 [] (by omega) (by simp) k (by omega)
end Go.Sy.Sc
/-! The start of a call: the package variables. -/
namespace Go.Sy.Sc
open Go Go.Sy Go.Proofs Go.Proofs.YtpmooapdlkbjeaaDoor
abbrev L7 : List (String × DataW Unit) := [("math/bits.deBruijn32tab", Rows.laid_math_bits_deBruijn32tab), ("math/bits.deBruijn64tab", Rows.laid_math_bits_deBruijn64tab), ("internal/strconv.uint64pow10", Rows.laid_internal_strconv_uint64pow10), ("unicode/utf8.acceptRanges", Rows.laid_unicode_utf8_acceptRanges), ("strconv.ErrRange", Rows.laid_strconv_ErrRange), ("strconv.ErrSyntax", Rows.laid_strconv_ErrSyntax), ("unicode/utf8.first", Rows.laid_unicode_utf8_first)]
theorem gER : Tryd.prog.globalNamed "strconv.ErrRange" = some 1 := by kernel_rfl
theorem gES : Tryd.prog.globalNamed "strconv.ErrSyntax" = some 0 := by kernel_rfl
theorem gPT : Tryd.prog.globalNamed "internal/strconv.uint64pow10" = some 2 := by kernel_rfl
theorem tER : (Tryd.prog.globals[1]?).map (·.type) = some 68 := by kernel_rfl
theorem tES : (Tryd.prog.globals[0]?).map (·.type) = some 68 := by kernel_rfl
theorem tPT : (Tryd.prog.globals[2]?).map (·.type) = some 133 := by kernel_rfl
theorem maxLen_cell {W : World} (h : W.ShapedOpen Tryd.prog) : ∃ m, W.cell? ⟨3, 0, none⟩ = some (.int .i64 m) :=
  cell_of_shapedOpen_int (t := 3) (zero := #[.int .i64 0]) h (of_decide_eq_true (by kernel_rfl)) (by kernel_rfl) rfl (by kernel_rfl) (by kernel_rfl) Tryd.underlying3
theorem star : "*" ++ "errors.errorString" = "*errors.errorString" := by decide
theorem row141 (u : TypeId) (h : Tryd.prog.typeName? 3 u = some "*errors.errorString") : u = 141 :=
  typeName_ptr_named (nm := "errors.errorString") (by rw [star]; kernel_rfl) (by kernel_rfl) (by decide) u (by rw [star]; exact h)
theorem glob0 {W : World} {M : St} (hM : NoSt M) (hL : laidMetH Tryd.prog L7 W) (hsh : W.ShapedOpen Tryd.prog) : Glob S W M := by
  rw [MakeChecks.laidMetH_plain _ _ _ (by kernel_rfl)] at hL
  have hT : Lib.TabIs Tryd.prog W "internal/strconv.uint64pow10" .u64 Lib.pow10Tab := Lib.tabIs_of_head gPT tPT Tryd.underlying133 Tryd.underlying107 (by kernel_rfl) (by kernel_rfl) hL.tail.tail
  have h4 := hL.tail.tail.tail.tail
  obtain ⟨a0, s0, hv0, -, -, -⟩ := laid_sentinel h4 gER tER Tryd.underlying68 row141 Tryd.underlying141 Tryd.underlying143 rfl rfl Tryd.underlying9 (by kernel_rfl) (by kernel_rfl)
  obtain ⟨a1, s1, hv1, -, -, -⟩ := laid_sentinel h4.tail gES tES Tryd.underlying68 row141 Tryd.underlying141 Tryd.underlying143 rfl rfl Tryd.underlying9 (by kernel_rfl) (by kernel_rfl)
  have c1 := World.var?_cell gER hv0 0
  have c0 := World.var?_cell gES hv1 0
  obtain ⟨m, c3⟩ := maxLen_cell hsh
  have hsz : 3 < W.heap.size := World.block_lt_of_cell? _ _ c3
  refine ⟨fun g hg => ?_, fun g hg => ?_⟩
  · simp only [List.mem_cons, List.not_mem_nil, or_false] at hg
    rcases hg with rfl | rfl | rfl
    · exact ⟨by show 3 < _; omega, hM _ _, _, c3, m, rfl⟩
    · exact ⟨by show 1 < _; omega, hM _ _, _, by simpa using c1, .inr ⟨_, _, rfl⟩⟩
    · exact ⟨by show 0 < _; omega, hM _ _, _, by simpa using c0, .inr ⟨_, _, rfl⟩⟩
  · simp only [List.mem_cons, List.not_mem_nil, or_false] at hg
    subst hg
    refine ⟨by show 2 < _; omega, fun o => hM _ _, ?_⟩
    unfold Lib.TabIs World.var? at hT
    rw [gPT] at hT
    simp only [Option.bind_some] at hT
    split at hT
    · rename_i cs t f hb
      cases hT
      exact ⟨_, hb, t, f, rfl⟩
    · cases hT
end Go.Sy.Sc
namespace Go.Sy.Sc
open Go Go.Sy Go.Proofs Go.Proofs.YtpmooapdlkbjeaaDoor Go.ChangeShapes Go.WideShapes Go.RowKit
/-- A contract under a condition on the memory, the world's shape kept. -/
theorem returns_and_shaped {H : Type} {enc : TypeId × Value → H} {a : Assume} {C : Checked} {os : Os} {f : FuncId} {fn : Func} {s : ChangeSpec} {conds : List PathCond} {apart fresh handsOn again : Bool} {X : World → Array Value → Prop}
    (hX : ∀ (w w' : World) (args : Array Value), w.heap = w'.heap → X w args → X w' args)
    (own : ownKnob C.prog.godebug = none) (started : os.Started) (noInit : C.prog.inits.idxOf? f = none) (hfn : C.prog.funcs[f]? = some fn)
    (witness : ∃ (w : World) (tape : Tape) (i : Input), w.os = os ∧ (w.forCall tape i).Shaped C.prog ∧ i.vars = [] ∧ Input.okWide C.prog (w.forCall tape i) .any w.heap.size f i ∧
      ((s.pre enc C.prog fn conds apart (w.forCall tape i).memory i.args ∧ X (w.forCall tape i).memory i.args) ∧ sizedMet enc C.prog fn (OpenSpec.ofChange s) apart (w.forCall tape i).memory i.args) ∧ a.holds C.prog (lone (Frame.enter C.prog f i.args .normal) [] (w.forCall tape i)))
    (contract : ∀ (W : World) (base : Nat) (args : Array Value) (ds gs : List (DataW H)) (before : List MemPlace),
      (∀ (j : Nat) t v, fn.params[j]? = some t → args[j]? = some v → Value.okWide C.prog W .any base t v) →
      DataW.Whole enc C.prog fn.params.toList s.vars apart W args.toList ds gs before →
      conds.all (PathCond.test C.prog ⟨fn.params.toList, ds, s.plain.varTypes C.prog, gs⟩) = true →
      (DataW.weightsEach C.prog (fn.params.toList ++ s.plain.varTypes C.prog) (ds ++ gs)).all (· ≤ reachBytes) = true → X W args → W.ShapedOpen C.prog →
      a.holds C.prog (lone (Frame.enter C.prog f args .normal) [] W) →
      Calls C.prog f args W fun e W' => ∃ v, e = .returned v ∧ s.post enc C.prog fn apart fresh handsOn again W args v W') :
    ReturnsInHanded a C os f .any (fun w args => (s.pre enc C.prog fn conds apart w args ∧ X w args) ∧ sizedMet enc C.prog fn (OpenSpec.ofChange s) apart w args) (s.post enc C.prog fn apart fresh handsOn again) := by
  refine returnsInHanded_of_calls own started noInit witness ?_
  intro w tape i _ hsh _ hok hpre hholds
  obtain ⟨_, _, _, fn', hfn', _, _, _, _, hval⟩ := hok
  have e : fn' = fn := Option.some.inj (hfn'.symm.trans hfn)
  subst e
  obtain ⟨⟨⟨ds, gs, before, hw, hc⟩, hx⟩, hz⟩ := hpre
  have hw' := DataW.Whole.of_heap (w' := w.forCall tape i) (by rfl) hw
  refine (contract (w.forCall tape i) w.heap.size i.args ds gs before hval hw' hc (hz.weights hw) (hX _ _ _ (by rfl) hx) hsh hholds).mono fun e W' ⟨v, he, hp⟩ => ?_
  subst he
  exact ChangeSpec.post_blind hp
set_option maxRecDepth 100000 in
theorem door_met (os : Os) (args : Array Value) : laidMetH Tryd.prog L7 ((World.laidAll Tryd.prog os L7).forCall (fun _ _ => 0) ⟨#[], args, []⟩).memory := by
  rw [MakeChecks.laidMetH_plain _ _ _ (by kernel_rfl)]
  exact laidMet_laidAll _ (by kernel_rfl) (by kernel_rfl)
end Go.Sy.Sc
