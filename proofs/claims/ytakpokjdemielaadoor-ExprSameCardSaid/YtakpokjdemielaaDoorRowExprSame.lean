/- Proved: for every input that the statement lets in, ExprSame returns true and each argument reads afterwards as it read before; the package variables start as the program's text lays them. -/
import Derived.Test.YtakpokjdemielaaDoorRows
import Derived.Test.YtakpokjdemielaaDoorLExprSameb
import Derived.WalkKit
import Derived.ProofKit
import Derived.OpenShut
import Derived.ShutString
import Derived.ChangeOld
import Derived.SizedLaws
import Derived.Test.YtakpokjdemielaaDoorCards
import Derived.Test.YtakpokjdemielaaDoorTie
import Derived.SevenTiedAt
set_option linter.unusedVariables false
set_option linter.unusedSimpArgs false
namespace Go.Proofs.YtakpokjdemielaaDoor.exprSame
open Go.ChangeShapes Go.WideShapes Go.ChangeAt Go.RowKit
open Go.ChangeMaps (open_string shut_string)
open Go.Sy Go.Sy.Ex
abbrev Ts : List Ty := [.st 0, .st 0, .sl (.int .i64), .sl (.int .i64)]
theorem rg_of_wf : ∀ (j n : Nat) (e : api_Expr), Wf SA bz n (.st 0) e → Rg j e
  | 0, _, _, _ => trivial
  | j + 1, n, e, h => by
    obtain ⟨m, h1, h2, h3, h4, _⟩ := wf_st h
    refine ⟨wf_i64 h2, fun x hx => ?_⟩
    obtain ⟨m', _, _, h5⟩ := wf_sl h4
    obtain ⟨i, hi, rfl⟩ := List.getElem_of_mem hx
    exact rg_of_wf j m' _ (h5 i _ (List.getElem?_eq_getElem hi))
theorem law_true (n : Nat) (x : api_Expr × api_Expr × List Int × List Int) (h : WfKs SA bz n Ts x) : law7_ExprSame x.1 x.2.1 x.2.2.1 x.2.2.2 = some true := by
  obtain ⟨a, b, c, d⟩ := x
  exact same_true a b c d (rg_of_wf 12 n a h.1) (rg_of_wf 12 n b h.2.1)
theorem own : ownKnob Tryd.prog.godebug = none := by kernel_rfl
theorem laidOut : laidOutB Tryd.prog = true := by kernel_rfl
set_option maxRecDepth 100000 in
theorem lifted (os : Os) (started : os.Started) (H : Type) (enc : TypeId × Value → H) :
    ReturnsInHanded {} Tryd.checked os 7 .any (fun w args => (Rows.exprSameSpec.pre enc Tryd.prog Tryd.f7 [] false w args ∧ laidMetH Tryd.prog L7 w) ∧ sizedMet enc Tryd.prog Tryd.f7 (OpenSpec.ofChange Rows.exprSameSpec) false w args)
      (Rows.exprSameSpec.post enc Tryd.prog Tryd.f7 false true false false) := by
  refine returns_and_shaped (C := Tryd.checked) (X := fun w _ => laidMetH Tryd.prog L7 w) (fun _ _ _ hh h => h.of_heap hh) own started (by kernel_rfl) Tryd.func7
    (ChangeSpec.witness_shaped (enc := enc) (C := Tryd.checked) (os := os) (X := fun w _ => laidMetH Tryd.prog L7 w) false (World.laidAll Tryd.prog os L7) #[.agg #[.int .i64 0, .int .i64 0, .string ByteArray.empty, .slice none 0 0, .int .i64 0], .agg #[.int .i64 0, .int .i64 0, .string ByteArray.empty, .slice none 0 0, .int .i64 0], .slice none 0 0, .slice none 0 0] 8 (World.laidAll_os _ _ _) (World.shaped_of_ZipB (by kernel_rfl) (by kernel_rfl)) (by kernel_rfl) (by kernel_rfl) (by kernel_rfl) (door_met os _)) ?_
  intro W base args ds gs before hval0 hW hcnd hsz0 hL hsh _
  have hsz : (DataW.weightsEach Tryd.prog (Tryd.f7.params.toList ++ Rows.exprSameSpec.plain.varTypes Tryd.prog) (ds ++ gs)).all (· ≤ reachBytes) = true := hsz0
  have hval : ∀ (j : Nat) t v, Tryd.f7.params[j]? = some t → args[j]? = some v → Value.okWide Tryd.prog W .any base t v := hval0
  have hW' := hW
  obtain ⟨p, q, hA0, hV, rfl, hfz, hnd⟩ := hW
  have hA : DataW.TrodAll enc Tryd.prog W 0 (fun _ => true) true Tryd.f7.params.toList args.toList ds p := hA0
  rw [Tryd.params7] at hA hval hsz
  obtain ⟨rfl, rfl⟩ := trodVars_none hV
  rw [List.append_nil, show Rows.exprSameSpec.plain.varTypes Tryd.prog = [] from rfl, List.append_nil] at hsz
  obtain ⟨x, n, hx, hwf⟩ := open_args (bz := bz) progOkA stOk slOk hbz Ts _ args.toList ds p rfl hA (fun m hm => of_decide_eq_true (List.all_eq_true.1 hsz m hm)) (fun j t v hj hv => hval j t v (by simpa using hj) (by simpa using hv))
  have hk := law_true n x hwf
  have hcall := law_calls law7_ExprSame_snd (fun _ _ h => h) (KsRel_with (S := S) (ty := Go.Sy.look tyA) (pt := fun _ => false) (ar := Go.Sy.look arA) (eq := fun _ => false) Ts _ x _ hx) (glob0 (fun _ _ h => h) hL hsh) hk rfl
  rw [show args.toList.toArray = args from by simp] at hcall
  refine hcall.mono fun e W' ⟨he, bel⟩ => ?_
  have hback := carry_all laidOut bel _ args.toList ds p (by kernel_rfl) hA
  obtain ⟨v0, vs0, d0, ds0, p0, q0, hargs, rfl, rfl, h0, r0⟩ := trodAll_cons hA
  obtain ⟨v1, vs1, d1, ds1, p1, q1, rfl, rfl, rfl, h1, r1⟩ := trodAll_cons r0
  obtain ⟨v2, vs2, d2, ds2, p2, q2, rfl, rfl, rfl, h2, r2⟩ := trodAll_cons r1
  obtain ⟨v3, vs3, d3, ds3, p3, q3, rfl, rfl, rfl, h3, r3⟩ := trodAll_cons r2
  obtain ⟨rfl, rfl, rfl⟩ := trodAll_nil r3
  subst he
  exact ⟨_, rfl, _, _, _, [], _, [], hW', trodAll_mk1 (shut_bool Tryd.underlying4 _), hback, rfl, bel.frame _, fun h => by cases h⟩
theorem over : Rows.exprSameRow.holds Tryd.pinned (OpenSpec.ofChange Rows.exprSameSpec) :=
  OpenClaim.holds_of_wide 7 Tryd.f7 rfl rfl rfl rfl rfl rfl rfl ⟨rfl, rfl, rfl, rfl, rfl⟩ rfl rfl rfl rfl rfl (by kernel_rfl) Tryd.func7 (by kernel_rfl)
    (of_decide_eq_true (by kernel_rfl)) (by unfold Func.isWrapper; first | (rw [if_pos (by decide +kernel)]; kernel_rfl) | (rw [if_neg (by decide +kernel)]; exact ⟨rfl, rfl⟩))
    (fun os started H enc _ => lifted os started H enc)
theorem stands : ∀ (j : Nat) t, Tryd.f7.params[j]? = some t → Tryd.prog.wantsStandIn t = false := by
  intro j t ht
  have h : Tryd.f7.params.toList.all (fun t => !Tryd.prog.wantsStandIn t) = true := by kernel_rfl
  have hm : t ∈ Tryd.f7.params.toList := by
    rw [← Array.getElem?_toList] at ht
    exact List.mem_of_getElem? ht
  have := List.all_eq_true.1 h t hm
  cases hh : Tryd.prog.wantsStandIn t with
  | false => rfl
  | true => rw [hh] at this; cases this
theorem proved : Rows.ExprSameCardSaid :=
  Claim7.holds_tied_plain_at .later [] [.data, .data, .data, .sentinel, .sentinel] true (true, "49201638d60578b4aebc52396b5646ecb6729371715df86219804c5bae6accae") true
    over (fun _ h => by cases h) (by kernel_rfl) (fun _ h => by cases h) exprSame_row_tie rfl ⟨rfl, rfl⟩ (by kernel_rfl) rfl
    (fun f fn hf hfn => by
      obtain rfl : f = 7 := Option.some.inj ((show Tryd.prog.funcNamed "cotillion/cotillionlaw7.ExprSame" = some 7 by kernel_rfl).symm.trans hf) |>.symm
      obtain rfl : fn = Tryd.f7 := (Option.some.inj (Tryd.func7.symm.trans hfn)).symm
      exact ⟨by kernel_rfl, stands⟩)
    (by kernel_rfl)
end Go.Proofs.YtakpokjdemielaaDoor.exprSame
namespace Go.Proofs.YtakpokjdemielaaDoor
/-- The row, under a short name. -/
theorem exprSame_holds : Rows.ExprSameCardSaid := exprSame.proved
end Go.Proofs.YtakpokjdemielaaDoor
