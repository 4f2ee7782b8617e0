/- Proved: for every input that the statement lets in, RingPlays returns true and each argument reads afterwards as it read before; no condition. -/
import Derived.Test.YtebdlhoeomdlmaaRows
import Derived.Test.YtebdlhoeomdlmaaLRingPlaysa
import Derived.WalkKit
import Derived.ProofKit
import Derived.OpenShut
import Derived.ShutString
import Derived.ChangeOld
import Derived.SizedLaws
set_option linter.unusedVariables false
set_option linter.unusedSimpArgs false
namespace Go.Proofs.Ytebdlhoeomdlmaa.ringPlays
open Go.ChangeShapes Go.WideShapes Go.ChangeAt Go.RowKit
open Go.ChangeMaps (open_string shut_string)
open Go.Sy Go.Sy.Ri
abbrev Ts : List Ty := [.int .i64, .sl (.st 3)]
theorem law_true (n : Nat) (x : Int × List law2_Step) (h : WfKs SA bz n Ts x) : law2_RingPlays x.1 x.2 = some true := by
  obtain ⟨a, b⟩ := x
  obtain ⟨h1, _⟩ := h
  exact Plays_true a b (wf_i64 h1)
theorem own : ownKnob Try.prog.godebug = none := by kernel_rfl
theorem laidOut : laidOutB Try.prog = true := by kernel_rfl
set_option maxRecDepth 100000 in
theorem lifted (os : Os) (started : os.Started) (H : Type) (enc : TypeId × Value → H) :
    ReturnsInHanded {} Try.checked os 5 .any (Rows.ringPlaysSpec.pre6 enc Try.prog Try.f5 Rows.ringPlaysRow.domain false) (Rows.ringPlaysSpec.post enc Try.prog Try.f5 false true false false) := by
  refine returnsInHanded_of_change_sized (C := Try.checked) own started (by kernel_rfl) Try.func5
    (ChangeSpec.witness6 (enc := enc) (C := Try.checked) false ⟨#[], #[.int .i64 0, .slice none 0 0], []⟩ 8 (by kernel_rfl) (by kernel_rfl) (by kernel_rfl) (by kernel_rfl)) ?_
  intro W base args ds gs before hval0 hW hcnd hsz0 _
  have hsz : (DataW.weightsEach Try.prog (Try.f5.params.toList ++ Rows.ringPlaysSpec.plain.varTypes Try.prog) (ds ++ gs)).all (· ≤ reachBytes) = true := hsz0
  have hval : ∀ (j : Nat) t v, Try.f5.params[j]? = some t → args[j]? = some v → Value.okWide Try.prog W .any base t v := hval0
  have hW' := hW
  obtain ⟨p, q, hA0, hV, rfl, hfz, hnd⟩ := hW
  have hA : DataW.TrodAll enc Try.prog W 0 (fun _ => true) true Try.f5.params.toList args.toList ds p := hA0
  rw [Try.params5] at hA hval hsz
  obtain ⟨rfl, rfl⟩ := trodVars_none hV
  rw [List.append_nil, show Rows.ringPlaysSpec.plain.varTypes Try.prog = [] from rfl, List.append_nil] at hsz
  obtain ⟨x, n, hx, hwf⟩ := open_args (bz := bz) progOkA stOk slOk hbz Ts _ args.toList ds p rfl hA (fun m hm => of_decide_eq_true (List.all_eq_true.1 hsz m hm)) (fun j t v hj hv => hval j t v (by simpa using hj) (by simpa using hv))
  have hk := law_true n x hwf
  have hcall := law_calls law2_RingPlays_snd (fun _ _ h => h) (KsRel_with (S := S) (ty := Go.Sy.look tyA) (pt := fun _ => false) (ar := fun _ => none) (eq := fun _ => false) Ts _ x _ hx) hk rfl
  rw [show args.toList.toArray = args from by simp] at hcall
  refine hcall.mono fun e W' ⟨he, bel⟩ => ?_
  have hback := carry_all laidOut bel _ args.toList ds p (by kernel_rfl) hA
  obtain ⟨v0, vs0, d0, ds0, p0, q0, hargs, rfl, rfl, h0, r0⟩ := trodAll_cons hA
  obtain ⟨v1, vs1, d1, ds1, p1, q1, rfl, rfl, rfl, h1, r1⟩ := trodAll_cons r0
  obtain ⟨rfl, rfl, rfl⟩ := trodAll_nil r1
  subst he
  exact ⟨_, rfl, _, _, _, [], _, [], hW', trodAll_mk1 (shut_bool Try.underlying4 _), hback, rfl, bel.frame _, fun h => by cases h⟩
theorem over : Rows.ringPlaysRow.holds Try.pinned (OpenSpec.ofChange Rows.ringPlaysSpec) :=
  OpenClaim.holds_of_wide 5 Try.f5 rfl rfl rfl rfl rfl rfl rfl ⟨rfl, rfl, rfl, rfl, rfl⟩ rfl rfl rfl rfl rfl (by kernel_rfl) Try.func5 (by kernel_rfl)
    (of_decide_eq_true (by kernel_rfl)) (by unfold Func.isWrapper; first | (rw [if_pos (by decide +kernel)]; kernel_rfl) | (rw [if_neg (by decide +kernel)]; exact ⟨rfl, rfl⟩))
    (fun os started H enc _ => lifted os started H enc)
theorem proved : Rows.RingPlaysSaid := over
end Go.Proofs.Ytebdlhoeomdlmaa.ringPlays
namespace Go.Proofs.Ytebdlhoeomdlmaa
/-- The row, under a short name. -/
theorem ringPlays_holds : Rows.RingPlaysSaid := ringPlays.proved
end Go.Proofs.Ytebdlhoeomdlmaa
