/- Proved: for every input that the statement lets in, TurnAged returns true and each argument reads afterwards as it read before; no condition. -/
import Derived.Test.YtoiemgioighjlaaRows
import Derived.Test.YtoiemgioighjlaaLTurnAgeda
import Derived.WalkKit
import Derived.ProofKit
import Derived.OpenShut
import Derived.ShutString
import Derived.ChangeOld
import Derived.SizedLaws
set_option linter.unusedVariables false
set_option linter.unusedSimpArgs false
namespace Go.Proofs.Ytoiemgioighjlaa.turnAged
open Go.ChangeShapes Go.WideShapes Go.ChangeAt Go.RowKit
open Go.ChangeMaps (open_string shut_string)
open Go.Sy Go.Sy.Tu
abbrev Ts : List Ty := [.sl (.st 0), .sl (.int .u8), .int .u16, .int .u8]
theorem raws_ok {n : Nat} {l : List law25_Raw} (h : Wf SA bz n (.sl (.st 0)) l) : ∀ i, 0 ≤ (raw l i).Since ∧ (raw l i).Since ≤ 65535 ∧ 0 ≤ (raw l i).Prio ∧ (raw l i).Prio ≤ 255 := by
  obtain ⟨m, _, _, h⟩ := wf_sl h
  intro i
  unfold raw
  by_cases hi : i < l.length
  · rw [getD_lt _ hi]
    obtain ⟨m', h1, h2, _⟩ := wf_st (h i l[i] (List.getElem?_eq_getElem hi))
    exact ⟨(wf_u16 h1).1, (wf_u16 h1).2, (wf_u8 h2).1, (wf_u8 h2).2⟩
  · rw [List.getD_eq_getElem?_getD, List.getElem?_eq_none (by omega)]
    decide
theorem bytes_ok {n : Nat} {g : List Int} (h : Wf SA bz n (.sl (.int .u8)) g) : ∀ i : Nat, 0 ≤ g.getD i 0 ∧ g.getD i 0 ≤ 255 := by
  obtain ⟨m, _, _, h⟩ := wf_sl h
  intro i
  by_cases hi : i < g.length
  · rw [getD_lt _ hi]
    exact wf_u8 (h i g[i] (List.getElem?_eq_getElem hi))
  · rw [List.getD_eq_getElem?_getD, List.getElem?_eq_none (by omega)]
    decide
theorem law_true (n : Nat) (x : List law25_Raw × List Int × Int × Int) (h : WfKs SA bz n Ts x) : law25_TurnAged x.1 x.2.1 x.2.2.1 x.2.2.2 = some true := by
  obtain ⟨a, b, c, d⟩ := x
  obtain ⟨h1, h2, h3, h4, _⟩ := h
  exact Aged_true a b c d (raws_ok h1) (bytes_ok h2) (wf_u16 h3) (wf_u8 h4)
theorem own : ownKnob Try.prog.godebug = none := by kernel_rfl
theorem laidOut : laidOutB Try.prog = true := by kernel_rfl
set_option maxRecDepth 100000 in
theorem lifted (os : Os) (started : os.Started) (H : Type) (enc : TypeId × Value → H) :
    ReturnsInHanded {} Try.checked os 9 .any (Rows.turnAgedSpec.pre6 enc Try.prog Try.f9 Rows.turnAgedRow.domain false) (Rows.turnAgedSpec.post enc Try.prog Try.f9 false true false false) := by
  refine returnsInHanded_of_change_sized (C := Try.checked) own started (by kernel_rfl) Try.func9
    (ChangeSpec.witness6 (enc := enc) (C := Try.checked) false ⟨#[], #[.slice none 0 0, .slice none 0 0, .int .u16 0, .int .u8 0], []⟩ 8 (by kernel_rfl) (by kernel_rfl) (by kernel_rfl) (by kernel_rfl)) ?_
  intro W base args ds gs before hval0 hW hcnd hsz0 _
  have hsz : (DataW.weightsEach Try.prog (Try.f9.params.toList ++ Rows.turnAgedSpec.plain.varTypes Try.prog) (ds ++ gs)).all (· ≤ reachBytes) = true := hsz0
  have hval : ∀ (j : Nat) t v, Try.f9.params[j]? = some t → args[j]? = some v → Value.okWide Try.prog W .any base t v := hval0
  have hW' := hW
  obtain ⟨p, q, hA0, hV, rfl, hfz, hnd⟩ := hW
  have hA : DataW.TrodAll enc Try.prog W 0 (fun _ => true) true Try.f9.params.toList args.toList ds p := hA0
  rw [Try.params9] at hA hval hsz
  obtain ⟨rfl, rfl⟩ := trodVars_none hV
  rw [List.append_nil, show Rows.turnAgedSpec.plain.varTypes Try.prog = [] from rfl, List.append_nil] at hsz
  obtain ⟨x, n, hx, hwf⟩ := open_args (bz := bz) progOkA stOk slOk hbz Ts _ args.toList ds p rfl hA (fun m hm => of_decide_eq_true (List.all_eq_true.1 hsz m hm)) (fun j t v hj hv => hval j t v (by simpa using hj) (by simpa using hv))
  have hk := law_true n x hwf
  have hcall := law_calls law25_TurnAged_snd (fun _ _ h => h) (KsRel_with (S := S) (ty := Go.Sy.look tyA) (pt := fun _ => false) (ar := fun _ => none) (eq := fun _ => false) Ts _ x _ hx) (fun g hg => by cases hg) hk rfl
  rw [show args.toList.toArray = args from by simp] at hcall
  refine hcall.mono fun e W' ⟨he, bel⟩ => ?_
  have hback := carry_all laidOut bel _ args.toList ds p (by kernel_rfl) hA
  obtain ⟨v0, vs0, d0, ds0, p0, q0, hargs, rfl, rfl, h0, r0⟩ := trodAll_cons hA
  obtain ⟨v1, vs1, d1, ds1, p1, q1, rfl, rfl, rfl, h1, r1⟩ := trodAll_cons r0
  obtain ⟨v2, vs2, d2, ds2, p2, q2, rfl, rfl, rfl, h2, r2⟩ := trodAll_cons r1
  obtain ⟨v3, vs3, d3, ds3, p3, q3, rfl, rfl, rfl, h3, r3⟩ := trodAll_cons r2
  obtain ⟨rfl, rfl, rfl⟩ := trodAll_nil r3
  subst he
  exact ⟨_, rfl, _, _, _, [], _, [], hW', trodAll_mk1 (shut_bool Try.underlying4 _), hback, rfl, bel.frame _, fun h => by cases h⟩
theorem over : Rows.turnAgedRow.holds Try.pinned (OpenSpec.ofChange Rows.turnAgedSpec) :=
  OpenClaim.holds_of_wide 9 Try.f9 rfl rfl rfl rfl rfl rfl rfl ⟨rfl, rfl, rfl, rfl, rfl⟩ rfl rfl rfl rfl rfl (by kernel_rfl) Try.func9 (by kernel_rfl)
    (of_decide_eq_true (by kernel_rfl)) (by unfold Func.isWrapper; first | (rw [if_pos (by decide +kernel)]; kernel_rfl) | (rw [if_neg (by decide +kernel)]; exact ⟨rfl, rfl⟩))
    (fun os started H enc _ => lifted os started H enc)
theorem proved : Rows.TurnAgedSaid := over
end Go.Proofs.Ytoiemgioighjlaa.turnAged
namespace Go.Proofs.Ytoiemgioighjlaa
/-- The row, under a short name. -/
theorem turnAged_holds : Rows.TurnAgedSaid := turnAged.proved
end Go.Proofs.Ytoiemgioighjlaa
