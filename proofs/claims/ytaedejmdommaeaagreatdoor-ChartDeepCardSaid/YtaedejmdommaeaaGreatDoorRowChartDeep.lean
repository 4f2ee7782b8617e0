/- Proved: for every input that the statement lets in, ChartDeep returns true and each argument reads afterwards as it read before; the package variables start as the program's text lays them. -/
import Derived.Test.YtaedejmdommaeaaGreatDoorRows
import Derived.Test.YtaedejmdommaeaaGreatDoorLChartDeepb
import Derived.WalkKit
import Derived.ProofKit
import Derived.OpenShut
import Derived.ShutString
import Derived.ChangeOld
import Derived.SizedLaws
import Derived.Test.YtaedejmdommaeaaGreatDoorCards
import Derived.Test.YtaedejmdommaeaaGreatDoorTie
import Derived.SevenTiedAt
set_option linter.unusedVariables false
set_option linter.unusedSimpArgs false
namespace Go.Proofs.YtaedejmdommaeaaGreatDoor.chartDeep
open Go.ChangeShapes Go.WideShapes Go.ChangeAt Go.RowKit
open Go.ChangeMaps (open_string shut_string)
open Go.Sy Go.Sy.Ex
abbrev Ts : List Ty := [.sl (.int .u8)]
theorem Ob (n : Nat) (x : List Int) (h : om SA bz n Ts x) : AX x = some true := by
  obtain ⟨m, _, _, h1⟩ := SQ h.1
  refine Lg fun y hy => ?_
  obtain ⟨i, hi, rfl⟩ := List.mem_iff_getElem.1 hy
  exact (wf_u8 (h1 i x[i] (List.getElem?_eq_getElem hi))).1
theorem own : ownKnob Tryz.prog.godebug = none := by kernel_rfl
theorem laidOut : laidOutB Tryz.prog = true := by kernel_rfl
set_option maxRecDepth 100000 in
theorem lifted (os : Os) (started : os.Started) (H : Type) (enc : TypeId × Value → H) :
    ReturnsInHanded {} Tryz.checked os 4 .any (fun w args => (Rows.chartDeepSpec.pre enc Tryz.prog Tryz.f4 [] false w args ∧ laidMetH Tryz.prog L7 w) ∧ sizedMet enc Tryz.prog Tryz.f4 (OpenSpec.ofChange Rows.chartDeepSpec) false w args)
      (Rows.chartDeepSpec.post enc Tryz.prog Tryz.f4 false true false false) := by
  refine QG (C := Tryz.checked) (X := fun w _ => laidMetH Tryz.prog L7 w) (fun _ _ _ hh h => h.of_heap hh) own started (by kernel_rfl) Tryz.func4
    (ChangeSpec.witness_shaped (enc := enc) (C := Tryz.checked) (os := os) (X := fun w _ => laidMetH Tryz.prog L7 w) false (World.laidAll Tryz.prog os L7) #[.slice none 0 0] 8 (World.laidAll_os _ _ _) (World.shaped_of_ZipB (by kernel_rfl) (by kernel_rfl)) (by kernel_rfl) (by kernel_rfl) (by kernel_rfl) (Lj os _)) ?_
  intro W base args ds gs before ND hW S8 Ny hL hsh _
  have hsz : (DataW.weightsEach Tryz.prog (Tryz.f4.params.toList ++ Rows.chartDeepSpec.plain.varTypes Tryz.prog) (ds ++ gs)).all (· ≤ reachBytes) = true := Ny
  have hval : ∀ (j : Nat) t v, Tryz.f4.params[j]? = some t → args[j]? = some v → Value.okWide Tryz.prog W .any base t v := ND
  have Mp := hW
  obtain ⟨p, q, Mj, hV, rfl, hfz, hnd⟩ := hW
  have hA : DataW.TrodAll enc Tryz.prog W 0 (fun _ => true) true Tryz.f4.params.toList args.toList ds p := Mj
  rw [Tryz.params4] at hA hval hsz
  obtain ⟨rfl, rfl⟩ := trodVars_none hV
  rw [List.append_nil, show Rows.chartDeepSpec.plain.varTypes Tryz.prog = [] from rfl, List.append_nil] at hsz
  obtain ⟨x, n, hx, hwf⟩ := Gl (bz := bz) Pz RG Rz hbz Ts _ args.toList ds p rfl hA (fun m hm => of_decide_eq_true (List.all_eq_true.1 hsz m hm)) (fun j t v hj hv => hval j t v (by simpa using hj) (by simpa using hv))
  have hk := Ob n x hwf
  have o5 := Oa N6 (fun _ _ h => h) (CN (S := S) (ty := Go.Sy.look jv) (pt := fun _ => false) (ar := Go.Sy.look C9) (eq := fun _ => false) Ts _ x _ hx) (L9 (fun _ _ h => h) hL hsh) hk rfl
  rw [show args.toList.toArray = args from by simp] at o5
  refine o5.mono fun e W' ⟨he, Di⟩ => ?_
  have Mx := Ds laidOut Di _ args.toList ds p (by kernel_rfl) hA
  obtain ⟨v0, Tl, d0, S3, p0, q0, hargs, rfl, rfl, h0, r0⟩ := trodAll_cons hA
  obtain ⟨rfl, rfl, rfl⟩ := trodAll_nil r0
  subst he
  exact ⟨_, rfl, _, _, _, [], _, [], Mp, trodAll_mk1 (shut_bool Tryz.underlying4 _), Mx, rfl, Di.frame _, fun h => by cases h⟩
theorem over : Rows.chartDeepRow.holds Tryz.pinned (OpenSpec.ofChange Rows.chartDeepSpec) :=
  OpenClaim.holds_of_wide 4 Tryz.f4 rfl rfl rfl rfl rfl rfl rfl ⟨rfl, rfl, rfl, rfl, rfl⟩ rfl rfl rfl rfl rfl (by kernel_rfl) Tryz.func4 (by kernel_rfl)
    (of_decide_eq_true (by kernel_rfl)) (by unfold Func.isWrapper; first | (rw [if_pos (by decide +kernel)]; kernel_rfl) | (rw [if_neg (by decide +kernel)]; exact ⟨rfl, rfl⟩))
    (fun os started H enc _ => lifted os started H enc)
theorem RH : ∀ (j : Nat) t, Tryz.f4.params[j]? = some t → Tryz.prog.wantsStandIn t = false := by
  intro j t ht
  have h : Tryz.f4.params.toList.all (fun t => !Tryz.prog.wantsStandIn t) = true := by kernel_rfl
  have hm : t ∈ Tryz.f4.params.toList := by
    rw [← Array.getElem?_toList] at ht
    exact List.mem_of_getElem? ht
  have := List.all_eq_true.1 h t hm
  cases hh : Tryz.prog.wantsStandIn t with
  | false => rfl
  | true => rw [hh] at this; cases this
theorem proved : Rows.ChartDeepCardSaid :=
  Claim7.holds_tied_plain_at .later [] [.data, .data, .data, .sentinel, .sentinel] true (true, "00f033171ce1d2525e846f974b522ac69527d2fbe76468d3a395892125e71065") true
    over (fun _ h => by cases h) (by kernel_rfl) (fun _ h => by cases h) chartDeep_row_tie rfl ⟨rfl, rfl⟩ (by kernel_rfl) rfl
    (fun f fn hf hfn => by
      obtain rfl : f = 4 := Option.some.inj ((show Tryz.prog.funcNamed "cotillion/cotillionlaw9.ChartDeep" = some 4 by kernel_rfl).symm.trans hf) |>.symm
      obtain rfl : fn = Tryz.f4 := (Option.some.inj (Tryz.func4.symm.trans hfn)).symm
      exact ⟨by kernel_rfl, RH⟩)
    (by kernel_rfl)
end Go.Proofs.YtaedejmdommaeaaGreatDoor.chartDeep
namespace Go.Proofs.YtaedejmdommaeaaGreatDoor
/-- The row, under a short name. -/
theorem chartDeep_holds : Rows.ChartDeepCardSaid := chartDeep.proved
end Go.Proofs.YtaedejmdommaeaaGreatDoor
