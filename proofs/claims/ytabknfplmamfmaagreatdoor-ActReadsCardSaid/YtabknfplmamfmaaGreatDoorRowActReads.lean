/- Proved: for every input that the statement lets in, ActReads returns true and each argument reads afterwards as it read before; the package variables start as the program's text lays them. -/
import Derived.Test.YtabknfplmamfmaaGreatDoorRows
import Derived.Test.YtabknfplmamfmaaGreatDoorLActReadsd
import Derived.WalkKit
import Derived.ProofKit
import Derived.OpenShut
import Derived.ShutString
import Derived.ChangeOld
import Derived.SizedLaws
import Derived.Test.YtabknfplmamfmaaGreatDoorCards
import Derived.Test.YtabknfplmamfmaaGreatDoorTie
import Derived.SevenTiedAt
set_option linter.unusedVariables false
set_option linter.unusedSimpArgs false
namespace Go.Proofs.YtabknfplmamfmaaGreatDoor.actReads
open Go.ChangeShapes Go.WideShapes Go.ChangeAt Go.RowKit
open Go.ChangeMaps (open_string shut_string)
open Go.Sy Go.Sy.Ex
abbrev Ts : List Ty := [.str, .int .i64]
theorem law_true (n : Nat) (x : List UInt8 × Int) (h : WfKs SA bz n Ts x) : law8_ActReads x.1 x.2 = some true := areads_true x.1 x.2
theorem own : ownKnob Tryz.prog.godebug = none := by kernel_rfl
theorem laidOut : laidOutB Tryz.prog = true := by kernel_rfl
set_option maxRecDepth 100000 in
theorem lifted (os : Os) (started : os.Started) (H : Type) (enc : TypeId × Value → H) :
    ReturnsInHanded {} Tryz.checked os 3 .any (fun w args => (Rows.actReadsSpec.pre enc Tryz.prog Tryz.f3 [] false w args ∧ laidMetH Tryz.prog L7 w) ∧ sizedMet enc Tryz.prog Tryz.f3 (OpenSpec.ofChange Rows.actReadsSpec) false w args)
      (Rows.actReadsSpec.post enc Tryz.prog Tryz.f3 false true false false) := by
  refine returns_and_shaped (C := Tryz.checked) (X := fun w _ => laidMetH Tryz.prog L7 w) (fun _ _ _ hh h => h.of_heap hh) own started (by kernel_rfl) Tryz.func3
    (ChangeSpec.witness_shaped (enc := enc) (C := Tryz.checked) (os := os) (X := fun w _ => laidMetH Tryz.prog L7 w) false (World.laidAll Tryz.prog os L7) #[.string ByteArray.empty, .int .i64 0] 8 (World.laidAll_os _ _ _) (World.shaped_of_ZipB (by kernel_rfl) (by kernel_rfl)) (by kernel_rfl) (by kernel_rfl) (by kernel_rfl) (door_met os _)) ?_
  intro W base args ds gs before hval0 hW hcnd hsz0 hL hsh _
  have hsz : (DataW.weightsEach Tryz.prog (Tryz.f3.params.toList ++ Rows.actReadsSpec.plain.varTypes Tryz.prog) (ds ++ gs)).all (· ≤ reachBytes) = true := hsz0
  have hval : ∀ (j : Nat) t v, Tryz.f3.params[j]? = some t → args[j]? = some v → Value.okWide Tryz.prog W .any base t v := hval0
  have hW' := hW
  obtain ⟨p, q, hA0, hV, rfl, hfz, hnd⟩ := hW
  have hA : DataW.TrodAll enc Tryz.prog W 0 (fun _ => true) true Tryz.f3.params.toList args.toList ds p := hA0
  rw [Tryz.params3] at hA hval hsz
  obtain ⟨rfl, rfl⟩ := trodVars_none hV
  rw [List.append_nil, show Rows.actReadsSpec.plain.varTypes Tryz.prog = [] from rfl, List.append_nil] at hsz
  obtain ⟨x, n, hx, hwf⟩ := open_args (bz := bz) progOkA stOk slOk hbz Ts _ args.toList ds p rfl hA (fun m hm => of_decide_eq_true (List.all_eq_true.1 hsz m hm)) (fun j t v hj hv => hval j t v (by simpa using hj) (by simpa using hv))
  have hk := law_true n x hwf
  have hcall := law_calls law8_ActReads_snd (fun _ _ h => h) (KsRel_with (S := S) (ty := Go.Sy.look tyA) (pt := fun _ => false) (ar := Go.Sy.look arA) (eq := fun _ => false) Ts _ x _ hx) (glob0 (fun _ _ h => h) hL hsh) hk rfl
  rw [show args.toList.toArray = args from by simp] at hcall
  refine hcall.mono fun e W' ⟨he, bel⟩ => ?_
  have hback := carry_all laidOut bel _ args.toList ds p (by kernel_rfl) hA
  obtain ⟨v0, vs0, d0, ds0, p0, q0, hargs, rfl, rfl, h0, r0⟩ := trodAll_cons hA
  obtain ⟨v1, vs1, d1, ds1, p1, q1, rfl, rfl, rfl, h1, r1⟩ := trodAll_cons r0
  obtain ⟨rfl, rfl, rfl⟩ := trodAll_nil r1
  subst he
  exact ⟨_, rfl, _, _, _, [], _, [], hW', trodAll_mk1 (shut_bool Tryz.underlying4 _), hback, rfl, bel.frame _, fun h => by cases h⟩
theorem over : Rows.actReadsRow.holds Tryz.pinned (OpenSpec.ofChange Rows.actReadsSpec) :=
  OpenClaim.holds_of_wide 3 Tryz.f3 rfl rfl rfl rfl rfl rfl rfl ⟨rfl, rfl, rfl, rfl, rfl⟩ rfl rfl rfl rfl rfl (by kernel_rfl) Tryz.func3 (by kernel_rfl)
    (of_decide_eq_true (by kernel_rfl)) (by unfold Func.isWrapper; first | (rw [if_pos (by decide +kernel)]; kernel_rfl) | (rw [if_neg (by decide +kernel)]; exact ⟨rfl, rfl⟩))
    (fun os started H enc _ => lifted os started H enc)
theorem stands : ∀ (j : Nat) t, Tryz.f3.params[j]? = some t → Tryz.prog.wantsStandIn t = false := by
  intro j t ht
  have h : Tryz.f3.params.toList.all (fun t => !Tryz.prog.wantsStandIn t) = true := by kernel_rfl
  have hm : t ∈ Tryz.f3.params.toList := by
    rw [← Array.getElem?_toList] at ht
    exact List.mem_of_getElem? ht
  have := List.all_eq_true.1 h t hm
  cases hh : Tryz.prog.wantsStandIn t with
  | false => rfl
  | true => rw [hh] at this; cases this
theorem proved : Rows.ActReadsCardSaid :=
  Claim7.holds_tied_plain_at .later [] [.data, .data, .data, .sentinel, .sentinel] true (true, "32a9ffcce99356bf249c9d37f2beb0312d2c12b630a94cc2b45f02d3aa30400a") true
    over (fun _ h => by cases h) (by kernel_rfl) (fun _ h => by cases h) actReads_row_tie rfl ⟨rfl, rfl⟩ (by kernel_rfl) rfl
    (fun f fn hf hfn => by
      obtain rfl : f = 3 := Option.some.inj ((show Tryz.prog.funcNamed "cotillion/cotillionlaw8.ActReads" = some 3 by kernel_rfl).symm.trans hf) |>.symm
      obtain rfl : fn = Tryz.f3 := (Option.some.inj (Tryz.func3.symm.trans hfn)).symm
      exact ⟨by kernel_rfl, stands⟩)
    (by kernel_rfl)
end Go.Proofs.YtabknfplmamfmaaGreatDoor.actReads
namespace Go.Proofs.YtabknfplmamfmaaGreatDoor
/-- The row, under a short name. -/
theorem actReads_holds : Rows.ActReadsCardSaid := actReads.proved
end Go.Proofs.YtabknfplmamfmaaGreatDoor
