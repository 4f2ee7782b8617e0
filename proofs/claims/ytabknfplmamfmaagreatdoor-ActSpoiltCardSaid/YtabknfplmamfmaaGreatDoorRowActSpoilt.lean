/- Proved: for every input that the statement lets in, ActSpoilt returns true and each argument reads afterwards as it read before; the package variables start as the program's text lays them. -/
import Derived.Test.YtabknfplmamfmaaGreatDoorRows
import Derived.Test.YtabknfplmamfmaaGreatDoorLActSpoiltc
import Derived.WalkKit
import Derived.ProofKit
import Derived.OpenShut
import Derived.ShutString
import Derived.ChangeOld
import Derived.SizedLaws
import Derived.Test.YtabknfplmamfmaaGreatDoorCards
import Derived.Test.YtabknfplmamfmaaGreatDoorTie
import Derived.SevenTiedAt
set_option linter.unusedVariables false
set_option linter.unusedSimpArgs false
namespace Go.Proofs.YtabknfplmamfmaaGreatDoor.actSpoilt
open Go.ChangeShapes Go.WideShapes Go.ChangeAt Go.RowKit
open Go.ChangeMaps (open_string shut_string)
open Go.Sy Go.Sy.Ex
abbrev Ts : List Ty := [.sl (.int .i64), .int .i64]
theorem UZ (n : Nat) (x : List Int × Int) (h : rE SA bz n Ts x) : AO x.1 x.2 = some true := QI x.1 x.2
theorem own : ownKnob Tryz.prog.godebug = none := by kernel_rfl
theorem laidOut : laidOutB Tryz.prog = true := by kernel_rfl
set_option maxRecDepth 100000 in
theorem lifted (os : Os) (started : os.Started) (H : Type) (enc : TypeId × Value → H) :
    ReturnsInHanded {} Tryz.checked os 4 .any (fun w args => (Rows.actSpoiltSpec.pre enc Tryz.prog Tryz.f4 [] false w args ∧ laidMetH Tryz.prog L7 w) ∧ sizedMet enc Tryz.prog Tryz.f4 (OpenSpec.ofChange Rows.actSpoiltSpec) false w args)
      (Rows.actSpoiltSpec.post enc Tryz.prog Tryz.f4 false true false false) := by
  refine YI (C := Tryz.checked) (X := fun w _ => laidMetH Tryz.prog L7 w) (fun _ _ _ hh h => h.of_heap hh) own started (by kernel_rfl) Tryz.func4
    (ChangeSpec.witness_shaped (enc := enc) (C := Tryz.checked) (os := os) (X := fun w _ => laidMetH Tryz.prog L7 w) false (World.laidAll Tryz.prog os L7) #[.slice none 0 0, .int .i64 0] 8 (World.laidAll_os _ _ _) (World.shaped_of_ZipB (by kernel_rfl) (by kernel_rfl)) (by kernel_rfl) (by kernel_rfl) (by kernel_rfl) (Rx os _)) ?_
  intro W base args ds gs before Uk hW aa2 Ue hL hsh _
  have hsz : (DataW.weightsEach Tryz.prog (Tryz.f4.params.toList ++ Rows.actSpoiltSpec.plain.varTypes Tryz.prog) (ds ++ gs)).all (· ≤ reachBytes) = true := Ue
  have hval : ∀ (j : Nat) t v, Tryz.f4.params[j]? = some t → args[j]? = some v → Value.okWide Tryz.prog W .any base t v := Uk
  have SS := hW
  obtain ⟨p, q, SM, hV, rfl, hfz, hnd⟩ := hW
  have hA : DataW.TrodAll enc Tryz.prog W 0 (fun _ => true) true Tryz.f4.params.toList args.toList ds p := SM
  rw [Tryz.params4] at hA hval hsz
  obtain ⟨rfl, rfl⟩ := trodVars_none hV
  rw [List.append_nil, show Rows.actSpoiltSpec.plain.varTypes Tryz.prog = [] from rfl, List.append_nil] at hsz
  obtain ⟨x, n, hx, hwf⟩ := Mi (bz := bz) WG ZH Zu hbz Ts _ args.toList ds p rfl hA (fun m hm => of_decide_eq_true (List.all_eq_true.1 hsz m hm)) (fun j t v hj hv => hval j t v (by simpa using hj) (by simpa using hv))
  have hk := UZ n x hwf
  have sC := UX UJ (fun _ _ h => h) (IF (S := S) (ty := Go.Sy.look mu) (pt := fun _ => false) (ar := Go.Sy.look I8) (eq := fun _ => false) Ts _ x _ hx) (SE (fun _ _ h => h) hL hsh) hk rfl
  rw [show args.toList.toArray = args from by simp] at sC
  refine sC.mono fun e W' ⟨he, Jh⟩ => ?_
  have Tc := Jt laidOut Jh _ args.toList ds p (by kernel_rfl) hA
  obtain ⟨v0, vs0, d0, ds0, p0, q0, hargs, rfl, rfl, h0, r0⟩ := trodAll_cons hA
  obtain ⟨v1, Dn, d1, Ry, p1, q1, rfl, rfl, rfl, h1, r1⟩ := trodAll_cons r0
  obtain ⟨rfl, rfl, rfl⟩ := trodAll_nil r1
  subst he
  exact ⟨_, rfl, _, _, _, [], _, [], SS, trodAll_mk1 (shut_bool Tryz.underlying4 _), Tc, rfl, Jh.frame _, fun h => by cases h⟩
theorem over : Rows.actSpoiltRow.holds Tryz.pinned (OpenSpec.ofChange Rows.actSpoiltSpec) :=
  OpenClaim.holds_of_wide 4 Tryz.f4 rfl rfl rfl rfl rfl rfl rfl ⟨rfl, rfl, rfl, rfl, rfl⟩ rfl rfl rfl rfl rfl (by kernel_rfl) Tryz.func4 (by kernel_rfl)
    (of_decide_eq_true (by kernel_rfl)) (by unfold Func.isWrapper; first | (rw [if_pos (by decide +kernel)]; kernel_rfl) | (rw [if_neg (by decide +kernel)]; exact ⟨rfl, rfl⟩))
    (fun os started H enc _ => lifted os started H enc)
theorem ZI : ∀ (j : Nat) t, Tryz.f4.params[j]? = some t → Tryz.prog.wantsStandIn t = false := by
  intro j t ht
  have h : Tryz.f4.params.toList.all (fun t => !Tryz.prog.wantsStandIn t) = true := by kernel_rfl
  have hm : t ∈ Tryz.f4.params.toList := by
    rw [← Array.getElem?_toList] at ht
    exact List.mem_of_getElem? ht
  have := List.all_eq_true.1 h t hm
  cases hh : Tryz.prog.wantsStandIn t with
  | false => rfl
  | true => rw [hh] at this; cases this
theorem proved : Rows.ActSpoiltCardSaid :=
  Claim7.holds_tied_plain_at .later [] [.data, .data, .data, .sentinel, .sentinel] true (true, "32a9ffcce99356bf249c9d37f2beb0312d2c12b630a94cc2b45f02d3aa30400a") true
    over (fun _ h => by cases h) (by kernel_rfl) (fun _ h => by cases h) actSpoilt_row_tie rfl ⟨rfl, rfl⟩ (by kernel_rfl) rfl
    (fun f fn hf hfn => by
      obtain rfl : f = 4 := Option.some.inj ((show Tryz.prog.funcNamed "cotillion/cotillionlaw8.ActSpoilt" = some 4 by kernel_rfl).symm.trans hf) |>.symm
      obtain rfl : fn = Tryz.f4 := (Option.some.inj (Tryz.func4.symm.trans hfn)).symm
      exact ⟨by kernel_rfl, ZI⟩)
    (by kernel_rfl)
end Go.Proofs.YtabknfplmamfmaaGreatDoor.actSpoilt
namespace Go.Proofs.YtabknfplmamfmaaGreatDoor
/-- The row, under a short name. -/
theorem actSpoilt_holds : Rows.ActSpoiltCardSaid := actSpoilt.proved
end Go.Proofs.YtabknfplmamfmaaGreatDoor
