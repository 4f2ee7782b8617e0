/- Proved: for every input that the statement lets in, SysCells returns true and each argument reads afterwards as it read before; the package variables start as the program's text lays them. -/
import Derived.Test.YtogpgblanenleaaDoorRows
import Derived.Test.YtogpgblanenleaaDoorLSysCellsa
import Derived.WalkKit
import Derived.ProofKit
import Derived.OpenShut
import Derived.ShutString
import Derived.ChangeOld
import Derived.SizedLaws
import Derived.Test.YtogpgblanenleaaDoorCards
import Derived.Test.YtogpgblanenleaaDoorTie
import Derived.SevenTiedAt
set_option linter.unusedVariables false
set_option linter.unusedSimpArgs false
namespace Go.Proofs.YtogpgblanenleaaDoor.sysCells
open Go.ChangeShapes Go.WideShapes Go.ChangeAt Go.RowKit
open Go.ChangeMaps (open_string shut_string)
open Go.Sy Go.Sy.Ex
abbrev Ts : List Ty := [.int .u8, .sl (.int .u8)]
theorem JF (n : Nat) (x : Int × List Int) (h : lK SA bz n Ts x) : yf x.1 x.2 = some true := Gp (wf_u8 h.1) x.2
theorem own : ownKnob Tryd.prog.godebug = none := by kernel_rfl
theorem laidOut : laidOutB Tryd.prog = true := by kernel_rfl
set_option maxRecDepth 100000 in
theorem lifted (os : Os) (started : os.Started) (H : Type) (enc : TypeId × Value → H) :
    ReturnsInHanded {} Tryd.checked os 4 .any (fun w args => (Rows.sysCellsSpec.pre enc Tryd.prog Tryd.f4 [] false w args ∧ laidMetH Tryd.prog L7 w) ∧ sizedMet enc Tryd.prog Tryd.f4 (OpenSpec.ofChange Rows.sysCellsSpec) false w args)
      (Rows.sysCellsSpec.post enc Tryd.prog Tryd.f4 false true false false) := by
  refine Mf (C := Tryd.checked) (X := fun w _ => laidMetH Tryd.prog L7 w) (fun _ _ _ hh h => h.of_heap hh) own started (by kernel_rfl) Tryd.func4
    (ChangeSpec.witness_shaped (enc := enc) (C := Tryd.checked) (os := os) (X := fun w _ => laidMetH Tryd.prog L7 w) false (World.laidAll Tryd.prog os L7) #[.int .u8 0, .slice none 0 0] 8 (World.laidAll_os _ _ _) (World.shaped_of_ZipB (by kernel_rfl) (by kernel_rfl)) (by kernel_rfl) (by kernel_rfl) (by kernel_rfl) (GX os _)) ?_
  intro W base args ds gs before Jf hW O3 I_ hL hsh _
  have hsz : (DataW.weightsEach Tryd.prog (Tryd.f4.params.toList ++ Rows.sysCellsSpec.plain.varTypes Tryd.prog) (ds ++ gs)).all (· ≤ reachBytes) = true := I_
  have hval : ∀ (j : Nat) t v, Tryd.f4.params[j]? = some t → args[j]? = some v → Value.okWide Tryd.prog W .any base t v := Jf
  have HW := hW
  obtain ⟨p, q, HQ, hV, rfl, hfz, hnd⟩ := hW
  have hA : DataW.TrodAll enc Tryd.prog W 0 (fun _ => true) true Tryd.f4.params.toList args.toList ds p := HQ
  rw [Tryd.params4] at hA hval hsz
  obtain ⟨rfl, rfl⟩ := trodVars_none hV
  rw [List.append_nil, show Rows.sysCellsSpec.plain.varTypes Tryd.prog = [] from rfl, List.append_nil] at hsz
  obtain ⟨x, n, hx, hwf⟩ := Dc (bz := bz) KZ MX MR hbz Ts _ args.toList ds p rfl hA (fun m hm => of_decide_eq_true (List.all_eq_true.1 hsz m hm)) (fun j t v hj hv => hval j t v (by simpa using hj) (by simpa using hv))
  have hk := JF n x hwf
  have lW := JE JA (fun _ _ h => h) (Ad (S := S) (ty := Go.Sy.look g_) (pt := fun _ => false) (ar := Go.Sy.look Aq) (eq := fun _ => false) Ts _ x _ hx) (HG (fun _ _ h => h) hL hsh) hk rfl
  rw [show args.toList.toArray = args from by simp] at lW
  refine lW.mono fun e W' ⟨he, Ay⟩ => ?_
  have H8 := AN laidOut Ay _ args.toList ds p (by kernel_rfl) hA
  obtain ⟨v0, Pe, d0, OZ, p0, q0, hargs, rfl, rfl, h0, r0⟩ := trodAll_cons hA
  obtain ⟨v1, vm, d1, GY, p1, q1, rfl, rfl, rfl, h1, r1⟩ := trodAll_cons r0
  obtain ⟨rfl, rfl, rfl⟩ := trodAll_nil r1
  subst he
  exact ⟨_, rfl, _, _, _, [], _, [], HW, trodAll_mk1 (shut_bool Tryd.underlying4 _), H8, rfl, Ay.frame _, fun h => by cases h⟩
theorem over : Rows.sysCellsRow.holds Tryd.pinned (OpenSpec.ofChange Rows.sysCellsSpec) :=
  OpenClaim.holds_of_wide 4 Tryd.f4 rfl rfl rfl rfl rfl rfl rfl ⟨rfl, rfl, rfl, rfl, rfl⟩ rfl rfl rfl rfl rfl (by kernel_rfl) Tryd.func4 (by kernel_rfl)
    (of_decide_eq_true (by kernel_rfl)) (by unfold Func.isWrapper; first | (rw [if_pos (by decide +kernel)]; kernel_rfl) | (rw [if_neg (by decide +kernel)]; exact ⟨rfl, rfl⟩))
    (fun os started H enc _ => lifted os started H enc)
theorem MY : ∀ (j : Nat) t, Tryd.f4.params[j]? = some t → Tryd.prog.wantsStandIn t = false := by
  intro j t ht
  have h : Tryd.f4.params.toList.all (fun t => !Tryd.prog.wantsStandIn t) = true := by kernel_rfl
  have hm : t ∈ Tryd.f4.params.toList := by
    rw [← Array.getElem?_toList] at ht
    exact List.mem_of_getElem? ht
  have := List.all_eq_true.1 h t hm
  cases hh : Tryd.prog.wantsStandIn t with
  | false => rfl
  | true => rw [hh] at this; cases this
theorem proved : Rows.SysCellsCardSaid :=
  Claim7.holds_tied_plain_at .later [] [.data, .data, .data, .sentinel, .sentinel] true (true, "d7c1d8ca62bb1271e0779756ed8343cce3427c9d75c74b2d542a363d16429619") true
    over (fun _ h => by cases h) (by kernel_rfl) (fun _ h => by cases h) sysCells_row_tie rfl ⟨rfl, rfl⟩ (by kernel_rfl) rfl
    (fun f fn hf hfn => by
      obtain rfl : f = 4 := Option.some.inj ((show Tryd.prog.funcNamed "cotillion/cotillionlaw10.SysCells" = some 4 by kernel_rfl).symm.trans hf) |>.symm
      obtain rfl : fn = Tryd.f4 := (Option.some.inj (Tryd.func4.symm.trans hfn)).symm
      exact ⟨by kernel_rfl, MY⟩)
    (by kernel_rfl)
end Go.Proofs.YtogpgblanenleaaDoor.sysCells
namespace Go.Proofs.YtogpgblanenleaaDoor
/-- The row, under a short name. -/
theorem sysCells_holds : Rows.SysCellsCardSaid := sysCells.proved
end Go.Proofs.YtogpgblanenleaaDoor
