/- Proved: for every input that the statement lets in, SysReads returns true and each argument reads afterwards as it read before; the package variables start as the program's text lays them. -/
import Derived.Test.YtogpgblanenleaaGreatDoorRows
import Derived.Test.YtogpgblanenleaaGreatDoorLSysReadsc
import Derived.WalkKit
import Derived.ProofKit
import Derived.OpenShut
import Derived.ShutString
import Derived.ChangeOld
import Derived.SizedLaws
import Derived.Test.YtogpgblanenleaaGreatDoorCards
import Derived.Test.YtogpgblanenleaaGreatDoorTie
import Derived.SevenTiedAt
set_option linter.unusedVariables false
set_option linter.unusedSimpArgs false
namespace Go.Proofs.YtogpgblanenleaaGreatDoor.sysReads
open Go.ChangeShapes Go.WideShapes Go.ChangeAt Go.RowKit
open Go.ChangeMaps (open_string shut_string)
open Go.Sy Go.Sy.Ex
abbrev Ts : List Ty := [.str]
theorem YH (n : Nat) (x : List UInt8) (h : uv SA bz n Ts x) : DK x = some true := ad7 x
theorem own : ownKnob Tryz.prog.godebug = none := by kernel_rfl
theorem laidOut : laidOutB Tryz.prog = true := by kernel_rfl
set_option maxRecDepth 100000 in
theorem lifted (os : Os) (started : os.Started) (H : Type) (enc : TypeId × Value → H) :
    ReturnsInHanded {} Tryz.checked os 4 .any (fun w args => (Rows.sysReadsSpec.pre enc Tryz.prog Tryz.f4 [] false w args ∧ laidMetH Tryz.prog L7 w) ∧ sizedMet enc Tryz.prog Tryz.f4 (OpenSpec.ofChange Rows.sysReadsSpec) false w args)
      (Rows.sysReadsSpec.post enc Tryz.prog Tryz.f4 false true false false) := by
  refine acZ (C := Tryz.checked) (X := fun w _ => laidMetH Tryz.prog L7 w) (fun _ _ _ hh h => h.of_heap hh) own started (by kernel_rfl) Tryz.func4
    (ChangeSpec.witness_shaped (enc := enc) (C := Tryz.checked) (os := os) (X := fun w _ => laidMetH Tryz.prog L7 w) false (World.laidAll Tryz.prog os L7) #[.string ByteArray.empty] 8 (World.laidAll_os _ _ _) (World.shaped_of_ZipB (by kernel_rfl) (by kernel_rfl)) (by kernel_rfl) (by kernel_rfl) (by kernel_rfl) (VZ os _)) ?_
  intro W base args ds gs before Yc hW af5 X7 hL hsh _
  have hsz : (DataW.weightsEach Tryz.prog (Tryz.f4.params.toList ++ Rows.sysReadsSpec.plain.varTypes Tryz.prog) (ds ++ gs)).all (· ≤ reachBytes) = true := X7
  have hval : ∀ (j : Nat) t v, Tryz.f4.params[j]? = some t → args[j]? = some v → Value.okWide Tryz.prog W .any base t v := Yc
  have W4 := hW
  obtain ⟨p, q, WY, hV, rfl, hfz, hnd⟩ := hW
  have hA : DataW.TrodAll enc Tryz.prog W 0 (fun _ => true) true Tryz.f4.params.toList args.toList ds p := WY
  rw [Tryz.params4] at hA hval hsz
  obtain ⟨rfl, rfl⟩ := trodVars_none hV
  rw [List.append_nil, show Rows.sysReadsSpec.plain.varTypes Tryz.prog = [] from rfl, List.append_nil] at hsz
  obtain ⟨x, n, hx, hwf⟩ := O3 (bz := bz) ZS ad9 adE hbz Ts _ args.toList ds p rfl hA (fun m hm => of_decide_eq_true (List.all_eq_true.1 hsz m hm)) (fun j t v hj hv => hval j t v (by simpa using hj) (by simpa using hv))
  have hk := YH n x hwf
  have vj := YG YC (fun _ _ h => h) (K1 (S := S) (ty := Go.Sy.look nq) (pt := fun _ => false) (ar := Go.Sy.look Ls) (eq := fun _ => false) Ts _ x _ hx) (WO (fun _ _ h => h) hL hsh) hk rfl
  rw [show args.toList.toArray = args from by simp] at vj
  refine vj.mono fun e W' ⟨he, LG⟩ => ?_
  have Xe := LZ laidOut LG _ args.toList ds p (by kernel_rfl) hA
  obtain ⟨v0, vs0, d0, ds0, p0, q0, hargs, rfl, rfl, h0, r0⟩ := trodAll_cons hA
  obtain ⟨rfl, rfl, rfl⟩ := trodAll_nil r0
  subst he
  exact ⟨_, rfl, _, _, _, [], _, [], W4, trodAll_mk1 (shut_bool Tryz.underlying4 _), Xe, rfl, LG.frame _, fun h => by cases h⟩
theorem over : Rows.sysReadsRow.holds Tryz.pinned (OpenSpec.ofChange Rows.sysReadsSpec) :=
  OpenClaim.holds_of_wide 4 Tryz.f4 rfl rfl rfl rfl rfl rfl rfl ⟨rfl, rfl, rfl, rfl, rfl⟩ rfl rfl rfl rfl rfl (by kernel_rfl) Tryz.func4 (by kernel_rfl)
    (of_decide_eq_true (by kernel_rfl)) (by unfold Func.isWrapper; first | (rw [if_pos (by decide +kernel)]; kernel_rfl) | (rw [if_neg (by decide +kernel)]; exact ⟨rfl, rfl⟩))
    (fun os started H enc _ => lifted os started H enc)
theorem ad_ : ∀ (j : Nat) t, Tryz.f4.params[j]? = some t → Tryz.prog.wantsStandIn t = false := by
  intro j t ht
  have h : Tryz.f4.params.toList.all (fun t => !Tryz.prog.wantsStandIn t) = true := by kernel_rfl
  have hm : t ∈ Tryz.f4.params.toList := by
    rw [← Array.getElem?_toList] at ht
    exact List.mem_of_getElem? ht
  have := List.all_eq_true.1 h t hm
  cases hh : Tryz.prog.wantsStandIn t with
  | false => rfl
  | true => rw [hh] at this; cases this
theorem proved : Rows.SysReadsCardSaid :=
  Claim7.holds_tied_plain_at .later [] [.data, .data, .data, .sentinel, .sentinel] true (true, "5c5acf1509a3a55826cf169facc3ffe93b27e064098315f6b8416bb3037d7840") true
    over (fun _ h => by cases h) (by kernel_rfl) (fun _ h => by cases h) sysReads_row_tie rfl ⟨rfl, rfl⟩ (by kernel_rfl) rfl
    (fun f fn hf hfn => by
      obtain rfl : f = 4 := Option.some.inj ((show Tryz.prog.funcNamed "cotillion/cotillionlaw10.SysReads" = some 4 by kernel_rfl).symm.trans hf) |>.symm
      obtain rfl : fn = Tryz.f4 := (Option.some.inj (Tryz.func4.symm.trans hfn)).symm
      exact ⟨by kernel_rfl, ad_⟩)
    (by kernel_rfl)
end Go.Proofs.YtogpgblanenleaaGreatDoor.sysReads
namespace Go.Proofs.YtogpgblanenleaaGreatDoor
/-- The row, under a short name. -/
theorem sysReads_holds : Rows.SysReadsCardSaid := sysReads.proved
end Go.Proofs.YtogpgblanenleaaGreatDoor
