/- Proved: for every input that the statement lets in, ActRights returns true and each argument reads afterwards as it read before; the package variables start as the program's text lays them. -/
import Derived.Test.YtabknfplmamfmaaGreatDoorRows
import Derived.Test.YtabknfplmamfmaaGreatDoorLActRightsb
import Derived.WalkKit
import Derived.ProofKit
import Derived.OpenShut
import Derived.ShutString
import Derived.ChangeOld
import Derived.SizedLaws
import Derived.Test.YtabknfplmamfmaaGreatDoorCards
import Derived.Test.YtabknfplmamfmaaGreatDoorTie
import Derived.SevenTiedAt
set_option linter.unusedVariables false
set_option linter.unusedSimpArgs false
namespace Go.Proofs.YtabknfplmamfmaaGreatDoor.actRights
open Go.ChangeShapes Go.WideShapes Go.ChangeAt Go.RowKit
open Go.ChangeMaps (open_string shut_string)
open Go.Sy Go.Sy.Ex
abbrev Ts : List Ty := [.sl (.st 0)]
theorem Ie {α : Type} [SizeOf α] : ∀ l : List α, l.length ≤ SizeOf.sizeOf l
  | [] => Nat.zero_le _
  | a :: l => by have := Ie l; simp only [List.length_cons, List.cons.sizeOf_spec]; omega
theorem QU {e x : af} (h : x ∈ e.Kids) : SizeOf.sizeOf x < SizeOf.sizeOf e := by
  have := List.sizeOf_lt_of_mem h
  cases e
  simp only [af.mk.sizeOf_spec]
  simp only at this
  omega
theorem GI : ∀ (s : Nat) (e : af), SizeOf.sizeOf e ≤ s → ∀ n, Wf SA bz n (.st 1) e → Fw s e
  | 0, e, h, _, _ => by cases e; simp at h
  | s + 1, e, h, n, hw => by
    obtain ⟨m, h1, h2, h3, h4, _⟩ := KW hw
    obtain ⟨m', g1, g2, g3⟩ := EM h4
    have g2 : e.Kids.length * 64 ≤ 140737488351232 := g2
    have hk : e.Kids.length ≤ s + 2 := by
      have := Ie e.Kids
      have : SizeOf.sizeOf e.Kids < SizeOf.sizeOf e := by cases e; simp only [af.mk.sizeOf_spec]; omega
      omega
    have hn : e.Name.length ≤ 140737488351232 := Wm h3
    refine ⟨⟨hk, by omega⟩, by omega, wf_i64 h2, fun x hx => ?_⟩
    have := QU hx
    obtain ⟨i, hi, rfl⟩ := List.getElem_of_mem hx
    exact GI s _ (by omega) m' (g3 i _ (List.getElem?_eq_getElem hi))
theorem EH : ∀ (j n : Nat) (l : List ah), Wf SA bz n (.sl (.st 0)) l → Wa j l
  | 0, _, _, _ => trivial
  | j + 1, n, l, h => by
    obtain ⟨m, g1, g2, g3⟩ := EM h
    have g2 : l.length * 128 ≤ 140737488351232 := g2
    refine ⟨by omega, fun a ha => ?_⟩
    obtain ⟨i, hi, rfl⟩ := List.getElem_of_mem ha
    obtain ⟨m', h1, h2, h3, h4, h5, h6, h7, _⟩ := KW (g3 i _ (List.getElem?_eq_getElem hi))
    refine ⟨wf_i64 h5, fun e he => ?_, EH j _ _ h6, EH j _ _ h7⟩
    obtain ⟨q, _, _, k3⟩ := EM h4
    obtain ⟨i', hi', rfl⟩ := List.getElem_of_mem he
    exact ⟨_, GI _ _ (Nat.le_refl _) q (k3 i' _ (List.getElem?_eq_getElem hi'))⟩
theorem Q5 (n : Nat) (x : List ah) (h : p_ SA bz n Ts x) : zd x = some true := MC (EH 8 n x h.1)
theorem own : ownKnob Tryz.prog.godebug = none := by kernel_rfl
theorem laidOut : laidOutB Tryz.prog = true := by kernel_rfl
set_option maxRecDepth 100000 in
theorem lifted (os : Os) (started : os.Started) (H : Type) (enc : TypeId × Value → H) :
    ReturnsInHanded {} Tryz.checked os 7 .any (fun w args => (Rows.actRightsSpec.pre enc Tryz.prog Tryz.f7 [] false w args ∧ laidMetH Tryz.prog L7 w) ∧ sizedMet enc Tryz.prog Tryz.f7 (OpenSpec.ofChange Rows.actRightsSpec) false w args)
      (Rows.actRightsSpec.post enc Tryz.prog Tryz.f7 false true false false) := by
  refine Ud (C := Tryz.checked) (X := fun w _ => laidMetH Tryz.prog L7 w) (fun _ _ _ hh h => h.of_heap hh) own started (by kernel_rfl) Tryz.func7
    (ChangeSpec.witness_shaped (enc := enc) (C := Tryz.checked) (os := os) (X := fun w _ => laidMetH Tryz.prog L7 w) false (World.laidAll Tryz.prog os L7) #[.slice none 0 0] 8 (World.laidAll_os _ _ _) (World.shaped_of_ZipB (by kernel_rfl) (by kernel_rfl)) (by kernel_rfl) (by kernel_rfl) (by kernel_rfl) (NI os _)) ?_
  intro W base args ds gs before Qu hW WI Qn hL hsh _
  have hsz : (DataW.weightsEach Tryz.prog (Tryz.f7.params.toList ++ Rows.actRightsSpec.plain.varTypes Tryz.prog) (ds ++ gs)).all (· ≤ reachBytes) = true := Qn
  have hval : ∀ (j : Nat) t v, Tryz.f7.params[j]? = some t → args[j]? = some v → Value.okWide Tryz.prog W .any base t v := Qu
  have O2 := hW
  obtain ⟨p, q, OU, hV, rfl, hfz, hnd⟩ := hW
  have hA : DataW.TrodAll enc Tryz.prog W 0 (fun _ => true) true Tryz.f7.params.toList args.toList ds p := OU
  rw [Tryz.params7] at hA hval hsz
  obtain ⟨rfl, rfl⟩ := trodVars_none hV
  rw [List.append_nil, show Rows.actRightsSpec.plain.varTypes Tryz.prog = [] from rfl, List.append_nil] at hsz
  obtain ⟨x, n, hx, hwf⟩ := IG (bz := bz) SE Vc UY hbz Ts _ args.toList ds p rfl hA (fun m hm => of_decide_eq_true (List.all_eq_true.1 hsz m hm)) (fun j t v hj hv => hval j t v (by simpa using hj) (by simpa using hv))
  have hk := Q5 n x hwf
  have qN := Q4 QX (fun _ _ h => h) (EV (S := S) (ty := Go.Sy.look lA) (pt := fun _ => false) (ar := Go.Sy.look Fp) (eq := fun _ => false) Ts _ x _ hx) (OM (fun _ _ h => h) hL hsh) hk rfl
  rw [show args.toList.toArray = args from by simp] at qN
  refine qN.mono fun e W' ⟨he, FA⟩ => ?_
  have Pk := FL laidOut FA _ args.toList ds p (by kernel_rfl) hA
  obtain ⟨v0, W_, d0, Wz, p0, q0, hargs, rfl, rfl, h0, r0⟩ := trodAll_cons hA
  obtain ⟨rfl, rfl, rfl⟩ := trodAll_nil r0
  subst he
  exact ⟨_, rfl, _, _, _, [], _, [], O2, trodAll_mk1 (shut_bool Tryz.underlying4 _), Pk, rfl, FA.frame _, fun h => by cases h⟩
theorem over : Rows.actRightsRow.holds Tryz.pinned (OpenSpec.ofChange Rows.actRightsSpec) :=
  OpenClaim.holds_of_wide 7 Tryz.f7 rfl rfl rfl rfl rfl rfl rfl ⟨rfl, rfl, rfl, rfl, rfl⟩ rfl rfl rfl rfl rfl (by kernel_rfl) Tryz.func7 (by kernel_rfl)
    (of_decide_eq_true (by kernel_rfl)) (by unfold Func.isWrapper; first | (rw [if_pos (by decide +kernel)]; kernel_rfl) | (rw [if_neg (by decide +kernel)]; exact ⟨rfl, rfl⟩))
    (fun os started H enc _ => lifted os started H enc)
theorem Vd : ∀ (j : Nat) t, Tryz.f7.params[j]? = some t → Tryz.prog.wantsStandIn t = false := by
  intro j t ht
  have h : Tryz.f7.params.toList.all (fun t => !Tryz.prog.wantsStandIn t) = true := by kernel_rfl
  have hm : t ∈ Tryz.f7.params.toList := by
    rw [← Array.getElem?_toList] at ht
    exact List.mem_of_getElem? ht
  have := List.all_eq_true.1 h t hm
  cases hh : Tryz.prog.wantsStandIn t with
  | false => rfl
  | true => rw [hh] at this; cases this
theorem proved : Rows.ActRightsCardSaid :=
  Claim7.holds_tied_plain_at .later [] [.data, .data, .data, .sentinel, .sentinel] true (true, "32a9ffcce99356bf249c9d37f2beb0312d2c12b630a94cc2b45f02d3aa30400a") true
    over (fun _ h => by cases h) (by kernel_rfl) (fun _ h => by cases h) actRights_row_tie rfl ⟨rfl, rfl⟩ (by kernel_rfl) rfl
    (fun f fn hf hfn => by
      obtain rfl : f = 7 := Option.some.inj ((show Tryz.prog.funcNamed "cotillion/cotillionlaw8.ActRights" = some 7 by kernel_rfl).symm.trans hf) |>.symm
      obtain rfl : fn = Tryz.f7 := (Option.some.inj (Tryz.func7.symm.trans hfn)).symm
      exact ⟨by kernel_rfl, Vd⟩)
    (by kernel_rfl)
end Go.Proofs.YtabknfplmamfmaaGreatDoor.actRights
namespace Go.Proofs.YtabknfplmamfmaaGreatDoor
/-- The row, under a short name. -/
theorem actRights_holds : Rows.ActRightsCardSaid := actRights.proved
end Go.Proofs.YtabknfplmamfmaaGreatDoor
