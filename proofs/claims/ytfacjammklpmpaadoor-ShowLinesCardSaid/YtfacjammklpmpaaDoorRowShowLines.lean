/- Proved: for every input that the statement lets in, ShowLines returns true and each argument reads afterwards as it read before; the package variables start as the program's text lays them. -/
import Derived.Test.YtfacjammklpmpaaDoorRows
import Derived.Test.YtfacjammklpmpaaDoorLShowLinesa
import Derived.WalkKit
import Derived.ProofKit
import Derived.OpenShut
import Derived.ShutString
import Derived.ChangeOld
import Derived.SizedLaws
import Derived.Test.YtfacjammklpmpaaDoorCards
import Derived.Test.YtfacjammklpmpaaDoorTie
import Derived.SevenTiedAt
set_option linter.unusedVariables false
set_option linter.unusedSimpArgs false
namespace Go.Proofs.YtfacjammklpmpaaDoor.showLines
open Go.ChangeShapes Go.WideShapes Go.ChangeAt Go.RowKit
open Go.ChangeMaps (open_string shut_string)
open Go.Sy Go.Sy.Ex
abbrev Ts : List Ty := [.sl (.int .i64), .st 0, .sl (.int .u8)]
theorem Kz (n : Nat) (x : List Int × (Int × Int × Int) × List Int) (h : nO SA bz n Ts x) : zh x.1 x.2.1 x.2.2 = some true := by
  obtain ⟨_, h2, h3, _⟩ := h
  obtain ⟨_, ha, hb, hc, _⟩ := Ou h2
  obtain ⟨_, _, _, h1⟩ := Ot h3
  refine KM x.1 x.2.1 (wf_u16 ha) (wf_u16 hb) (wf_u16 hc) fun y hy => ?_
  obtain ⟨i, hi, rfl⟩ := List.mem_iff_getElem.1 hy
  exact wf_u8 (h1 i _ (List.getElem?_eq_getElem hi))
theorem own : ownKnob Tryd.prog.godebug = none := by kernel_rfl
theorem laidOut : laidOutB Tryd.prog = true := by kernel_rfl
set_option maxRecDepth 100000 in
theorem lifted (os : Os) (started : os.Started) (H : Type) (enc : TypeId × Value → H) :
    ReturnsInHanded {} Tryd.checked os 3 .any (fun w args => (Rows.showLinesSpec.pre enc Tryd.prog Tryd.f3 [] false w args ∧ laidMetH Tryd.prog L7 w) ∧ sizedMet enc Tryd.prog Tryd.f3 (OpenSpec.ofChange Rows.showLinesSpec) false w args)
      (Rows.showLinesSpec.post enc Tryd.prog Tryd.f3 false true false false) := by
  refine Mu (C := Tryd.checked) (X := fun w _ => laidMetH Tryd.prog L7 w) (fun _ _ _ hh h => h.of_heap hh) own started (by kernel_rfl) Tryd.func3
    (ChangeSpec.witness_shaped (enc := enc) (C := Tryd.checked) (os := os) (X := fun w _ => laidMetH Tryd.prog L7 w) false (World.laidAll Tryd.prog os L7) #[.slice none 0 0, .agg #[.int .u16 0, .int .u16 0, .int .u16 0], .slice none 0 0] 8 (World.laidAll_os _ _ _) (World.shaped_of_ZipB (by kernel_rfl) (by kernel_rfl)) (by kernel_rfl) (by kernel_rfl) (by kernel_rfl) (Ic os _)) ?_
  intro W base args ds gs before J8 hW OI J3 hL hsh _
  have hsz : (DataW.weightsEach Tryd.prog (Tryd.f3.params.toList ++ Rows.showLinesSpec.plain.varTypes Tryd.prog) (ds ++ gs)).all (· ≤ reachBytes) = true := J3
  have hval : ∀ (j : Nat) t v, Tryd.f3.params[j]? = some t → args[j]? = some v → Value.okWide Tryd.prog W .any base t v := J8
  have I3 := hW
  obtain ⟨p, q, IU, hV, rfl, hfz, hnd⟩ := hW
  have hA : DataW.TrodAll enc Tryd.prog W 0 (fun _ => true) true Tryd.f3.params.toList args.toList ds p := IU
  rw [Tryd.params3] at hA hval hsz
  obtain ⟨rfl, rfl⟩ := trodVars_none hV
  rw [List.append_nil, show Rows.showLinesSpec.plain.varTypes Tryd.prog = [] from rfl, List.append_nil] at hsz
  obtain ⟨x, n, hx, hwf⟩ := D5 (bz := bz) Lh Nj Nc hbz Ts _ args.toList ds p rfl hA (fun m hm => of_decide_eq_true (List.all_eq_true.1 hsz m hm)) (fun j t v hj hv => hval j t v (by simpa using hj) (by simpa using hv))
  have hk := Kz n x hwf
  have n6 := Ky Kq (fun _ _ h => h) (Bn (S := S) (ty := Go.Sy.look jO) (pt := fun _ => false) (ar := Go.Sy.look BA) (eq := fun _ => false) Ts _ x _ hx) (IN (fun _ _ h => h) hL hsh) hk rfl
  rw [show args.toList.toArray = args from by simp] at n6
  refine n6.mono fun e W' ⟨he, BG⟩ => ?_
  have Jb := BR laidOut BG _ args.toList ds p (by kernel_rfl) hA
  obtain ⟨v0, OU, d0, OD, p0, q0, hargs, rfl, rfl, h0, r0⟩ := trodAll_cons hA
  obtain ⟨v1, nC, d1, Ie, p1, q1, rfl, rfl, rfl, h1, r1⟩ := trodAll_cons r0
  obtain ⟨v2, qR, d2, Cc, p2, q2, rfl, rfl, rfl, h2, r2⟩ := trodAll_cons r1
  obtain ⟨rfl, rfl, rfl⟩ := trodAll_nil r2
  subst he
  exact ⟨_, rfl, _, _, _, [], _, [], I3, trodAll_mk1 (shut_bool Tryd.underlying4 _), Jb, rfl, BG.frame _, fun h => by cases h⟩
theorem over : Rows.showLinesRow.holds Tryd.pinned (OpenSpec.ofChange Rows.showLinesSpec) :=
  OpenClaim.holds_of_wide 3 Tryd.f3 rfl rfl rfl rfl rfl rfl rfl ⟨rfl, rfl, rfl, rfl, rfl⟩ rfl rfl rfl rfl rfl (by kernel_rfl) Tryd.func3 (by kernel_rfl)
    (of_decide_eq_true (by kernel_rfl)) (by unfold Func.isWrapper; first | (rw [if_pos (by decide +kernel)]; kernel_rfl) | (rw [if_neg (by decide +kernel)]; exact ⟨rfl, rfl⟩))
    (fun os started H enc _ => lifted os started H enc)
theorem Nl : ∀ (j : Nat) t, Tryd.f3.params[j]? = some t → Tryd.prog.wantsStandIn t = false := by
  intro j t ht
  have h : Tryd.f3.params.toList.all (fun t => !Tryd.prog.wantsStandIn t) = true := by kernel_rfl
  have hm : t ∈ Tryd.f3.params.toList := by
    rw [← Array.getElem?_toList] at ht
    exact List.mem_of_getElem? ht
  have := List.all_eq_true.1 h t hm
  cases hh : Tryd.prog.wantsStandIn t with
  | false => rfl
  | true => rw [hh] at this; cases this
theorem proved : Rows.ShowLinesCardSaid :=
  Claim7.holds_tied_plain_at .later [] [.data, .data, .data] true (true, "f3ff12697e4d74d16d479185724951e1bc26aab2f7d1698b250640ccbfb4d95c") false
    over (fun _ h => by cases h) (by kernel_rfl) (fun _ h => by cases h) showLines_row_tie rfl ⟨rfl, rfl⟩ (by kernel_rfl) rfl
    (fun f fn hf hfn => by
      obtain rfl : f = 3 := Option.some.inj ((show Tryd.prog.funcNamed "cotillion/cotillionlaw11.ShowLines" = some 3 by kernel_rfl).symm.trans hf) |>.symm
      obtain rfl : fn = Tryd.f3 := (Option.some.inj (Tryd.func3.symm.trans hfn)).symm
      exact ⟨by kernel_rfl, Nl⟩)
    (by kernel_rfl)
end Go.Proofs.YtfacjammklpmpaaDoor.showLines
namespace Go.Proofs.YtfacjammklpmpaaDoor
/-- The row, under a short name. -/
theorem showLines_holds : Rows.ShowLinesCardSaid := showLines.proved
end Go.Proofs.YtfacjammklpmpaaDoor
