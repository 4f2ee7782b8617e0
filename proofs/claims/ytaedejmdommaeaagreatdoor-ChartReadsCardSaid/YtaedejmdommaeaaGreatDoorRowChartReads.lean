/- Proved: for every input that the statement lets in, ChartReads returns true and each argument reads afterwards as it read before; the package variables start as the program's text lays them. -/
import Derived.Test.YtaedejmdommaeaaGreatDoorRows
import Derived.Test.YtaedejmdommaeaaGreatDoorLChartReadsb
import Derived.WalkKit
import Derived.ProofKit
import Derived.OpenShut
import Derived.ShutString
import Derived.ChangeOld
import Derived.SizedLaws
import Derived.Test.YtaedejmdommaeaaGreatDoorCards
import Derived.Test.YtaedejmdommaeaaGreatDoorTie
import Derived.SevenTiedAt
set_option linter.unusedVariables false
set_option linter.unusedSimpArgs false
namespace Go.Proofs.YtaedejmdommaeaaGreatDoor.chartReads
open Go.ChangeShapes Go.WideShapes Go.ChangeAt Go.RowKit
open Go.ChangeMaps (open_string shut_string)
open Go.Sy Go.Sy.Ex
abbrev Ts : List Ty := [.str, .int .i64]
theorem Wc (n : Nat) (x : List UInt8 × Int) (h : sV SA bz n Ts x) : BI x.1 x.2 = some true := Tb x.1 x.2
theorem own : ownKnob Tryz.prog.godebug = none := by kernel_rfl
theorem laidOut : laidOutB Tryz.prog = true := by kernel_rfl
set_option maxRecDepth 100000 in
theorem lifted (os : Os) (started : os.Started) (H : Type) (enc : TypeId × Value → H) :
    ReturnsInHanded {} Tryz.checked os 5 .any (fun w args => (Rows.chartReadsSpec.pre enc Tryz.prog Tryz.f5 [] false w args ∧ laidMetH Tryz.prog L7 w) ∧ sizedMet enc Tryz.prog Tryz.f5 (OpenSpec.ofChange Rows.chartReadsSpec) false w args)
      (Rows.chartReadsSpec.post enc Tryz.prog Tryz.f5 false true false false) := by
  refine Z6 (C := Tryz.checked) (X := fun w _ => laidMetH Tryz.prog L7 w) (fun _ _ _ hh h => h.of_heap hh) own started (by kernel_rfl) Tryz.func5
    (ChangeSpec.witness_shaped (enc := enc) (C := Tryz.checked) (os := os) (X := fun w _ => laidMetH Tryz.prog L7 w) false (World.laidAll Tryz.prog os L7) #[.string ByteArray.empty, .int .i64 0] 8 (World.laidAll_os _ _ _) (World.shaped_of_ZipB (by kernel_rfl) (by kernel_rfl)) (by kernel_rfl) (by kernel_rfl) (by kernel_rfl) (Te os _)) ?_
  intro W base args ds gs before VF hW acn Vy hL hsh _
  have hsz : (DataW.weightsEach Tryz.prog (Tryz.f5.params.toList ++ Rows.chartReadsSpec.plain.varTypes Tryz.prog) (ds ++ gs)).all (· ≤ reachBytes) = true := Vy
  have hval : ∀ (j : Nat) t v, Tryz.f5.params[j]? = some t → args[j]? = some v → Value.okWide Tryz.prog W .any base t v := VF
  have Uq := hW
  obtain ⟨p, q, Uk, hV, rfl, hfz, hnd⟩ := hW
  have hA : DataW.TrodAll enc Tryz.prog W 0 (fun _ => true) true Tryz.f5.params.toList args.toList ds p := Uk
  rw [Tryz.params5] at hA hval hsz
  obtain ⟨rfl, rfl⟩ := trodVars_none hV
  rw [List.append_nil, show Rows.chartReadsSpec.plain.varTypes Tryz.prog = [] from rfl, List.append_nil] at hsz
  obtain ⟨x, n, hx, hwf⟩ := MM (bz := bz) XA aa3 aaO hbz Ts _ args.toList ds p rfl hA (fun m hm => of_decide_eq_true (List.all_eq_true.1 hsz m hm)) (fun j t v hj hv => hval j t v (by simpa using hj) (by simpa using hv))
  have hk := Wc n x hwf
  have tV := Wb V6 (fun _ _ h => h) (IE (S := S) (ty := Go.Sy.look l8) (pt := fun _ => false) (ar := Go.Sy.look Jb) (eq := fun _ => false) Ts _ x _ hx) (Ub (fun _ _ h => h) hL hsh) hk rfl
  rw [show args.toList.toArray = args from by simp] at tV
  refine tV.mono fun e W' ⟨he, Jl⟩ => ?_
  have UD := Jy laidOut Jl _ args.toList ds p (by kernel_rfl) hA
  obtain ⟨v0, vs0, d0, ds0, p0, q0, hargs, rfl, rfl, h0, r0⟩ := trodAll_cons hA
  obtain ⟨v1, Dw, d1, Tf, p1, q1, rfl, rfl, rfl, h1, r1⟩ := trodAll_cons r0
  obtain ⟨rfl, rfl, rfl⟩ := trodAll_nil r1
  subst he
  exact ⟨_, rfl, _, _, _, [], _, [], Uq, trodAll_mk1 (shut_bool Tryz.underlying4 _), UD, rfl, Jl.frame _, fun h => by cases h⟩
theorem over : Rows.chartReadsRow.holds Tryz.pinned (OpenSpec.ofChange Rows.chartReadsSpec) :=
  OpenClaim.holds_of_wide 5 Tryz.f5 rfl rfl rfl rfl rfl rfl rfl ⟨rfl, rfl, rfl, rfl, rfl⟩ rfl rfl rfl rfl rfl (by kernel_rfl) Tryz.func5 (by kernel_rfl)
    (of_decide_eq_true (by kernel_rfl)) (by unfold Func.isWrapper; first | (rw [if_pos (by decide +kernel)]; kernel_rfl) | (rw [if_neg (by decide +kernel)]; exact ⟨rfl, rfl⟩))
    (fun os started H enc _ => lifted os started H enc)
theorem aa4 : ∀ (j : Nat) t, Tryz.f5.params[j]? = some t → Tryz.prog.wantsStandIn t = false := by
  intro j t ht
  have h : Tryz.f5.params.toList.all (fun t => !Tryz.prog.wantsStandIn t) = true := by kernel_rfl
  have hm : t ∈ Tryz.f5.params.toList := by
    rw [← Array.getElem?_toList] at ht
    exact List.mem_of_getElem? ht
  have := List.all_eq_true.1 h t hm
  cases hh : Tryz.prog.wantsStandIn t with
  | false => rfl
  | true => rw [hh] at this; cases this
theorem proved : Rows.ChartReadsCardSaid :=
  Claim7.holds_tied_plain_at .later [] [.data, .data, .data, .sentinel, .sentinel] true (true, "00f033171ce1d2525e846f974b522ac69527d2fbe76468d3a395892125e71065") true
    over (fun _ h => by cases h) (by kernel_rfl) (fun _ h => by cases h) chartReads_row_tie rfl ⟨rfl, rfl⟩ (by kernel_rfl) rfl
    (fun f fn hf hfn => by
      obtain rfl : f = 5 := Option.some.inj ((show Tryz.prog.funcNamed "cotillion/cotillionlaw9.ChartReads" = some 5 by kernel_rfl).symm.trans hf) |>.symm
      obtain rfl : fn = Tryz.f5 := (Option.some.inj (Tryz.func5.symm.trans hfn)).symm
      exact ⟨by kernel_rfl, aa4⟩)
    (by kernel_rfl)
end Go.Proofs.YtaedejmdommaeaaGreatDoor.chartReads
namespace Go.Proofs.YtaedejmdommaeaaGreatDoor
/-- The row, under a short name. -/
theorem chartReads_holds : Rows.ChartReadsCardSaid := chartReads.proved
end Go.Proofs.YtaedejmdommaeaaGreatDoor
