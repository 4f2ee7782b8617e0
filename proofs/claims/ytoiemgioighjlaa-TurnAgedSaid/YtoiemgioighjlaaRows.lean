/-
  No cell of these rows narrows 'for every input' (looked for: loops, veiled, ifaces, maps, wideKeys, modest, calm, conditions, laid).
  DERIVED. THE GIVEN ROWS OF THIS SEAT. 9 by the template 'for every input the law returns true; each argument reads behind the call as it read before'; 0 by the template 'total and deterministic' (their statements: YtoiemgioighjlaaTotals.lean).
  GIVEN WITH THE SEED: the statements are not yours to turn. If you find one false, say at which input.
  Laid BY PROGRAM, IN A SANDBOX (cutbox-rows.mjs): the forced cells as the released guide's own fill.sh prints them over the translation fc23a3d3705446cd… (all of the seat's roots in one cut). By AI agents, Wed Nov 11 2026. No macro, syntax, notation, axiom, sorry.
-/
import Derived.Test.YtoiemgioighjlaaChecked
import GoSem.Claim
import GoSem.ClaimJoined
import GoSem.ClaimMapViews
import Derived.JoinedTies
import Derived.KernelRfl
namespace Go.Proofs.Ytoiemgioighjlaa
/- THE CELL 'sum', in the pinned program and in every row, IS THE sha256 OF THE DUMP (.gsa) THAT YtoiemgioighjlaaProg.lean LOADS. Nothing in Lean hashes anything: it is a label: what it is worth is what the hold of that sum in a sandbox is worth. -/
noncomputable def Try.pinned : Pinned := { name := "ytoiemgioighjlaa", sum := "fc23a3d3705446cd05f5f092eab97de0312e359d17bc6102963e3a678a5329ea", checked := Try.checked }
namespace Rows
def none {H : Type} : Left H := { results := [], args := [] }

/-- 'cotillionlaw24.DrrFair': WHATEVER THE INPUT: true; the input reads as it did. -/
def drrFairSpec : ChangeSpec := { name := "drrFair", fn := fun _ => fun
  | [d1, d2, d3, d4] => { results := [.lit (.bool true)], args := [d1, d2, d3, d4] }
  | _ => none }
def drrFairRow : OpenClaim := { program := "ytoiemgioighjlaa", sum := "fc23a3d3705446cd05f5f092eab97de0312e359d17bc6102963e3a678a5329ea", func := "cotillion/cotillionlaw24.DrrFair", spec := "drrFair", unfollowed := true, recurses := true, apart := false }
def DrrFairSaid : Prop := drrFairRow.holds Try.pinned (OpenSpec.ofChange drrFairSpec)

/-- ITS FALSE NEIGHBOUR: 'it returns false'. Refute it at one input. -/
def drrFairWrong : ChangeSpec := { name := "drrFair", fn := fun _ => fun
  | [d1, d2, d3, d4] => { results := [.lit (.bool false)], args := [d1, d2, d3, d4] }
  | _ => none }
def DrrFairWrongFalsely : Prop := drrFairRow.holds Try.pinned (OpenSpec.ofChange drrFairWrong)

/-- 'cotillionlaw24.DrrShares': WHATEVER THE INPUT: true; the input reads as it did. -/
def drrSharesSpec : ChangeSpec := { name := "drrShares", fn := fun _ => fun
  | [d1, d2] => { results := [.lit (.bool true)], args := [d1, d2] }
  | _ => none }
def drrSharesRow : OpenClaim := { program := "ytoiemgioighjlaa", sum := "fc23a3d3705446cd05f5f092eab97de0312e359d17bc6102963e3a678a5329ea", func := "cotillion/cotillionlaw24.DrrShares", spec := "drrShares", unfollowed := true, recurses := true, apart := false }
def DrrSharesSaid : Prop := drrSharesRow.holds Try.pinned (OpenSpec.ofChange drrSharesSpec)

/-- ITS FALSE NEIGHBOUR: 'it returns false'. Refute it at one input. -/
def drrSharesWrong : ChangeSpec := { name := "drrShares", fn := fun _ => fun
  | [d1, d2] => { results := [.lit (.bool false)], args := [d1, d2] }
  | _ => none }
def DrrSharesWrongFalsely : Prop := drrSharesRow.holds Try.pinned (OpenSpec.ofChange drrSharesWrong)

/-- 'cotillionlaw24.DrrOnly': WHATEVER THE INPUT: true; the input reads as it did. -/
def drrOnlySpec : ChangeSpec := { name := "drrOnly", fn := fun _ => fun
  | [d1, d2, d3, d4] => { results := [.lit (.bool true)], args := [d1, d2, d3, d4] }
  | _ => none }
def drrOnlyRow : OpenClaim := { program := "ytoiemgioighjlaa", sum := "fc23a3d3705446cd05f5f092eab97de0312e359d17bc6102963e3a678a5329ea", func := "cotillion/cotillionlaw24.DrrOnly", spec := "drrOnly", unfollowed := true, recurses := true, apart := false }
def DrrOnlySaid : Prop := drrOnlyRow.holds Try.pinned (OpenSpec.ofChange drrOnlySpec)

/-- ITS FALSE NEIGHBOUR: 'it returns false'. Refute it at one input. -/
def drrOnlyWrong : ChangeSpec := { name := "drrOnly", fn := fun _ => fun
  | [d1, d2, d3, d4] => { results := [.lit (.bool false)], args := [d1, d2, d3, d4] }
  | _ => none }
def DrrOnlyWrongFalsely : Prop := drrOnlyRow.holds Try.pinned (OpenSpec.ofChange drrOnlyWrong)

/-- 'cotillionlaw24.DrrPlays': WHATEVER THE INPUT: true; the input reads as it did. -/
def drrPlaysSpec : ChangeSpec := { name := "drrPlays", fn := fun _ => fun
  | [d1, d2] => { results := [.lit (.bool true)], args := [d1, d2] }
  | _ => none }
def drrPlaysRow : OpenClaim := { program := "ytoiemgioighjlaa", sum := "fc23a3d3705446cd05f5f092eab97de0312e359d17bc6102963e3a678a5329ea", func := "cotillion/cotillionlaw24.DrrPlays", spec := "drrPlays", unfollowed := true, recurses := true, apart := false }
def DrrPlaysSaid : Prop := drrPlaysRow.holds Try.pinned (OpenSpec.ofChange drrPlaysSpec)

/-- ITS FALSE NEIGHBOUR: 'it returns false'. Refute it at one input. -/
def drrPlaysWrong : ChangeSpec := { name := "drrPlays", fn := fun _ => fun
  | [d1, d2] => { results := [.lit (.bool false)], args := [d1, d2] }
  | _ => none }
def DrrPlaysWrongFalsely : Prop := drrPlaysRow.holds Try.pinned (OpenSpec.ofChange drrPlaysWrong)

/-- 'cotillionlaw24.DrrNone': WHATEVER THE INPUT: true; the input reads as it did. -/
def drrNoneSpec : ChangeSpec := { name := "drrNone", fn := fun _ => fun
  | [d1, d2, d3] => { results := [.lit (.bool true)], args := [d1, d2, d3] }
  | _ => none }
def drrNoneRow : OpenClaim := { program := "ytoiemgioighjlaa", sum := "fc23a3d3705446cd05f5f092eab97de0312e359d17bc6102963e3a678a5329ea", func := "cotillion/cotillionlaw24.DrrNone", spec := "drrNone", unfollowed := true, recurses := true, apart := false }
def DrrNoneSaid : Prop := drrNoneRow.holds Try.pinned (OpenSpec.ofChange drrNoneSpec)

/-- ITS FALSE NEIGHBOUR: 'it returns false'. Refute it at one input. -/
def drrNoneWrong : ChangeSpec := { name := "drrNone", fn := fun _ => fun
  | [d1, d2, d3] => { results := [.lit (.bool false)], args := [d1, d2, d3] }
  | _ => none }
def DrrNoneWrongFalsely : Prop := drrNoneRow.holds Try.pinned (OpenSpec.ofChange drrNoneWrong)

/-- 'cotillionlaw25.TurnTells': WHATEVER THE INPUT: true; the input reads as it did. -/
def turnTellsSpec : ChangeSpec := { name := "turnTells", fn := fun _ => fun
  | [d1, d2, d3, d4] => { results := [.lit (.bool true)], args := [d1, d2, d3, d4] }
  | _ => none }
def turnTellsRow : OpenClaim := { program := "ytoiemgioighjlaa", sum := "fc23a3d3705446cd05f5f092eab97de0312e359d17bc6102963e3a678a5329ea", func := "cotillion/cotillionlaw25.TurnTells", spec := "turnTells", apart := false }
def TurnTellsSaid : Prop := turnTellsRow.holds Try.pinned (OpenSpec.ofChange turnTellsSpec)

/-- ITS FALSE NEIGHBOUR: 'it returns false'. Refute it at one input. -/
def turnTellsWrong : ChangeSpec := { name := "turnTells", fn := fun _ => fun
  | [d1, d2, d3, d4] => { results := [.lit (.bool false)], args := [d1, d2, d3, d4] }
  | _ => none }
def TurnTellsWrongFalsely : Prop := turnTellsRow.holds Try.pinned (OpenSpec.ofChange turnTellsWrong)

/-- 'cotillionlaw25.TurnAged': WHATEVER THE INPUT: true; the input reads as it did. -/
def turnAgedSpec : ChangeSpec := { name := "turnAged", fn := fun _ => fun
  | [d1, d2, d3, d4] => { results := [.lit (.bool true)], args := [d1, d2, d3, d4] }
  | _ => none }
def turnAgedRow : OpenClaim := { program := "ytoiemgioighjlaa", sum := "fc23a3d3705446cd05f5f092eab97de0312e359d17bc6102963e3a678a5329ea", func := "cotillion/cotillionlaw25.TurnAged", spec := "turnAged", apart := false }
def TurnAgedSaid : Prop := turnAgedRow.holds Try.pinned (OpenSpec.ofChange turnAgedSpec)

/-- ITS FALSE NEIGHBOUR: 'it returns false'. Refute it at one input. -/
def turnAgedWrong : ChangeSpec := { name := "turnAged", fn := fun _ => fun
  | [d1, d2, d3, d4] => { results := [.lit (.bool false)], args := [d1, d2, d3, d4] }
  | _ => none }
def TurnAgedWrongFalsely : Prop := turnAgedRow.holds Try.pinned (OpenSpec.ofChange turnAgedWrong)

/-- 'cotillionlaw25.TurnElder': WHATEVER THE INPUT: true; the input reads as it did. -/
def turnElderSpec : ChangeSpec := { name := "turnElder", fn := fun _ => fun
  | [d1, d2, d3] => { results := [.lit (.bool true)], args := [d1, d2, d3] }
  | _ => none }
def turnElderRow : OpenClaim := { program := "ytoiemgioighjlaa", sum := "fc23a3d3705446cd05f5f092eab97de0312e359d17bc6102963e3a678a5329ea", func := "cotillion/cotillionlaw25.TurnElder", spec := "turnElder", apart := false }
def TurnElderSaid : Prop := turnElderRow.holds Try.pinned (OpenSpec.ofChange turnElderSpec)

/-- ITS FALSE NEIGHBOUR: 'it returns false'. Refute it at one input. -/
def turnElderWrong : ChangeSpec := { name := "turnElder", fn := fun _ => fun
  | [d1, d2, d3] => { results := [.lit (.bool false)], args := [d1, d2, d3] }
  | _ => none }
def TurnElderWrongFalsely : Prop := turnElderRow.holds Try.pinned (OpenSpec.ofChange turnElderWrong)

/-- 'cotillionlaw25.TurnStands': WHATEVER THE INPUT: true; the input reads as it did. -/
def turnStandsSpec : ChangeSpec := { name := "turnStands", fn := fun _ => fun
  | [d1, d2, d3, d4] => { results := [.lit (.bool true)], args := [d1, d2, d3, d4] }
  | _ => none }
def turnStandsRow : OpenClaim := { program := "ytoiemgioighjlaa", sum := "fc23a3d3705446cd05f5f092eab97de0312e359d17bc6102963e3a678a5329ea", func := "cotillion/cotillionlaw25.TurnStands", spec := "turnStands", apart := false }
def TurnStandsSaid : Prop := turnStandsRow.holds Try.pinned (OpenSpec.ofChange turnStandsSpec)

/-- ITS FALSE NEIGHBOUR: 'it returns false'. Refute it at one input. -/
def turnStandsWrong : ChangeSpec := { name := "turnStands", fn := fun _ => fun
  | [d1, d2, d3, d4] => { results := [.lit (.bool false)], args := [d1, d2, d3, d4] }
  | _ => none }
def TurnStandsWrongFalsely : Prop := turnStandsRow.holds Try.pinned (OpenSpec.ofChange turnStandsWrong)

/- THE SECOND FORM. 'bulk': how many values and letters a reading holds, each counted each time it is reached (what is shared counts as often as it is met; a slice's spare places count too). A statement '..UptoSaid' is the law's where the arguments, and the package variables that the reading takes, are together of bulk at most 1048576: NARROWER than '..Said'. Prove '..Said' where nothing that the law and all that it calls make is longer than what came in: it says more and counts as full. Else prove '..UptoSaid'. A law counts once. -/
mutual
def uptoBulk {H : Type} : DataW H → Nat
  | .lit (.string bytes) => bytes.length + 1
  | .lit _ => 1
  | .nil => 1
  | .ptr d => uptoBulk d + 1
  | .slice elems spare => uptoBulkAll elems + uptoBulkAll spare + 1
  | .agg parts => uptoBulkAll parts + 1
  | .iface _ d => uptoBulk d + 1
  | .map entries => uptoBulkEntries entries + 1
  | .held _ => 1
def uptoBulkAll {H : Type} : List (DataW H) → Nat
  | [] => 0
  | d :: r => uptoBulk d + uptoBulkAll r
def uptoBulkEntries {H : Type} : List (Lit × DataW H) → Nat
  | [] => 0
  | x :: r => uptoBulkEntry x + uptoBulkEntries r
def uptoBulkEntry {H : Type} : Lit × DataW H → Nat
  | (.string bytes, d) => bytes.length + uptoBulk d + 1
  | (_, d) => uptoBulk d + 1
 end
def uptoSmall : (H : Type) → List (DataW H) → Bool := fun _ ds => decide (uptoBulkAll ds ≤ 1048576)
def OpenSpec.upto (s : _root_.Go.ChangeSpec) : _root_.Go.OpenSpec := { _root_.Go.OpenSpec.ofChange s with cond := some uptoSmall }

/-- 'cotillionlaw24.DrrFair', WHERE WHAT IT READS IS OF BULK AT MOST 1048576: true; the input reads as it did. -/
def drrFairUptoRow : OpenClaim := { program := "ytoiemgioighjlaa", sum := "fc23a3d3705446cd05f5f092eab97de0312e359d17bc6102963e3a678a5329ea", func := "cotillion/cotillionlaw24.DrrFair", spec := "drrFair", unfollowed := true, recurses := true, apart := false, narrowed := true }
def DrrFairUptoSaid : Prop := drrFairUptoRow.holds Try.pinned (OpenSpec.upto drrFairSpec)

/-- 'cotillionlaw24.DrrShares', WHERE WHAT IT READS IS OF BULK AT MOST 1048576: true; the input reads as it did. -/
def drrSharesUptoRow : OpenClaim := { program := "ytoiemgioighjlaa", sum := "fc23a3d3705446cd05f5f092eab97de0312e359d17bc6102963e3a678a5329ea", func := "cotillion/cotillionlaw24.DrrShares", spec := "drrShares", unfollowed := true, recurses := true, apart := false, narrowed := true }
def DrrSharesUptoSaid : Prop := drrSharesUptoRow.holds Try.pinned (OpenSpec.upto drrSharesSpec)

/-- 'cotillionlaw24.DrrOnly', WHERE WHAT IT READS IS OF BULK AT MOST 1048576: true; the input reads as it did. -/
def drrOnlyUptoRow : OpenClaim := { program := "ytoiemgioighjlaa", sum := "fc23a3d3705446cd05f5f092eab97de0312e359d17bc6102963e3a678a5329ea", func := "cotillion/cotillionlaw24.DrrOnly", spec := "drrOnly", unfollowed := true, recurses := true, apart := false, narrowed := true }
def DrrOnlyUptoSaid : Prop := drrOnlyUptoRow.holds Try.pinned (OpenSpec.upto drrOnlySpec)

/-- 'cotillionlaw24.DrrPlays', WHERE WHAT IT READS IS OF BULK AT MOST 1048576: true; the input reads as it did. -/
def drrPlaysUptoRow : OpenClaim := { program := "ytoiemgioighjlaa", sum := "fc23a3d3705446cd05f5f092eab97de0312e359d17bc6102963e3a678a5329ea", func := "cotillion/cotillionlaw24.DrrPlays", spec := "drrPlays", unfollowed := true, recurses := true, apart := false, narrowed := true }
def DrrPlaysUptoSaid : Prop := drrPlaysUptoRow.holds Try.pinned (OpenSpec.upto drrPlaysSpec)

/-- 'cotillionlaw24.DrrNone', WHERE WHAT IT READS IS OF BULK AT MOST 1048576: true; the input reads as it did. -/
def drrNoneUptoRow : OpenClaim := { program := "ytoiemgioighjlaa", sum := "fc23a3d3705446cd05f5f092eab97de0312e359d17bc6102963e3a678a5329ea", func := "cotillion/cotillionlaw24.DrrNone", spec := "drrNone", unfollowed := true, recurses := true, apart := false, narrowed := true }
def DrrNoneUptoSaid : Prop := drrNoneUptoRow.holds Try.pinned (OpenSpec.upto drrNoneSpec)

/-- 'cotillionlaw25.TurnTells', WHERE WHAT IT READS IS OF BULK AT MOST 1048576: true; the input reads as it did. -/
def turnTellsUptoRow : OpenClaim := { program := "ytoiemgioighjlaa", sum := "fc23a3d3705446cd05f5f092eab97de0312e359d17bc6102963e3a678a5329ea", func := "cotillion/cotillionlaw25.TurnTells", spec := "turnTells", apart := false, narrowed := true }
def TurnTellsUptoSaid : Prop := turnTellsUptoRow.holds Try.pinned (OpenSpec.upto turnTellsSpec)

/-- 'cotillionlaw25.TurnAged', WHERE WHAT IT READS IS OF BULK AT MOST 1048576: true; the input reads as it did. -/
def turnAgedUptoRow : OpenClaim := { program := "ytoiemgioighjlaa", sum := "fc23a3d3705446cd05f5f092eab97de0312e359d17bc6102963e3a678a5329ea", func := "cotillion/cotillionlaw25.TurnAged", spec := "turnAged", apart := false, narrowed := true }
def TurnAgedUptoSaid : Prop := turnAgedUptoRow.holds Try.pinned (OpenSpec.upto turnAgedSpec)

/-- 'cotillionlaw25.TurnElder', WHERE WHAT IT READS IS OF BULK AT MOST 1048576: true; the input reads as it did. -/
def turnElderUptoRow : OpenClaim := { program := "ytoiemgioighjlaa", sum := "fc23a3d3705446cd05f5f092eab97de0312e359d17bc6102963e3a678a5329ea", func := "cotillion/cotillionlaw25.TurnElder", spec := "turnElder", apart := false, narrowed := true }
def TurnElderUptoSaid : Prop := turnElderUptoRow.holds Try.pinned (OpenSpec.upto turnElderSpec)

/-- 'cotillionlaw25.TurnStands', WHERE WHAT IT READS IS OF BULK AT MOST 1048576: true; the input reads as it did. -/
def turnStandsUptoRow : OpenClaim := { program := "ytoiemgioighjlaa", sum := "fc23a3d3705446cd05f5f092eab97de0312e359d17bc6102963e3a678a5329ea", func := "cotillion/cotillionlaw25.TurnStands", spec := "turnStands", apart := false, narrowed := true }
def TurnStandsUptoSaid : Prop := turnStandsUptoRow.holds Try.pinned (OpenSpec.upto turnStandsSpec)

end Rows
end Go.Proofs.Ytoiemgioighjlaa
