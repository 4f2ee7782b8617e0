/-
  No cell of these rows narrows 'for every input' (looked for: loops, veiled, ifaces, maps, wideKeys, modest, calm, conditions, laid).
  DERIVED. THE GIVEN ROWS OF THIS SEAT. 9 by the template 'for every input the law returns true; each argument reads behind the call as it read before'; 0 by the template 'total and deterministic' (their statements: YtebdlhoeomdlmaaTotals.lean).
  GIVEN WITH THE SEED: the statements are not yours to turn. If you find one false, say at which input.
  Laid BY PROGRAM, IN A SANDBOX (cutbox-rows.mjs): the forced cells as the released guide's own fill.sh prints them over the translation 58777cbb7baf459b… (all of the seat's roots in one cut). By AI agents, Wed Nov 11 2026. No macro, syntax, notation, axiom, sorry.
-/
import Derived.Test.YtebdlhoeomdlmaaChecked
import GoSem.Claim
import GoSem.ClaimJoined
import GoSem.ClaimMapViews
import Derived.JoinedTies
import Derived.KernelRfl
namespace Go.Proofs.Ytebdlhoeomdlmaa
/- THE CELL 'sum', in the pinned program and in every row, IS THE sha256 OF THE DUMP (.gsa) THAT YtebdlhoeomdlmaaProg.lean LOADS. Nothing in Lean hashes anything: it is a label: what it is worth is what the hold of that sum in a sandbox is worth. -/
noncomputable def Try.pinned : Pinned := { name := "ytebdlhoeomdlmaa", sum := "58777cbb7baf459bb0e99bf367d14d114f27eaeb233deec279e8ff58aebae0d1", checked := Try.checked }
namespace Rows
def none {H : Type} : Left H := { results := [], args := [] }

/-- 'cotillionlaw2.RingMsgs': WHATEVER THE INPUT: true; the input reads as it did. -/
def ringMsgsSpec : ChangeSpec := { name := "ringMsgs", fn := fun _ => fun
  | [d1, d2] => { results := [.lit (.bool true)], args := [d1, d2] }
  | _ => none }
def ringMsgsRow : OpenClaim := { program := "ytebdlhoeomdlmaa", sum := "58777cbb7baf459bb0e99bf367d14d114f27eaeb233deec279e8ff58aebae0d1", func := "cotillion/cotillionlaw2.RingMsgs", spec := "ringMsgs", apart := false }
def RingMsgsSaid : Prop := ringMsgsRow.holds Try.pinned (OpenSpec.ofChange ringMsgsSpec)

/-- ITS FALSE NEIGHBOUR: 'it returns false'. Refute it at one input. -/
def ringMsgsWrong : ChangeSpec := { name := "ringMsgs", fn := fun _ => fun
  | [d1, d2] => { results := [.lit (.bool false)], args := [d1, d2] }
  | _ => none }
def RingMsgsWrongFalsely : Prop := ringMsgsRow.holds Try.pinned (OpenSpec.ofChange ringMsgsWrong)

/-- 'cotillionlaw2.RingOwn': WHATEVER THE INPUT: true; the input reads as it did. -/
def ringOwnSpec : ChangeSpec := { name := "ringOwn", fn := fun _ => fun
  | [d1, d2] => { results := [.lit (.bool true)], args := [d1, d2] }
  | _ => none }
def ringOwnRow : OpenClaim := { program := "ytebdlhoeomdlmaa", sum := "58777cbb7baf459bb0e99bf367d14d114f27eaeb233deec279e8ff58aebae0d1", func := "cotillion/cotillionlaw2.RingOwn", spec := "ringOwn", apart := false }
def RingOwnSaid : Prop := ringOwnRow.holds Try.pinned (OpenSpec.ofChange ringOwnSpec)

/-- ITS FALSE NEIGHBOUR: 'it returns false'. Refute it at one input. -/
def ringOwnWrong : ChangeSpec := { name := "ringOwn", fn := fun _ => fun
  | [d1, d2] => { results := [.lit (.bool false)], args := [d1, d2] }
  | _ => none }
def RingOwnWrongFalsely : Prop := ringOwnRow.holds Try.pinned (OpenSpec.ofChange ringOwnWrong)

/-- 'cotillionlaw2.RingPlays': WHATEVER THE INPUT: true; the input reads as it did. -/
def ringPlaysSpec : ChangeSpec := { name := "ringPlays", fn := fun _ => fun
  | [d1, d2] => { results := [.lit (.bool true)], args := [d1, d2] }
  | _ => none }
def ringPlaysRow : OpenClaim := { program := "ytebdlhoeomdlmaa", sum := "58777cbb7baf459bb0e99bf367d14d114f27eaeb233deec279e8ff58aebae0d1", func := "cotillion/cotillionlaw2.RingPlays", spec := "ringPlays", apart := false }
def RingPlaysSaid : Prop := ringPlaysRow.holds Try.pinned (OpenSpec.ofChange ringPlaysSpec)

/-- ITS FALSE NEIGHBOUR: 'it returns false'. Refute it at one input. -/
def ringPlaysWrong : ChangeSpec := { name := "ringPlays", fn := fun _ => fun
  | [d1, d2] => { results := [.lit (.bool false)], args := [d1, d2] }
  | _ => none }
def RingPlaysWrongFalsely : Prop := ringPlaysRow.holds Try.pinned (OpenSpec.ofChange ringPlaysWrong)

/-- 'cotillionlaw2.RingNone': WHATEVER THE INPUT: true; the input reads as it did. -/
def ringNoneSpec : ChangeSpec := { name := "ringNone", fn := fun _ => fun
  | [d1, d2] => { results := [.lit (.bool true)], args := [d1, d2] }
  | _ => none }
def ringNoneRow : OpenClaim := { program := "ytebdlhoeomdlmaa", sum := "58777cbb7baf459bb0e99bf367d14d114f27eaeb233deec279e8ff58aebae0d1", func := "cotillion/cotillionlaw2.RingNone", spec := "ringNone", apart := false }
def RingNoneSaid : Prop := ringNoneRow.holds Try.pinned (OpenSpec.ofChange ringNoneSpec)

/-- ITS FALSE NEIGHBOUR: 'it returns false'. Refute it at one input. -/
def ringNoneWrong : ChangeSpec := { name := "ringNone", fn := fun _ => fun
  | [d1, d2] => { results := [.lit (.bool false)], args := [d1, d2] }
  | _ => none }
def RingNoneWrongFalsely : Prop := ringNoneRow.holds Try.pinned (OpenSpec.ofChange ringNoneWrong)

/-- 'cotillionlaw4.LedgerSums': WHATEVER THE INPUT: true; the input reads as it did. -/
def ledgerSumsSpec : ChangeSpec := { name := "ledgerSums", fn := fun _ => fun
  | [d1, d2] => { results := [.lit (.bool true)], args := [d1, d2] }
  | _ => none }
def ledgerSumsRow : OpenClaim := { program := "ytebdlhoeomdlmaa", sum := "58777cbb7baf459bb0e99bf367d14d114f27eaeb233deec279e8ff58aebae0d1", func := "cotillion/cotillionlaw4.LedgerSums", spec := "ledgerSums", unfollowed := true, recurses := true, apart := false }
def LedgerSumsSaid : Prop := ledgerSumsRow.holds Try.pinned (OpenSpec.ofChange ledgerSumsSpec)

/-- ITS FALSE NEIGHBOUR: 'it returns false'. Refute it at one input. -/
def ledgerSumsWrong : ChangeSpec := { name := "ledgerSums", fn := fun _ => fun
  | [d1, d2] => { results := [.lit (.bool false)], args := [d1, d2] }
  | _ => none }
def LedgerSumsWrongFalsely : Prop := ledgerSumsRow.holds Try.pinned (OpenSpec.ofChange ledgerSumsWrong)

/-- 'cotillionlaw4.LedgerCaps': WHATEVER THE INPUT: true; the input reads as it did. -/
def ledgerCapsSpec : ChangeSpec := { name := "ledgerCaps", fn := fun _ => fun
  | [d1, d2, d3] => { results := [.lit (.bool true)], args := [d1, d2, d3] }
  | _ => none }
def ledgerCapsRow : OpenClaim := { program := "ytebdlhoeomdlmaa", sum := "58777cbb7baf459bb0e99bf367d14d114f27eaeb233deec279e8ff58aebae0d1", func := "cotillion/cotillionlaw4.LedgerCaps", spec := "ledgerCaps", unfollowed := true, recurses := true, apart := false }
def LedgerCapsSaid : Prop := ledgerCapsRow.holds Try.pinned (OpenSpec.ofChange ledgerCapsSpec)

/-- ITS FALSE NEIGHBOUR: 'it returns false'. Refute it at one input. -/
def ledgerCapsWrong : ChangeSpec := { name := "ledgerCaps", fn := fun _ => fun
  | [d1, d2, d3] => { results := [.lit (.bool false)], args := [d1, d2, d3] }
  | _ => none }
def LedgerCapsWrongFalsely : Prop := ledgerCapsRow.holds Try.pinned (OpenSpec.ofChange ledgerCapsWrong)

/-- 'cotillionlaw4.LedgerPlays': WHATEVER THE INPUT: true; the input reads as it did. -/
def ledgerPlaysSpec : ChangeSpec := { name := "ledgerPlays", fn := fun _ => fun
  | [d1, d2, d3] => { results := [.lit (.bool true)], args := [d1, d2, d3] }
  | _ => none }
def ledgerPlaysRow : OpenClaim := { program := "ytebdlhoeomdlmaa", sum := "58777cbb7baf459bb0e99bf367d14d114f27eaeb233deec279e8ff58aebae0d1", func := "cotillion/cotillionlaw4.LedgerPlays", spec := "ledgerPlays", unfollowed := true, recurses := true, apart := false }
def LedgerPlaysSaid : Prop := ledgerPlaysRow.holds Try.pinned (OpenSpec.ofChange ledgerPlaysSpec)

/-- ITS FALSE NEIGHBOUR: 'it returns false'. Refute it at one input. -/
def ledgerPlaysWrong : ChangeSpec := { name := "ledgerPlays", fn := fun _ => fun
  | [d1, d2, d3] => { results := [.lit (.bool false)], args := [d1, d2, d3] }
  | _ => none }
def LedgerPlaysWrongFalsely : Prop := ledgerPlaysRow.holds Try.pinned (OpenSpec.ofChange ledgerPlaysWrong)

/-- 'cotillionlaw4.LedgerDrains': WHATEVER THE INPUT: true; the input reads as it did. -/
def ledgerDrainsSpec : ChangeSpec := { name := "ledgerDrains", fn := fun _ => fun
  | [d1, d2] => { results := [.lit (.bool true)], args := [d1, d2] }
  | _ => none }
def ledgerDrainsRow : OpenClaim := { program := "ytebdlhoeomdlmaa", sum := "58777cbb7baf459bb0e99bf367d14d114f27eaeb233deec279e8ff58aebae0d1", func := "cotillion/cotillionlaw4.LedgerDrains", spec := "ledgerDrains", unfollowed := true, recurses := true, apart := false }
def LedgerDrainsSaid : Prop := ledgerDrainsRow.holds Try.pinned (OpenSpec.ofChange ledgerDrainsSpec)

/-- ITS FALSE NEIGHBOUR: 'it returns false'. Refute it at one input. -/
def ledgerDrainsWrong : ChangeSpec := { name := "ledgerDrains", fn := fun _ => fun
  | [d1, d2] => { results := [.lit (.bool false)], args := [d1, d2] }
  | _ => none }
def LedgerDrainsWrongFalsely : Prop := ledgerDrainsRow.holds Try.pinned (OpenSpec.ofChange ledgerDrainsWrong)

/-- 'cotillionlaw4.LedgerNone': WHATEVER THE INPUT: true; the input reads as it did. -/
def ledgerNoneSpec : ChangeSpec := { name := "ledgerNone", fn := fun _ => fun
  | [d1, d2] => { results := [.lit (.bool true)], args := [d1, d2] }
  | _ => none }
def ledgerNoneRow : OpenClaim := { program := "ytebdlhoeomdlmaa", sum := "58777cbb7baf459bb0e99bf367d14d114f27eaeb233deec279e8ff58aebae0d1", func := "cotillion/cotillionlaw4.LedgerNone", spec := "ledgerNone", unfollowed := true, recurses := true, apart := false }
def LedgerNoneSaid : Prop := ledgerNoneRow.holds Try.pinned (OpenSpec.ofChange ledgerNoneSpec)

/-- ITS FALSE NEIGHBOUR: 'it returns false'. Refute it at one input. -/
def ledgerNoneWrong : ChangeSpec := { name := "ledgerNone", fn := fun _ => fun
  | [d1, d2] => { results := [.lit (.bool false)], args := [d1, d2] }
  | _ => none }
def LedgerNoneWrongFalsely : Prop := ledgerNoneRow.holds Try.pinned (OpenSpec.ofChange ledgerNoneWrong)

/- THE SECOND FORM. 'bulk': how many values and letters a reading holds, each counted each time it is reached (what is shared counts as often as it is met; a slice's spare places count too). A statement '..UptoSaid' is the law's where the arguments, and the package variables that the reading takes, are together of bulk at most 1048576: NARROWER than '..Said'. Prove '..Said' where nothing that the law and all that it calls make is longer than what came in: it says more and counts as full. Else prove '..UptoSaid'. A law counts once. -/
mutual
def uptoBulk {H : Type} : DataW H → Nat
  | .lit (.string bytes) => bytes.length + 1
  | .lit _ => 1
  | .nil => 1
  | .ptr d => uptoBulk d + 1
  | .slice elems spare => uptoBulkAll elems + uptoBulkAll spare + 1
  | .agg parts => uptoBulkAll parts + 1
  | .iface _ d => uptoBulk d + 1
  | .map entries => uptoBulkEntries entries + 1
  | .held _ => 1
def uptoBulkAll {H : Type} : List (DataW H) → Nat
  | [] => 0
  | d :: r => uptoBulk d + uptoBulkAll r
def uptoBulkEntries {H : Type} : List (Lit × DataW H) → Nat
  | [] => 0
  | x :: r => uptoBulkEntry x + uptoBulkEntries r
def uptoBulkEntry {H : Type} : Lit × DataW H → Nat
  | (.string bytes, d) => bytes.length + uptoBulk d + 1
  | (_, d) => uptoBulk d + 1
 end
def uptoSmall : (H : Type) → List (DataW H) → Bool := fun _ ds => decide (uptoBulkAll ds ≤ 1048576)
def OpenSpec.upto (s : _root_.Go.ChangeSpec) : _root_.Go.OpenSpec := { _root_.Go.OpenSpec.ofChange s with cond := some uptoSmall }

/-- 'cotillionlaw2.RingMsgs', WHERE WHAT IT READS IS OF BULK AT MOST 1048576: true; the input reads as it did. -/
def ringMsgsUptoRow : OpenClaim := { program := "ytebdlhoeomdlmaa", sum := "58777cbb7baf459bb0e99bf367d14d114f27eaeb233deec279e8ff58aebae0d1", func := "cotillion/cotillionlaw2.RingMsgs", spec := "ringMsgs", apart := false, narrowed := true }
def RingMsgsUptoSaid : Prop := ringMsgsUptoRow.holds Try.pinned (OpenSpec.upto ringMsgsSpec)

/-- 'cotillionlaw2.RingOwn', WHERE WHAT IT READS IS OF BULK AT MOST 1048576: true; the input reads as it did. -/
def ringOwnUptoRow : OpenClaim := { program := "ytebdlhoeomdlmaa", sum := "58777cbb7baf459bb0e99bf367d14d114f27eaeb233deec279e8ff58aebae0d1", func := "cotillion/cotillionlaw2.RingOwn", spec := "ringOwn", apart := false, narrowed := true }
def RingOwnUptoSaid : Prop := ringOwnUptoRow.holds Try.pinned (OpenSpec.upto ringOwnSpec)

/-- 'cotillionlaw2.RingPlays', WHERE WHAT IT READS IS OF BULK AT MOST 1048576: true; the input reads as it did. -/
def ringPlaysUptoRow : OpenClaim := { program := "ytebdlhoeomdlmaa", sum := "58777cbb7baf459bb0e99bf367d14d114f27eaeb233deec279e8ff58aebae0d1", func := "cotillion/cotillionlaw2.RingPlays", spec := "ringPlays", apart := false, narrowed := true }
def RingPlaysUptoSaid : Prop := ringPlaysUptoRow.holds Try.pinned (OpenSpec.upto ringPlaysSpec)

/-- 'cotillionlaw2.RingNone', WHERE WHAT IT READS IS OF BULK AT MOST 1048576: true; the input reads as it did. -/
def ringNoneUptoRow : OpenClaim := { program := "ytebdlhoeomdlmaa", sum := "58777cbb7baf459bb0e99bf367d14d114f27eaeb233deec279e8ff58aebae0d1", func := "cotillion/cotillionlaw2.RingNone", spec := "ringNone", apart := false, narrowed := true }
def RingNoneUptoSaid : Prop := ringNoneUptoRow.holds Try.pinned (OpenSpec.upto ringNoneSpec)

/-- 'cotillionlaw4.LedgerSums', WHERE WHAT IT READS IS OF BULK AT MOST 1048576: true; the input reads as it did. -/
def ledgerSumsUptoRow : OpenClaim := { program := "ytebdlhoeomdlmaa", sum := "58777cbb7baf459bb0e99bf367d14d114f27eaeb233deec279e8ff58aebae0d1", func := "cotillion/cotillionlaw4.LedgerSums", spec := "ledgerSums", unfollowed := true, recurses := true, apart := false, narrowed := true }
def LedgerSumsUptoSaid : Prop := ledgerSumsUptoRow.holds Try.pinned (OpenSpec.upto ledgerSumsSpec)

/-- 'cotillionlaw4.LedgerCaps', WHERE WHAT IT READS IS OF BULK AT MOST 1048576: true; the input reads as it did. -/
def ledgerCapsUptoRow : OpenClaim := { program := "ytebdlhoeomdlmaa", sum := "58777cbb7baf459bb0e99bf367d14d114f27eaeb233deec279e8ff58aebae0d1", func := "cotillion/cotillionlaw4.LedgerCaps", spec := "ledgerCaps", unfollowed := true, recurses := true, apart := false, narrowed := true }
def LedgerCapsUptoSaid : Prop := ledgerCapsUptoRow.holds Try.pinned (OpenSpec.upto ledgerCapsSpec)

/-- 'cotillionlaw4.LedgerPlays', WHERE WHAT IT READS IS OF BULK AT MOST 1048576: true; the input reads as it did. -/
def ledgerPlaysUptoRow : OpenClaim := { program := "ytebdlhoeomdlmaa", sum := "58777cbb7baf459bb0e99bf367d14d114f27eaeb233deec279e8ff58aebae0d1", func := "cotillion/cotillionlaw4.LedgerPlays", spec := "ledgerPlays", unfollowed := true, recurses := true, apart := false, narrowed := true }
def LedgerPlaysUptoSaid : Prop := ledgerPlaysUptoRow.holds Try.pinned (OpenSpec.upto ledgerPlaysSpec)

/-- 'cotillionlaw4.LedgerDrains', WHERE WHAT IT READS IS OF BULK AT MOST 1048576: true; the input reads as it did. -/
def ledgerDrainsUptoRow : OpenClaim := { program := "ytebdlhoeomdlmaa", sum := "58777cbb7baf459bb0e99bf367d14d114f27eaeb233deec279e8ff58aebae0d1", func := "cotillion/cotillionlaw4.LedgerDrains", spec := "ledgerDrains", unfollowed := true, recurses := true, apart := false, narrowed := true }
def LedgerDrainsUptoSaid : Prop := ledgerDrainsUptoRow.holds Try.pinned (OpenSpec.upto ledgerDrainsSpec)

/-- 'cotillionlaw4.LedgerNone', WHERE WHAT IT READS IS OF BULK AT MOST 1048576: true; the input reads as it did. -/
def ledgerNoneUptoRow : OpenClaim := { program := "ytebdlhoeomdlmaa", sum := "58777cbb7baf459bb0e99bf367d14d114f27eaeb233deec279e8ff58aebae0d1", func := "cotillion/cotillionlaw4.LedgerNone", spec := "ledgerNone", unfollowed := true, recurses := true, apart := false, narrowed := true }
def LedgerNoneUptoSaid : Prop := ledgerNoneUptoRow.holds Try.pinned (OpenSpec.upto ledgerNoneSpec)

end Rows
end Go.Proofs.Ytebdlhoeomdlmaa
