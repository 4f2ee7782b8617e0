/-
  DERIVED. GIVEN WITH THE SEED: THE CARDS: each row of YtabknfplmamfmaaGreatDoorRows.lean that lists a variable, with what it lists TIED to the program's text (the seventh form; the later family's looks); each row that meets fmt, with fmt's text TOLD by the authors' own Lean function (tested against real Go, not proved from fmt's source: count such statements apart). THE CARD IS WHAT COUNTS. Prove the row's statement (the work); the ties are given (YtabknfplmamfmaaGreatDoorTie.lean); close each card by the builder's one call (the guide's Derived/Test/ToyasCard.lean, 'card_holds'). Laid BY PROGRAM, IN A SANDBOX (cutbox-door.mjs). By AI agents, Wed Nov 11 2026. No macro, syntax, notation, axiom, sorry.
-/
import Derived.Test.YtabknfplmamfmaaGreatDoorRows
import GoSem.ClaimSeven
namespace Go.Proofs.YtabknfplmamfmaaGreatDoor
namespace Rows

/-- THE TIED CARD OF 'cotillionlaw8.ActReads'. -/
def actReadsCard : Claim7 := { stood := { row := actReadsRow, standIns := [], harness := (true, "32a9ffcce99356bf249c9d37f2beb0312d2c12b630a94cc2b45f02d3aa30400a"), looks := true }, kinds := [], alts := [], laidByText := true, laidKinds := [.data, .data, .data, .sentinel, .sentinel], laidTests := true, laidLooks := .later }
def ActReadsCardSaid : Prop := Claim7.holds Tryz.pinned (.plain (OpenSpec.ofChange actReadsSpec)) actReadsCard

/-- THE TIED CARD OF 'cotillionlaw8.ActSpoilt'. -/
def actSpoiltCard : Claim7 := { stood := { row := actSpoiltRow, standIns := [], harness := (true, "32a9ffcce99356bf249c9d37f2beb0312d2c12b630a94cc2b45f02d3aa30400a"), looks := true }, kinds := [], alts := [], laidByText := true, laidKinds := [.data, .data, .data, .sentinel, .sentinel], laidTests := true, laidLooks := .later }
def ActSpoiltCardSaid : Prop := Claim7.holds Tryz.pinned (.plain (OpenSpec.ofChange actSpoiltSpec)) actSpoiltCard

/-- THE TIED CARD OF 'cotillionlaw8.ActDeep'. -/
def actDeepCard : Claim7 := { stood := { row := actDeepRow, standIns := [], harness := (true, "32a9ffcce99356bf249c9d37f2beb0312d2c12b630a94cc2b45f02d3aa30400a"), looks := true }, kinds := [], alts := [], laidByText := true, laidKinds := [.data, .data, .data, .sentinel, .sentinel], laidTests := true, laidLooks := .later }
def ActDeepCardSaid : Prop := Claim7.holds Tryz.pinned (.plain (OpenSpec.ofChange actDeepSpec)) actDeepCard

/-- THE TIED CARD OF 'cotillionlaw8.ActBack'. -/
def actBackCard : Claim7 := { stood := { row := actBackRow, standIns := [], harness := (true, "32a9ffcce99356bf249c9d37f2beb0312d2c12b630a94cc2b45f02d3aa30400a"), looks := true }, kinds := [], alts := [], laidByText := true, laidKinds := [.data, .data, .data, .sentinel, .sentinel], laidTests := true, laidLooks := .later }
def ActBackCardSaid : Prop := Claim7.holds Tryz.pinned (.plain (OpenSpec.ofChange actBackSpec)) actBackCard

/-- THE TIED CARD OF 'cotillionlaw8.ActRights'. -/
def actRightsCard : Claim7 := { stood := { row := actRightsRow, standIns := [], harness := (true, "32a9ffcce99356bf249c9d37f2beb0312d2c12b630a94cc2b45f02d3aa30400a"), looks := true }, kinds := [], alts := [], laidByText := true, laidKinds := [.data, .data, .data, .sentinel, .sentinel], laidTests := true, laidLooks := .later }
def ActRightsCardSaid : Prop := Claim7.holds Tryz.pinned (.plain (OpenSpec.ofChange actRightsSpec)) actRightsCard

/-- THE SECOND FORM's CARD OF 'cotillionlaw8.ActReads'. -/
def actReadsUptoCard : Claim7 := { stood := { row := actReadsUptoRow, standIns := [], harness := (true, "32a9ffcce99356bf249c9d37f2beb0312d2c12b630a94cc2b45f02d3aa30400a"), looks := true }, kinds := [], alts := [], laidByText := true, laidKinds := [.data, .data, .data, .sentinel, .sentinel], laidTests := true, laidLooks := .later }
def ActReadsUptoCardSaid : Prop := Claim7.holds Tryz.pinned (.plain (OpenSpec.upto actReadsSpec)) actReadsUptoCard

/-- THE SECOND FORM's CARD OF 'cotillionlaw8.ActSpoilt'. -/
def actSpoiltUptoCard : Claim7 := { stood := { row := actSpoiltUptoRow, standIns := [], harness := (true, "32a9ffcce99356bf249c9d37f2beb0312d2c12b630a94cc2b45f02d3aa30400a"), looks := true }, kinds := [], alts := [], laidByText := true, laidKinds := [.data, .data, .data, .sentinel, .sentinel], laidTests := true, laidLooks := .later }
def ActSpoiltUptoCardSaid : Prop := Claim7.holds Tryz.pinned (.plain (OpenSpec.upto actSpoiltSpec)) actSpoiltUptoCard

/-- THE SECOND FORM's CARD OF 'cotillionlaw8.ActDeep'. -/
def actDeepUptoCard : Claim7 := { stood := { row := actDeepUptoRow, standIns := [], harness := (true, "32a9ffcce99356bf249c9d37f2beb0312d2c12b630a94cc2b45f02d3aa30400a"), looks := true }, kinds := [], alts := [], laidByText := true, laidKinds := [.data, .data, .data, .sentinel, .sentinel], laidTests := true, laidLooks := .later }
def ActDeepUptoCardSaid : Prop := Claim7.holds Tryz.pinned (.plain (OpenSpec.upto actDeepSpec)) actDeepUptoCard

/-- THE SECOND FORM's CARD OF 'cotillionlaw8.ActBack'. -/
def actBackUptoCard : Claim7 := { stood := { row := actBackUptoRow, standIns := [], harness := (true, "32a9ffcce99356bf249c9d37f2beb0312d2c12b630a94cc2b45f02d3aa30400a"), looks := true }, kinds := [], alts := [], laidByText := true, laidKinds := [.data, .data, .data, .sentinel, .sentinel], laidTests := true, laidLooks := .later }
def ActBackUptoCardSaid : Prop := Claim7.holds Tryz.pinned (.plain (OpenSpec.upto actBackSpec)) actBackUptoCard

/-- THE SECOND FORM's CARD OF 'cotillionlaw8.ActRights'. -/
def actRightsUptoCard : Claim7 := { stood := { row := actRightsUptoRow, standIns := [], harness := (true, "32a9ffcce99356bf249c9d37f2beb0312d2c12b630a94cc2b45f02d3aa30400a"), looks := true }, kinds := [], alts := [], laidByText := true, laidKinds := [.data, .data, .data, .sentinel, .sentinel], laidTests := true, laidLooks := .later }
def ActRightsUptoCardSaid : Prop := Claim7.holds Tryz.pinned (.plain (OpenSpec.upto actRightsSpec)) actRightsUptoCard
end Rows
end Go.Proofs.YtabknfplmamfmaaGreatDoor
