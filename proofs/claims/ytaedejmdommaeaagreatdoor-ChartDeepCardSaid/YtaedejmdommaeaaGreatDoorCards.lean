/-
  DERIVED. GIVEN WITH THE SEED: THE CARDS: each row of YtaedejmdommaeaaGreatDoorRows.lean that lists a variable, with what it lists TIED to the program's text (the seventh form; the later family's looks); each row that meets fmt, with fmt's text TOLD by the authors' own Lean function (tested against real Go, not proved from fmt's source: count such statements apart). THE CARD IS WHAT COUNTS. Prove the row's statement (the work); the ties are given (YtaedejmdommaeaaGreatDoorTie.lean); close each card by the builder's one call (the guide's Derived/Test/ToyasCard.lean, 'card_holds'). Laid BY PROGRAM, IN A SANDBOX (cutbox-door.mjs). By AI agents, Wed Nov 11 2026. No macro, syntax, notation, axiom, sorry.
-/
import Derived.Test.YtaedejmdommaeaaGreatDoorRows
import GoSem.ClaimSeven
namespace Go.Proofs.YtaedejmdommaeaaGreatDoor
namespace Rows

/-- THE TIED CARD OF 'cotillionlaw9.ChartPlaces'. -/
def chartPlacesCard : Claim7 := { stood := { row := chartPlacesRow, standIns := [], harness := (true, "00f033171ce1d2525e846f974b522ac69527d2fbe76468d3a395892125e71065"), looks := true }, kinds := [], alts := [], laidByText := true, laidKinds := [.data, .data, .data, .sentinel, .sentinel], laidTests := true, laidLooks := .later }
def ChartPlacesCardSaid : Prop := Claim7.holds Tryz.pinned (.plain (OpenSpec.ofChange chartPlacesSpec)) chartPlacesCard

/-- THE TIED CARD OF 'cotillionlaw9.ChartDeep'. -/
def chartDeepCard : Claim7 := { stood := { row := chartDeepRow, standIns := [], harness := (true, "00f033171ce1d2525e846f974b522ac69527d2fbe76468d3a395892125e71065"), looks := true }, kinds := [], alts := [], laidByText := true, laidKinds := [.data, .data, .data, .sentinel, .sentinel], laidTests := true, laidLooks := .later }
def ChartDeepCardSaid : Prop := Claim7.holds Tryz.pinned (.plain (OpenSpec.ofChange chartDeepSpec)) chartDeepCard

/-- THE TIED CARD OF 'cotillionlaw9.ChartReads'. -/
def chartReadsCard : Claim7 := { stood := { row := chartReadsRow, standIns := [], harness := (true, "00f033171ce1d2525e846f974b522ac69527d2fbe76468d3a395892125e71065"), looks := true }, kinds := [], alts := [], laidByText := true, laidKinds := [.data, .data, .data, .sentinel, .sentinel], laidTests := true, laidLooks := .later }
def ChartReadsCardSaid : Prop := Claim7.holds Tryz.pinned (.plain (OpenSpec.ofChange chartReadsSpec)) chartReadsCard

/-- THE TIED CARD OF 'cotillionlaw9.ChartSpoilt'. -/
def chartSpoiltCard : Claim7 := { stood := { row := chartSpoiltRow, standIns := [], harness := (true, "00f033171ce1d2525e846f974b522ac69527d2fbe76468d3a395892125e71065"), looks := true }, kinds := [], alts := [], laidByText := true, laidKinds := [.data, .data, .data, .sentinel, .sentinel], laidTests := true, laidLooks := .later }
def ChartSpoiltCardSaid : Prop := Claim7.holds Tryz.pinned (.plain (OpenSpec.ofChange chartSpoiltSpec)) chartSpoiltCard

/-- THE TIED CARD OF 'cotillionlaw9.ChartBack'. -/
def chartBackCard : Claim7 := { stood := { row := chartBackRow, standIns := [], harness := (true, "00f033171ce1d2525e846f974b522ac69527d2fbe76468d3a395892125e71065"), looks := true }, kinds := [], alts := [], laidByText := true, laidKinds := [.data, .data, .data, .sentinel, .sentinel], laidTests := true, laidLooks := .later }
def ChartBackCardSaid : Prop := Claim7.holds Tryz.pinned (.plain (OpenSpec.ofChange chartBackSpec)) chartBackCard

/-- THE SECOND FORM's CARD OF 'cotillionlaw9.ChartPlaces'. -/
def chartPlacesUptoCard : Claim7 := { stood := { row := chartPlacesUptoRow, standIns := [], harness := (true, "00f033171ce1d2525e846f974b522ac69527d2fbe76468d3a395892125e71065"), looks := true }, kinds := [], alts := [], laidByText := true, laidKinds := [.data, .data, .data, .sentinel, .sentinel], laidTests := true, laidLooks := .later }
def ChartPlacesUptoCardSaid : Prop := Claim7.holds Tryz.pinned (.plain (OpenSpec.upto chartPlacesSpec)) chartPlacesUptoCard

/-- THE SECOND FORM's CARD OF 'cotillionlaw9.ChartDeep'. -/
def chartDeepUptoCard : Claim7 := { stood := { row := chartDeepUptoRow, standIns := [], harness := (true, "00f033171ce1d2525e846f974b522ac69527d2fbe76468d3a395892125e71065"), looks := true }, kinds := [], alts := [], laidByText := true, laidKinds := [.data, .data, .data, .sentinel, .sentinel], laidTests := true, laidLooks := .later }
def ChartDeepUptoCardSaid : Prop := Claim7.holds Tryz.pinned (.plain (OpenSpec.upto chartDeepSpec)) chartDeepUptoCard

/-- THE SECOND FORM's CARD OF 'cotillionlaw9.ChartReads'. -/
def chartReadsUptoCard : Claim7 := { stood := { row := chartReadsUptoRow, standIns := [], harness := (true, "00f033171ce1d2525e846f974b522ac69527d2fbe76468d3a395892125e71065"), looks := true }, kinds := [], alts := [], laidByText := true, laidKinds := [.data, .data, .data, .sentinel, .sentinel], laidTests := true, laidLooks := .later }
def ChartReadsUptoCardSaid : Prop := Claim7.holds Tryz.pinned (.plain (OpenSpec.upto chartReadsSpec)) chartReadsUptoCard

/-- THE SECOND FORM's CARD OF 'cotillionlaw9.ChartSpoilt'. -/
def chartSpoiltUptoCard : Claim7 := { stood := { row := chartSpoiltUptoRow, standIns := [], harness := (true, "00f033171ce1d2525e846f974b522ac69527d2fbe76468d3a395892125e71065"), looks := true }, kinds := [], alts := [], laidByText := true, laidKinds := [.data, .data, .data, .sentinel, .sentinel], laidTests := true, laidLooks := .later }
def ChartSpoiltUptoCardSaid : Prop := Claim7.holds Tryz.pinned (.plain (OpenSpec.upto chartSpoiltSpec)) chartSpoiltUptoCard

/-- THE SECOND FORM's CARD OF 'cotillionlaw9.ChartBack'. -/
def chartBackUptoCard : Claim7 := { stood := { row := chartBackUptoRow, standIns := [], harness := (true, "00f033171ce1d2525e846f974b522ac69527d2fbe76468d3a395892125e71065"), looks := true }, kinds := [], alts := [], laidByText := true, laidKinds := [.data, .data, .data, .sentinel, .sentinel], laidTests := true, laidLooks := .later }
def ChartBackUptoCardSaid : Prop := Claim7.holds Tryz.pinned (.plain (OpenSpec.upto chartBackSpec)) chartBackUptoCard
end Rows
end Go.Proofs.YtaedejmdommaeaaGreatDoor
