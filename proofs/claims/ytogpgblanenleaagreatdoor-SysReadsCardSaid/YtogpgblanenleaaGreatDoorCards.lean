/-
  DERIVED. GIVEN WITH THE SEED: THE CARDS: each row of YtogpgblanenleaaGreatDoorRows.lean that lists a variable, with what it lists TIED to the program's text (the seventh form; the later family's looks); each row that meets fmt, with fmt's text TOLD by the authors' own Lean function (tested against real Go, not proved from fmt's source: count such statements apart). THE CARD IS WHAT COUNTS. Prove the row's statement (the work); the ties are given (YtogpgblanenleaaGreatDoorTie.lean); close each card by the builder's one call (the guide's Derived/Test/ToyasCard.lean, 'card_holds'). Laid BY PROGRAM, IN A SANDBOX (cutbox-door.mjs). By AI agents, Wed Nov 11 2026. No macro, syntax, notation, axiom, sorry.
-/
import Derived.Test.YtogpgblanenleaaGreatDoorRows
import GoSem.ClaimSeven
namespace Go.Proofs.YtogpgblanenleaaGreatDoor
namespace Rows

/-- THE TIED CARD OF 'cotillionlaw10.SysPlaces'. -/
def sysPlacesCard : Claim7 := { stood := { row := sysPlacesRow, standIns := [], harness := (true, "5c5acf1509a3a55826cf169facc3ffe93b27e064098315f6b8416bb3037d7840"), looks := true }, kinds := [], alts := [], laidByText := true, laidKinds := [.data, .data, .data, .sentinel, .sentinel], laidTests := true, laidLooks := .later }
def SysPlacesCardSaid : Prop := Claim7.holds Tryz.pinned (.plain (OpenSpec.ofChange sysPlacesSpec)) sysPlacesCard

/-- THE TIED CARD OF 'cotillionlaw10.SysReads'. -/
def sysReadsCard : Claim7 := { stood := { row := sysReadsRow, standIns := [], harness := (true, "5c5acf1509a3a55826cf169facc3ffe93b27e064098315f6b8416bb3037d7840"), looks := true }, kinds := [], alts := [], laidByText := true, laidKinds := [.data, .data, .data, .sentinel, .sentinel], laidTests := true, laidLooks := .later }
def SysReadsCardSaid : Prop := Claim7.holds Tryz.pinned (.plain (OpenSpec.ofChange sysReadsSpec)) sysReadsCard

/-- THE TIED CARD OF 'cotillionlaw10.SysSpoilt'. -/
def sysSpoiltCard : Claim7 := { stood := { row := sysSpoiltRow, standIns := [], harness := (true, "5c5acf1509a3a55826cf169facc3ffe93b27e064098315f6b8416bb3037d7840"), looks := true }, kinds := [], alts := [], laidByText := true, laidKinds := [.data, .data, .data, .sentinel, .sentinel], laidTests := true, laidLooks := .later }
def SysSpoiltCardSaid : Prop := Claim7.holds Tryz.pinned (.plain (OpenSpec.ofChange sysSpoiltSpec)) sysSpoiltCard

/-- THE TIED CARD OF 'cotillionlaw10.SysBack'. -/
def sysBackCard : Claim7 := { stood := { row := sysBackRow, standIns := [], harness := (true, "5c5acf1509a3a55826cf169facc3ffe93b27e064098315f6b8416bb3037d7840"), looks := true }, kinds := [], alts := [], laidByText := true, laidKinds := [.data, .data, .data, .sentinel, .sentinel], laidTests := true, laidLooks := .later }
def SysBackCardSaid : Prop := Claim7.holds Tryz.pinned (.plain (OpenSpec.ofChange sysBackSpec)) sysBackCard

/-- THE SECOND FORM's CARD OF 'cotillionlaw10.SysPlaces'. -/
def sysPlacesUptoCard : Claim7 := { stood := { row := sysPlacesUptoRow, standIns := [], harness := (true, "5c5acf1509a3a55826cf169facc3ffe93b27e064098315f6b8416bb3037d7840"), looks := true }, kinds := [], alts := [], laidByText := true, laidKinds := [.data, .data, .data, .sentinel, .sentinel], laidTests := true, laidLooks := .later }
def SysPlacesUptoCardSaid : Prop := Claim7.holds Tryz.pinned (.plain (OpenSpec.upto sysPlacesSpec)) sysPlacesUptoCard

/-- THE SECOND FORM's CARD OF 'cotillionlaw10.SysReads'. -/
def sysReadsUptoCard : Claim7 := { stood := { row := sysReadsUptoRow, standIns := [], harness := (true, "5c5acf1509a3a55826cf169facc3ffe93b27e064098315f6b8416bb3037d7840"), looks := true }, kinds := [], alts := [], laidByText := true, laidKinds := [.data, .data, .data, .sentinel, .sentinel], laidTests := true, laidLooks := .later }
def SysReadsUptoCardSaid : Prop := Claim7.holds Tryz.pinned (.plain (OpenSpec.upto sysReadsSpec)) sysReadsUptoCard

/-- THE SECOND FORM's CARD OF 'cotillionlaw10.SysSpoilt'. -/
def sysSpoiltUptoCard : Claim7 := { stood := { row := sysSpoiltUptoRow, standIns := [], harness := (true, "5c5acf1509a3a55826cf169facc3ffe93b27e064098315f6b8416bb3037d7840"), looks := true }, kinds := [], alts := [], laidByText := true, laidKinds := [.data, .data, .data, .sentinel, .sentinel], laidTests := true, laidLooks := .later }
def SysSpoiltUptoCardSaid : Prop := Claim7.holds Tryz.pinned (.plain (OpenSpec.upto sysSpoiltSpec)) sysSpoiltUptoCard

/-- THE SECOND FORM's CARD OF 'cotillionlaw10.SysBack'. -/
def sysBackUptoCard : Claim7 := { stood := { row := sysBackUptoRow, standIns := [], harness := (true, "5c5acf1509a3a55826cf169facc3ffe93b27e064098315f6b8416bb3037d7840"), looks := true }, kinds := [], alts := [], laidByText := true, laidKinds := [.data, .data, .data, .sentinel, .sentinel], laidTests := true, laidLooks := .later }
def SysBackUptoCardSaid : Prop := Claim7.holds Tryz.pinned (.plain (OpenSpec.upto sysBackSpec)) sysBackUptoCard
end Rows
end Go.Proofs.YtogpgblanenleaaGreatDoor
