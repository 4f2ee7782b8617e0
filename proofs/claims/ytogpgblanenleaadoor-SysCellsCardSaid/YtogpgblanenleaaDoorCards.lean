/-
  DERIVED. GIVEN WITH THE SEED: THE CARDS: each row of YtogpgblanenleaaDoorRows.lean that lists a variable, with what it lists TIED to the program's text (the seventh form; the later family's looks); each row that meets fmt, with fmt's text TOLD by the authors' own Lean function (tested against real Go, not proved from fmt's source: count such statements apart). THE CARD IS WHAT COUNTS. Prove the row's statement (the work); the ties are given (YtogpgblanenleaaDoorTie.lean); close each card by the builder's one call (the guide's Derived/Test/ToyasCard.lean, 'card_holds'). Laid BY PROGRAM, IN A SANDBOX (cutbox-door.mjs). By AI agents, Wed Nov 11 2026. No macro, syntax, notation, axiom, sorry.
-/
import Derived.Test.YtogpgblanenleaaDoorRows
import GoSem.ClaimSeven
namespace Go.Proofs.YtogpgblanenleaaDoor
namespace Rows

/-- THE TIED CARD OF 'cotillionlaw10.SysMany'. -/
def sysManyCard : Claim7 := { stood := { row := sysManyRow, standIns := [], harness := (true, "d7c1d8ca62bb1271e0779756ed8343cce3427c9d75c74b2d542a363d16429619"), looks := true }, kinds := [], alts := [], laidByText := true, laidKinds := [.data, .data, .data, .sentinel, .sentinel], laidTests := true, laidLooks := .later }
def SysManyCardSaid : Prop := Claim7.holds Tryd.pinned (.plain (OpenSpec.ofChange sysManySpec)) sysManyCard

/-- THE TIED CARD OF 'cotillionlaw10.SysCells'. -/
def sysCellsCard : Claim7 := { stood := { row := sysCellsRow, standIns := [], harness := (true, "d7c1d8ca62bb1271e0779756ed8343cce3427c9d75c74b2d542a363d16429619"), looks := true }, kinds := [], alts := [], laidByText := true, laidKinds := [.data, .data, .data, .sentinel, .sentinel], laidTests := true, laidLooks := .later }
def SysCellsCardSaid : Prop := Claim7.holds Tryd.pinned (.plain (OpenSpec.ofChange sysCellsSpec)) sysCellsCard

/-- THE SECOND FORM's CARD OF 'cotillionlaw10.SysMany'. -/
def sysManyUptoCard : Claim7 := { stood := { row := sysManyUptoRow, standIns := [], harness := (true, "d7c1d8ca62bb1271e0779756ed8343cce3427c9d75c74b2d542a363d16429619"), looks := true }, kinds := [], alts := [], laidByText := true, laidKinds := [.data, .data, .data, .sentinel, .sentinel], laidTests := true, laidLooks := .later }
def SysManyUptoCardSaid : Prop := Claim7.holds Tryd.pinned (.plain (OpenSpec.upto sysManySpec)) sysManyUptoCard

/-- THE SECOND FORM's CARD OF 'cotillionlaw10.SysCells'. -/
def sysCellsUptoCard : Claim7 := { stood := { row := sysCellsUptoRow, standIns := [], harness := (true, "d7c1d8ca62bb1271e0779756ed8343cce3427c9d75c74b2d542a363d16429619"), looks := true }, kinds := [], alts := [], laidByText := true, laidKinds := [.data, .data, .data, .sentinel, .sentinel], laidTests := true, laidLooks := .later }
def SysCellsUptoCardSaid : Prop := Claim7.holds Tryd.pinned (.plain (OpenSpec.upto sysCellsSpec)) sysCellsUptoCard
end Rows
end Go.Proofs.YtogpgblanenleaaDoor
