/-
  DERIVED. GIVEN WITH THE SEED: THE CARDS: each row of YtaadaeiikhokjaaGreatDoorRows.lean that lists a variable, with what it lists TIED to the program's text (the seventh form; the later family's looks); each row that meets fmt, with fmt's text TOLD by the authors' own Lean function (tested against real Go, not proved from fmt's source: count such statements apart). THE CARD IS WHAT COUNTS. Prove the row's statement (the work); the ties are given (YtaadaeiikhokjaaGreatDoorTie.lean); close each card by the builder's one call (the guide's Derived/Test/ToyasCard.lean, 'card_holds'). Laid BY PROGRAM, IN A SANDBOX (cutbox-door.mjs). By AI agents, Wed Nov 11 2026. No macro, syntax, notation, axiom, sorry.
-/
import Derived.Test.YtaadaeiikhokjaaGreatDoorRows
import GoSem.ClaimSeven
namespace Go.Proofs.YtaadaeiikhokjaaGreatDoor
namespace Rows

/-- THE TIED CARD OF 'heraldlaw22.ToolExports'. -/
def toolExportsCard : Claim7 := { stood := { row := toolExportsRow, standIns := [], harness := (true, "305dcdec4fc3a49120f210fb80fa2c117a08dac8f1805c38bf96ffa9d4e03304"), looks := true }, kinds := [], alts := [], laidByText := true, laidKinds := [.data, .data, .data, .data, .sentinel, .sentinel, .data, .pinned], laidTests := true, laidLooks := .later }
def ToolExportsCardSaid : Prop := Claim7.holds Tryz.pinned (.plain (OpenSpec.ofChange toolExportsSpec)) toolExportsCard

/-- THE SECOND FORM's CARD OF 'heraldlaw22.ToolExports'. -/
def toolExportsUptoCard : Claim7 := { stood := { row := toolExportsUptoRow, standIns := [], harness := (true, "305dcdec4fc3a49120f210fb80fa2c117a08dac8f1805c38bf96ffa9d4e03304"), looks := true }, kinds := [], alts := [], laidByText := true, laidKinds := [.data, .data, .data, .data, .sentinel, .sentinel, .data, .pinned], laidTests := true, laidLooks := .later }
def ToolExportsUptoCardSaid : Prop := Claim7.holds Tryz.pinned (.plain (OpenSpec.upto toolExportsSpec)) toolExportsUptoCard
end Rows
end Go.Proofs.YtaadaeiikhokjaaGreatDoor
