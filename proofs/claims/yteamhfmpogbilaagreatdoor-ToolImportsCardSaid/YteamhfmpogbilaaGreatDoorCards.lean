/-
  DERIVED. GIVEN WITH THE SEED: THE CARDS: each row of YteamhfmpogbilaaGreatDoorRows.lean that lists a variable, with what it lists TIED to the program's text (the seventh form; the later family's looks); each row that meets fmt, with fmt's text TOLD by the authors' own Lean function (tested against real Go, not proved from fmt's source: count such statements apart). THE CARD IS WHAT COUNTS. Prove the row's statement (the work); the ties are given (YteamhfmpogbilaaGreatDoorTie.lean); close each card by the builder's one call (the guide's Derived/Test/ToyasCard.lean, 'card_holds'). Laid BY PROGRAM, IN A SANDBOX (cutbox-door.mjs). By AI agents, Wed Nov 11 2026. No macro, syntax, notation, axiom, sorry.
-/
import Derived.Test.YteamhfmpogbilaaGreatDoorRows
import GoSem.ClaimSeven
namespace Go.Proofs.YteamhfmpogbilaaGreatDoor
namespace Rows

/-- THE TIED CARD OF 'heraldlaw22.ToolImports'. -/
def toolImportsCard : Claim7 := { stood := { row := toolImportsRow, standIns := [], harness := (true, "7018a6edc1579e42ffe52592e789ad21dd143d64c5d3697dc2d22fb190b397ae"), looks := true }, kinds := [], alts := [], laidByText := true, laidKinds := [.data, .data, .data, .data, .sentinel, .sentinel, .data, .pinned], laidTests := true, laidLooks := .later }
def ToolImportsCardSaid : Prop := Claim7.holds Tryz.pinned (.plain (OpenSpec.ofChange toolImportsSpec)) toolImportsCard

/-- THE TIED CARD OF 'heraldlaw22.ToolLoose'. -/
def toolLooseCard : Claim7 := { stood := { row := toolLooseRow, standIns := [], harness := (true, "7018a6edc1579e42ffe52592e789ad21dd143d64c5d3697dc2d22fb190b397ae"), looks := true }, kinds := [], alts := [], laidByText := true, laidKinds := [.data, .data, .data, .data, .sentinel, .sentinel, .data, .pinned], laidTests := true, laidLooks := .later }
def ToolLooseCardSaid : Prop := Claim7.holds Tryz.pinned (.plain (OpenSpec.ofChange toolLooseSpec)) toolLooseCard

/-- THE TIED CARD OF 'heraldlaw22.ToolCompares'. -/
def toolComparesCard : Claim7 := { stood := { row := toolComparesRow, standIns := [], harness := (true, "7018a6edc1579e42ffe52592e789ad21dd143d64c5d3697dc2d22fb190b397ae"), looks := true }, kinds := [], alts := [], laidByText := true, laidKinds := [.data, .data, .data, .data, .sentinel, .sentinel, .data, .pinned], laidTests := true, laidLooks := .later }
def ToolComparesCardSaid : Prop := Claim7.holds Tryz.pinned (.plain (OpenSpec.ofChange toolComparesSpec)) toolComparesCard

/-- THE TIED CARD OF 'heraldlaw22.ToolPatches'. -/
def toolPatchesCard : Claim7 := { stood := { row := toolPatchesRow, standIns := [], harness := (true, "7018a6edc1579e42ffe52592e789ad21dd143d64c5d3697dc2d22fb190b397ae"), looks := true }, kinds := [], alts := [], laidByText := true, laidKinds := [.data, .data, .data, .data, .sentinel, .sentinel, .data, .pinned], laidTests := true, laidLooks := .later }
def ToolPatchesCardSaid : Prop := Claim7.holds Tryz.pinned (.plain (OpenSpec.ofChange toolPatchesSpec)) toolPatchesCard

/-- THE TIED CARD OF 'heraldlaw22.ToolBridges'. -/
def toolBridgesCard : Claim7 := { stood := { row := toolBridgesRow, standIns := [], harness := (true, "7018a6edc1579e42ffe52592e789ad21dd143d64c5d3697dc2d22fb190b397ae"), looks := true }, kinds := [], alts := [], laidByText := true, laidKinds := [.data, .data, .data, .data, .sentinel, .sentinel, .data, .pinned], laidTests := true, laidLooks := .later }
def ToolBridgesCardSaid : Prop := Claim7.holds Tryz.pinned (.plain (OpenSpec.ofChange toolBridgesSpec)) toolBridgesCard

/-- THE TIED CARD OF 'heraldlaw22.ToolBack'. -/
def toolBackCard : Claim7 := { stood := { row := toolBackRow, standIns := [], harness := (true, "7018a6edc1579e42ffe52592e789ad21dd143d64c5d3697dc2d22fb190b397ae"), looks := true }, kinds := [], alts := [], laidByText := true, laidKinds := [.data, .data, .data, .data, .sentinel, .sentinel, .data, .pinned], laidTests := true, laidLooks := .later }
def ToolBackCardSaid : Prop := Claim7.holds Tryz.pinned (.plain (OpenSpec.ofChange toolBackSpec)) toolBackCard

/-- THE SECOND FORM's CARD OF 'heraldlaw22.ToolImports'. -/
def toolImportsUptoCard : Claim7 := { stood := { row := toolImportsUptoRow, standIns := [], harness := (true, "7018a6edc1579e42ffe52592e789ad21dd143d64c5d3697dc2d22fb190b397ae"), looks := true }, kinds := [], alts := [], laidByText := true, laidKinds := [.data, .data, .data, .data, .sentinel, .sentinel, .data, .pinned], laidTests := true, laidLooks := .later }
def ToolImportsUptoCardSaid : Prop := Claim7.holds Tryz.pinned (.plain (OpenSpec.upto toolImportsSpec)) toolImportsUptoCard

/-- THE SECOND FORM's CARD OF 'heraldlaw22.ToolLoose'. -/
def toolLooseUptoCard : Claim7 := { stood := { row := toolLooseUptoRow, standIns := [], harness := (true, "7018a6edc1579e42ffe52592e789ad21dd143d64c5d3697dc2d22fb190b397ae"), looks := true }, kinds := [], alts := [], laidByText := true, laidKinds := [.data, .data, .data, .data, .sentinel, .sentinel, .data, .pinned], laidTests := true, laidLooks := .later }
def ToolLooseUptoCardSaid : Prop := Claim7.holds Tryz.pinned (.plain (OpenSpec.upto toolLooseSpec)) toolLooseUptoCard

/-- THE SECOND FORM's CARD OF 'heraldlaw22.ToolCompares'. -/
def toolComparesUptoCard : Claim7 := { stood := { row := toolComparesUptoRow, standIns := [], harness := (true, "7018a6edc1579e42ffe52592e789ad21dd143d64c5d3697dc2d22fb190b397ae"), looks := true }, kinds := [], alts := [], laidByText := true, laidKinds := [.data, .data, .data, .data, .sentinel, .sentinel, .data, .pinned], laidTests := true, laidLooks := .later }
def ToolComparesUptoCardSaid : Prop := Claim7.holds Tryz.pinned (.plain (OpenSpec.upto toolComparesSpec)) toolComparesUptoCard

/-- THE SECOND FORM's CARD OF 'heraldlaw22.ToolPatches'. -/
def toolPatchesUptoCard : Claim7 := { stood := { row := toolPatchesUptoRow, standIns := [], harness := (true, "7018a6edc1579e42ffe52592e789ad21dd143d64c5d3697dc2d22fb190b397ae"), looks := true }, kinds := [], alts := [], laidByText := true, laidKinds := [.data, .data, .data, .data, .sentinel, .sentinel, .data, .pinned], laidTests := true, laidLooks := .later }
def ToolPatchesUptoCardSaid : Prop := Claim7.holds Tryz.pinned (.plain (OpenSpec.upto toolPatchesSpec)) toolPatchesUptoCard

/-- THE SECOND FORM's CARD OF 'heraldlaw22.ToolBridges'. -/
def toolBridgesUptoCard : Claim7 := { stood := { row := toolBridgesUptoRow, standIns := [], harness := (true, "7018a6edc1579e42ffe52592e789ad21dd143d64c5d3697dc2d22fb190b397ae"), looks := true }, kinds := [], alts := [], laidByText := true, laidKinds := [.data, .data, .data, .data, .sentinel, .sentinel, .data, .pinned], laidTests := true, laidLooks := .later }
def ToolBridgesUptoCardSaid : Prop := Claim7.holds Tryz.pinned (.plain (OpenSpec.upto toolBridgesSpec)) toolBridgesUptoCard

/-- THE SECOND FORM's CARD OF 'heraldlaw22.ToolBack'. -/
def toolBackUptoCard : Claim7 := { stood := { row := toolBackUptoRow, standIns := [], harness := (true, "7018a6edc1579e42ffe52592e789ad21dd143d64c5d3697dc2d22fb190b397ae"), looks := true }, kinds := [], alts := [], laidByText := true, laidKinds := [.data, .data, .data, .data, .sentinel, .sentinel, .data, .pinned], laidTests := true, laidLooks := .later }
def ToolBackUptoCardSaid : Prop := Claim7.holds Tryz.pinned (.plain (OpenSpec.upto toolBackSpec)) toolBackUptoCard
end Rows
end Go.Proofs.YteamhfmpogbilaaGreatDoor
