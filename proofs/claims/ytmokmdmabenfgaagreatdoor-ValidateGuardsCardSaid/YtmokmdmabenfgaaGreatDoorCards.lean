/-
  DERIVED. GIVEN WITH THE SEED: THE CARDS: each row of YtmokmdmabenfgaaGreatDoorRows.lean that lists a variable, with what it lists TIED to the program's text (the seventh form; the later family's looks); each row that meets fmt, with fmt's text TOLD by the authors' own Lean function (tested against real Go, not proved from fmt's source: count such statements apart). THE CARD IS WHAT COUNTS. Prove the row's statement (the work); the ties are given (YtmokmdmabenfgaaGreatDoorTie.lean); close each card by the builder's one call (the guide's Derived/Test/ToyasCard.lean, 'card_holds'). Laid BY PROGRAM, IN A SANDBOX (cutbox-door.mjs). By AI agents, Wed Nov 11 2026. No macro, syntax, notation, axiom, sorry.
-/
import Derived.Test.YtmokmdmabenfgaaGreatDoorRows
import GoSem.ClaimSeven
namespace Go.Proofs.YtmokmdmabenfgaaGreatDoor
namespace Rows

/-- THE TIED CARD OF 'warmpathlaw41.ValidateConstants'. -/
def validateConstantsCard : Claim7 := { stood := { row := validateConstantsRow, standIns := [], harness := (true, "fe8d440681ad0dc92753402a03e679d888e846739b7634afb2b32a9c8636effb"), looks := false }, kinds := [], alts := [], laidByText := true, laidKinds := [.data, .data, .data], laidTests := true, laidLooks := .later }
def ValidateConstantsCardSaid : Prop := Claim7.holds Tryz.pinned (.plain (OpenSpec.ofChange validateConstantsSpec)) validateConstantsCard

/-- THE TIED CARD OF 'warmpathlaw41.ValidateStubs'. -/
def validateStubsCard : Claim7 := { stood := { row := validateStubsRow, standIns := [], harness := (true, "fe8d440681ad0dc92753402a03e679d888e846739b7634afb2b32a9c8636effb"), looks := false }, kinds := [], alts := [], laidByText := true, laidKinds := [.data, .data, .data], laidTests := true, laidLooks := .later }
def ValidateStubsCardSaid : Prop := Claim7.holds Tryz.pinned (.plain (OpenSpec.ofChange validateStubsSpec)) validateStubsCard

/-- THE TIED CARD OF 'warmpathlaw41.ValidateGuards'. -/
def validateGuardsCard : Claim7 := { stood := { row := validateGuardsRow, standIns := [], harness := (true, "fe8d440681ad0dc92753402a03e679d888e846739b7634afb2b32a9c8636effb"), looks := false }, kinds := [], alts := [], laidByText := true, laidKinds := [.data, .data, .data], laidTests := true, laidLooks := .later }
def ValidateGuardsCardSaid : Prop := Claim7.holds Tryz.pinned (.plain (OpenSpec.ofChange validateGuardsSpec)) validateGuardsCard

/-- THE SECOND FORM's CARD OF 'warmpathlaw41.ValidateConstants'. -/
def validateConstantsUptoCard : Claim7 := { stood := { row := validateConstantsUptoRow, standIns := [], harness := (true, "fe8d440681ad0dc92753402a03e679d888e846739b7634afb2b32a9c8636effb"), looks := false }, kinds := [], alts := [], laidByText := true, laidKinds := [.data, .data, .data], laidTests := true, laidLooks := .later }
def ValidateConstantsUptoCardSaid : Prop := Claim7.holds Tryz.pinned (.plain (OpenSpec.upto validateConstantsSpec)) validateConstantsUptoCard

/-- THE SECOND FORM's CARD OF 'warmpathlaw41.ValidateStubs'. -/
def validateStubsUptoCard : Claim7 := { stood := { row := validateStubsUptoRow, standIns := [], harness := (true, "fe8d440681ad0dc92753402a03e679d888e846739b7634afb2b32a9c8636effb"), looks := false }, kinds := [], alts := [], laidByText := true, laidKinds := [.data, .data, .data], laidTests := true, laidLooks := .later }
def ValidateStubsUptoCardSaid : Prop := Claim7.holds Tryz.pinned (.plain (OpenSpec.upto validateStubsSpec)) validateStubsUptoCard

/-- THE SECOND FORM's CARD OF 'warmpathlaw41.ValidateGuards'. -/
def validateGuardsUptoCard : Claim7 := { stood := { row := validateGuardsUptoRow, standIns := [], harness := (true, "fe8d440681ad0dc92753402a03e679d888e846739b7634afb2b32a9c8636effb"), looks := false }, kinds := [], alts := [], laidByText := true, laidKinds := [.data, .data, .data], laidTests := true, laidLooks := .later }
def ValidateGuardsUptoCardSaid : Prop := Claim7.holds Tryz.pinned (.plain (OpenSpec.upto validateGuardsSpec)) validateGuardsUptoCard
end Rows
end Go.Proofs.YtmokmdmabenfgaaGreatDoor
