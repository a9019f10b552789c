/-
  DERIVED. GIVEN WITH THE SEED: THE CARDS: each row of YtpjamkiepfmfbaaGreatDoorRows.lean that lists a variable, with what it lists TIED to the program's text (the seventh form; the later family's looks); each row that meets fmt, with fmt's text TOLD by the authors' own Lean function (tested against real Go, not proved from fmt's source: count such statements apart). THE CARD IS WHAT COUNTS. Prove the row's statement (the work); the ties are given (YtpjamkiepfmfbaaGreatDoorTie.lean); close each card by the builder's one call (the guide's Derived/Test/ToyasCard.lean, 'card_holds'). Laid BY PROGRAM, IN A SANDBOX (cutbox-door.mjs). By AI agents, Wed Nov 11 2026. No macro, syntax, notation, axiom, sorry.
-/
import Derived.Test.YtpjamkiepfmfbaaGreatDoorRows
import GoSem.ClaimSeven
namespace Go.Proofs.YtpjamkiepfmfbaaGreatDoor
namespace Rows

/-- THE TIED CARD OF 'warmpathlaw41.ValidateConstants'. -/
def validateConstantsCard : Claim7 := { stood := { row := validateConstantsRow, standIns := [], harness := (true, "b7f3aa8cf1ac3267803f0c82116e5a578b7f314f514ba95788692103029798aa"), looks := false }, kinds := [], alts := [], laidByText := true, laidKinds := [.data, .data, .data], laidTests := true, laidLooks := .later }
def ValidateConstantsCardSaid : Prop := Claim7.holds Tryz.pinned (.plain (OpenSpec.ofChange validateConstantsSpec)) validateConstantsCard

/-- THE SECOND FORM's CARD OF 'warmpathlaw41.ValidateConstants'. -/
def validateConstantsUptoCard : Claim7 := { stood := { row := validateConstantsUptoRow, standIns := [], harness := (true, "b7f3aa8cf1ac3267803f0c82116e5a578b7f314f514ba95788692103029798aa"), looks := false }, kinds := [], alts := [], laidByText := true, laidKinds := [.data, .data, .data], laidTests := true, laidLooks := .later }
def ValidateConstantsUptoCardSaid : Prop := Claim7.holds Tryz.pinned (.plain (OpenSpec.upto validateConstantsSpec)) validateConstantsUptoCard
end Rows
end Go.Proofs.YtpjamkiepfmfbaaGreatDoor
