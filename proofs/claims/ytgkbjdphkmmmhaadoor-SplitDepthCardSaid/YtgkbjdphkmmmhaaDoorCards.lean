/-
  DERIVED. GIVEN WITH THE SEED: THE CARDS: each row of YtgkbjdphkmmmhaaDoorRows.lean that lists a variable, with what it lists TIED to the program's text (the seventh form; the later family's looks); each row that meets fmt, with fmt's text TOLD by the authors' own Lean function (tested against real Go, not proved from fmt's source: count such statements apart). THE CARD IS WHAT COUNTS. Prove the row's statement (the work); the ties are given (YtgkbjdphkmmmhaaDoorTie.lean); close each card by the builder's one call (the guide's Derived/Test/ToyasCard.lean, 'card_holds'). Laid BY PROGRAM, IN A SANDBOX (cutbox-door.mjs). By AI agents, Wed Nov 11 2026. No macro, syntax, notation, axiom, sorry.
-/
import Derived.Test.YtgkbjdphkmmmhaaDoorRows
import GoSem.ClaimSeven
namespace Go.Proofs.YtgkbjdphkmmmhaaDoor
namespace Rows

/-- THE TIED CARD OF 'warmpathlaw35.SplitDepth'. -/
def splitDepthCard : Claim7 := { stood := { row := splitDepthRow, standIns := [], harness := (true, "d190ee9c9c4252cf4a89ccd6b8549bb8ee257da422e29c79b057565db1ce9397"), looks := false }, kinds := [], alts := [], laidByText := true, laidKinds := [.data, .data, .data], laidTests := true, laidLooks := .later }
def SplitDepthCardSaid : Prop := Claim7.holds Tryd.pinned (.plain (OpenSpec.ofChange splitDepthSpec)) splitDepthCard

/-- THE SECOND FORM's CARD OF 'warmpathlaw35.SplitDepth'. -/
def splitDepthUptoCard : Claim7 := { stood := { row := splitDepthUptoRow, standIns := [], harness := (true, "d190ee9c9c4252cf4a89ccd6b8549bb8ee257da422e29c79b057565db1ce9397"), looks := false }, kinds := [], alts := [], laidByText := true, laidKinds := [.data, .data, .data], laidTests := true, laidLooks := .later }
def SplitDepthUptoCardSaid : Prop := Claim7.holds Tryd.pinned (.plain (OpenSpec.upto splitDepthSpec)) splitDepthUptoCard
end Rows
end Go.Proofs.YtgkbjdphkmmmhaaDoor
