/-
  DERIVED. GIVEN WITH THE SEED: THE CARDS: each row of YtgelfefoiplekaaDoorRows.lean that lists a variable, with what it lists TIED to the program's text (the seventh form; the later family's looks); each row that meets fmt, with fmt's text TOLD by the authors' own Lean function (tested against real Go, not proved from fmt's source: count such statements apart). THE CARD IS WHAT COUNTS. Prove the row's statement (the work); the ties are given (YtgelfefoiplekaaDoorTie.lean); close each card by the builder's one call (the guide's Derived/Test/ToyasCard.lean, 'card_holds'). Laid BY PROGRAM, IN A SANDBOX (cutbox-door.mjs). By AI agents, Wed Nov 11 2026. No macro, syntax, notation, axiom, sorry.
-/
import Derived.Test.YtgelfefoiplekaaDoorRows
import GoSem.ClaimSeven
namespace Go.Proofs.YtgelfefoiplekaaDoor
namespace Rows

/-- THE TIED CARD OF 'warmpathlaw44.PolicyReturns'. -/
def policyReturnsCard : Claim7 := { stood := { row := policyReturnsRow, standIns := [], harness := (true, "e3676ea22d13cbdaa3000eb090b28a2dc8208e466ddb36ddbba412c47ea7c2fb"), looks := false }, kinds := [], alts := [], laidByText := true, laidKinds := [.data, .data, .data, .data, .pinned], laidTests := true, laidLooks := .later }
def PolicyReturnsCardSaid : Prop := Claim7.holds Tryd.pinned (.plain (OpenSpec.ofChange policyReturnsSpec)) policyReturnsCard

/-- THE TIED CARD OF 'warmpathlaw44.PolicyMachines'. -/
def policyMachinesCard : Claim7 := { stood := { row := policyMachinesRow, standIns := [], harness := (true, "e3676ea22d13cbdaa3000eb090b28a2dc8208e466ddb36ddbba412c47ea7c2fb"), looks := false }, kinds := [], alts := [], laidByText := true, laidKinds := [.data, .data, .data, .data, .pinned], laidTests := true, laidLooks := .later }
def PolicyMachinesCardSaid : Prop := Claim7.holds Tryd.pinned (.plain (OpenSpec.ofChange policyMachinesSpec)) policyMachinesCard

/-- THE TIED CARD OF 'warmpathlaw44.PolicyStays'. -/
def policyStaysCard : Claim7 := { stood := { row := policyStaysRow, standIns := [], harness := (true, "e3676ea22d13cbdaa3000eb090b28a2dc8208e466ddb36ddbba412c47ea7c2fb"), looks := false }, kinds := [], alts := [], laidByText := true, laidKinds := [.data, .data, .data, .data, .pinned], laidTests := true, laidLooks := .later }
def PolicyStaysCardSaid : Prop := Claim7.holds Tryd.pinned (.plain (OpenSpec.ofChange policyStaysSpec)) policyStaysCard

/-- THE TIED CARD OF 'warmpathlaw44.PolicyWorse'. -/
def policyWorseCard : Claim7 := { stood := { row := policyWorseRow, standIns := [], harness := (true, "e3676ea22d13cbdaa3000eb090b28a2dc8208e466ddb36ddbba412c47ea7c2fb"), looks := false }, kinds := [], alts := [], laidByText := true, laidKinds := [.data, .data, .data, .data, .pinned], laidTests := true, laidLooks := .later }
def PolicyWorseCardSaid : Prop := Claim7.holds Tryd.pinned (.plain (OpenSpec.ofChange policyWorseSpec)) policyWorseCard

/-- THE TIED CARD OF 'warmpathlaw44.PolicyLevel'. -/
def policyLevelCard : Claim7 := { stood := { row := policyLevelRow, standIns := [], harness := (true, "e3676ea22d13cbdaa3000eb090b28a2dc8208e466ddb36ddbba412c47ea7c2fb"), looks := false }, kinds := [], alts := [], laidByText := true, laidKinds := [.data, .data, .data, .data, .pinned], laidTests := true, laidLooks := .later }
def PolicyLevelCardSaid : Prop := Claim7.holds Tryd.pinned (.plain (OpenSpec.ofChange policyLevelSpec)) policyLevelCard

/-- THE TIED CARD OF 'warmpathlaw44.PolicyLooks'. -/
def policyLooksCard : Claim7 := { stood := { row := policyLooksRow, standIns := [], harness := (true, "e3676ea22d13cbdaa3000eb090b28a2dc8208e466ddb36ddbba412c47ea7c2fb"), looks := false }, kinds := [], alts := [], laidByText := true, laidKinds := [.data, .data, .data, .data, .pinned], laidTests := true, laidLooks := .later }
def PolicyLooksCardSaid : Prop := Claim7.holds Tryd.pinned (.plain (OpenSpec.ofChange policyLooksSpec)) policyLooksCard

/-- THE SECOND FORM's CARD OF 'warmpathlaw44.PolicyReturns'. -/
def policyReturnsUptoCard : Claim7 := { stood := { row := policyReturnsUptoRow, standIns := [], harness := (true, "e3676ea22d13cbdaa3000eb090b28a2dc8208e466ddb36ddbba412c47ea7c2fb"), looks := false }, kinds := [], alts := [], laidByText := true, laidKinds := [.data, .data, .data, .data, .pinned], laidTests := true, laidLooks := .later }
def PolicyReturnsUptoCardSaid : Prop := Claim7.holds Tryd.pinned (.plain (OpenSpec.upto policyReturnsSpec)) policyReturnsUptoCard

/-- THE SECOND FORM's CARD OF 'warmpathlaw44.PolicyMachines'. -/
def policyMachinesUptoCard : Claim7 := { stood := { row := policyMachinesUptoRow, standIns := [], harness := (true, "e3676ea22d13cbdaa3000eb090b28a2dc8208e466ddb36ddbba412c47ea7c2fb"), looks := false }, kinds := [], alts := [], laidByText := true, laidKinds := [.data, .data, .data, .data, .pinned], laidTests := true, laidLooks := .later }
def PolicyMachinesUptoCardSaid : Prop := Claim7.holds Tryd.pinned (.plain (OpenSpec.upto policyMachinesSpec)) policyMachinesUptoCard

/-- THE SECOND FORM's CARD OF 'warmpathlaw44.PolicyStays'. -/
def policyStaysUptoCard : Claim7 := { stood := { row := policyStaysUptoRow, standIns := [], harness := (true, "e3676ea22d13cbdaa3000eb090b28a2dc8208e466ddb36ddbba412c47ea7c2fb"), looks := false }, kinds := [], alts := [], laidByText := true, laidKinds := [.data, .data, .data, .data, .pinned], laidTests := true, laidLooks := .later }
def PolicyStaysUptoCardSaid : Prop := Claim7.holds Tryd.pinned (.plain (OpenSpec.upto policyStaysSpec)) policyStaysUptoCard

/-- THE SECOND FORM's CARD OF 'warmpathlaw44.PolicyWorse'. -/
def policyWorseUptoCard : Claim7 := { stood := { row := policyWorseUptoRow, standIns := [], harness := (true, "e3676ea22d13cbdaa3000eb090b28a2dc8208e466ddb36ddbba412c47ea7c2fb"), looks := false }, kinds := [], alts := [], laidByText := true, laidKinds := [.data, .data, .data, .data, .pinned], laidTests := true, laidLooks := .later }
def PolicyWorseUptoCardSaid : Prop := Claim7.holds Tryd.pinned (.plain (OpenSpec.upto policyWorseSpec)) policyWorseUptoCard

/-- THE SECOND FORM's CARD OF 'warmpathlaw44.PolicyLevel'. -/
def policyLevelUptoCard : Claim7 := { stood := { row := policyLevelUptoRow, standIns := [], harness := (true, "e3676ea22d13cbdaa3000eb090b28a2dc8208e466ddb36ddbba412c47ea7c2fb"), looks := false }, kinds := [], alts := [], laidByText := true, laidKinds := [.data, .data, .data, .data, .pinned], laidTests := true, laidLooks := .later }
def PolicyLevelUptoCardSaid : Prop := Claim7.holds Tryd.pinned (.plain (OpenSpec.upto policyLevelSpec)) policyLevelUptoCard

/-- THE SECOND FORM's CARD OF 'warmpathlaw44.PolicyLooks'. -/
def policyLooksUptoCard : Claim7 := { stood := { row := policyLooksUptoRow, standIns := [], harness := (true, "e3676ea22d13cbdaa3000eb090b28a2dc8208e466ddb36ddbba412c47ea7c2fb"), looks := false }, kinds := [], alts := [], laidByText := true, laidKinds := [.data, .data, .data, .data, .pinned], laidTests := true, laidLooks := .later }
def PolicyLooksUptoCardSaid : Prop := Claim7.holds Tryd.pinned (.plain (OpenSpec.upto policyLooksSpec)) policyLooksUptoCard
end Rows
end Go.Proofs.YtgelfefoiplekaaDoor
