/-
  DERIVED. GIVEN WITH THE SEED: THE CARDS: each row of YtcdophocpheadaaGreatDoorRows.lean that lists a variable, with what it lists TIED to the program's text (the seventh form; the later family's looks); each row that meets fmt, with fmt's text TOLD by the authors' own Lean function (tested against real Go, not proved from fmt's source: count such statements apart). THE CARD IS WHAT COUNTS. Prove the row's statement (the work); the ties are given (YtcdophocpheadaaGreatDoorTie.lean); close each card by the builder's one call (the guide's Derived/Test/ToyasCard.lean, 'card_holds'). Laid BY PROGRAM, IN A SANDBOX (cutbox-door.mjs). By AI agents, Wed Nov 11 2026. No macro, syntax, notation, axiom, sorry.
-/
import Derived.Test.YtcdophocpheadaaGreatDoorRows
import GoSem.ClaimSeven
namespace Go.Proofs.YtcdophocpheadaaGreatDoor
namespace Rows

/-- THE TIED CARD OF 'warmpathlaw30.ShardOrders'. -/
def shardOrdersCard : Claim7 := { stood := { row := shardOrdersRow, standIns := [], harness := (true, "f954b33d6122a77b450905c148b2ab033ca9fcc7b2c638dbe4ef99a7f02bb601"), looks := false }, kinds := [], alts := [], laidByText := true, laidKinds := [.data, .data], laidTests := true, laidLooks := .later }
def ShardOrdersCardSaid : Prop := Claim7.holds Tryz.pinned (.plain (OpenSpec.ofChange shardOrdersSpec)) shardOrdersCard

/-- THE TIED CARD OF 'warmpathlaw30.ShardValid'. -/
def shardValidCard : Claim7 := { stood := { row := shardValidRow, standIns := [], harness := (true, "f954b33d6122a77b450905c148b2ab033ca9fcc7b2c638dbe4ef99a7f02bb601"), looks := false }, kinds := [], alts := [], laidByText := true, laidKinds := [.data, .data], laidTests := true, laidLooks := .later }
def ShardValidCardSaid : Prop := Claim7.holds Tryz.pinned (.plain (OpenSpec.ofChange shardValidSpec)) shardValidCard

/-- THE SECOND FORM's CARD OF 'warmpathlaw30.ShardOrders'. -/
def shardOrdersUptoCard : Claim7 := { stood := { row := shardOrdersUptoRow, standIns := [], harness := (true, "f954b33d6122a77b450905c148b2ab033ca9fcc7b2c638dbe4ef99a7f02bb601"), looks := false }, kinds := [], alts := [], laidByText := true, laidKinds := [.data, .data], laidTests := true, laidLooks := .later }
def ShardOrdersUptoCardSaid : Prop := Claim7.holds Tryz.pinned (.plain (OpenSpec.upto shardOrdersSpec)) shardOrdersUptoCard

/-- THE SECOND FORM's CARD OF 'warmpathlaw30.ShardValid'. -/
def shardValidUptoCard : Claim7 := { stood := { row := shardValidUptoRow, standIns := [], harness := (true, "f954b33d6122a77b450905c148b2ab033ca9fcc7b2c638dbe4ef99a7f02bb601"), looks := false }, kinds := [], alts := [], laidByText := true, laidKinds := [.data, .data], laidTests := true, laidLooks := .later }
def ShardValidUptoCardSaid : Prop := Claim7.holds Tryz.pinned (.plain (OpenSpec.upto shardValidSpec)) shardValidUptoCard
end Rows
end Go.Proofs.YtcdophocpheadaaGreatDoor
