/-
  NARROWER THAN 'FOR EVERY INPUT', by the rows' own cells (each row's printed sentence says how): ShardOrders: laid · ShardValid: laid.
  DERIVED. THE GIVEN ROWS OF THIS SEAT. 2 by the template 'for every input the law returns true; each argument reads behind the call as it read before'; 0 by the template 'total and deterministic' (their statements: YtcdophocpheadaaGreatDoorTotals.lean).
  GIVEN WITH THE SEED: the statements are not yours to turn. If you find one false, say at which input.
  Laid BY PROGRAM, IN A SANDBOX (cutbox-rows.mjs): the forced cells as the released guide's own fill.sh prints them over the translation 373317a94b0515ee… (all of the seat's roots in one cut). By AI agents, Wed Nov 11 2026. No macro, syntax, notation, axiom, sorry.
-/
import Derived.Test.YtcdophocpheadaaGreatDoorChecked
import GoSem.Claim
import GoSem.ClaimJoined
import GoSem.ClaimMapViews
import Derived.JoinedTies
import Derived.KernelRfl
namespace Go.Proofs.YtcdophocpheadaaGreatDoor
/- THE CELL 'sum', in the pinned program and in every row, IS THE sha256 OF THE DUMP (.gsa) THAT YtcdophocpheadaaGreatDoorProg.lean LOADS. Nothing in Lean hashes anything: it is a label: what it is worth is what the hold of that sum in a sandbox is worth. -/
noncomputable def Tryz.pinned : Pinned := { name := "ytcdophocpheadaagreatdoor", sum := "373317a94b0515ee58b5c375cb0fbcb85299b102a1b984d9593bdda8517eb840", checked := Tryz.checked }
namespace Rows
def none {H : Type} : Left H := { results := [], args := [] }

/- WHAT THE LISTED PACKAGE-LEVEL VARIABLES READ AS WHEN THE CALL BEGINS. Each datum BY PROGRAM (the guide's laid-datum.mjs) off the statement by which the dump's own 'gosem.cut.vars' lays the variable. In a bare row this is a premise. The card (YtcdophocpheadaaGreatDoorCards.lean) ties it to the program's text. -/
def laid_warmpath_codec_remainders {H : Type} : DataW H := .agg [.lit (.int .u32 0), .lit (.int .u32 498536548), .lit (.int .u32 997073096), .lit (.int .u32 651767980), .lit (.int .u32 1994146192), .lit (.int .u32 1802195444), .lit (.int .u32 1303535960), .lit (.int .u32 1342533948), .lit (.int .u32 3988292384), .lit (.int .u32 4027552580), .lit (.int .u32 3604390888), .lit (.int .u32 3412177804), .lit (.int .u32 2607071920), .lit (.int .u32 2262029012), .lit (.int .u32 2685067896), .lit (.int .u32 3183342108)]
def laid_warmpath_machine_rows {H : Type} : DataW H := .agg [.lit (.string []), .lit (.string [100, 56]), .lit (.string [100, 97]), .lit (.string [111, 100, 97]), .lit (.string [111, 100, 97, 98]), .lit (.string [100, 49]), .lit (.string [97, 49]), .lit (.string [100, 97, 49]), .lit (.string [97, 98, 49]), .lit (.string [100]), .lit (.string [97]), .lit (.string [100, 52, 110]), .lit (.string [100, 97, 110]), .lit (.string [106]), .lit (.string [97, 106]), .lit (.string [97, 106]), .lit (.string [97]), .lit (.string [50]), .lit (.string [100, 49])]

/-- 'warmpathlaw30.ShardOrders': WHATEVER THE INPUT: true; the input reads as it did. -/
def shardOrdersSpec : ChangeSpec := { name := "shardOrders", fn := fun _ => fun
  | [d1, d2, d3, d4] => { results := [.lit (.bool true)], args := [d1, d2, d3, d4] }
  | _ => none }
def shardOrdersRow : OpenClaim := { program := "ytcdophocpheadaagreatdoor", sum := "373317a94b0515ee58b5c375cb0fbcb85299b102a1b984d9593bdda8517eb840", func := "warmpath/warmpathlaw30.ShardOrders", spec := "shardOrders", inPlace := ["slices.overlaps[warmpath/api.Block]", "slices.overlaps[warmpath/api.Link]"], unfollowed := true, recurses := true, named := ["warmpath/machine.rows", "warmpath/codec.remainders"], apart := false, laid := [("warmpath/codec.remainders", laid_warmpath_codec_remainders), ("warmpath/machine.rows", laid_warmpath_machine_rows)] }
def ShardOrdersSaid : Prop := shardOrdersRow.holds Tryz.pinned (OpenSpec.ofChange shardOrdersSpec)

/-- ITS FALSE NEIGHBOUR: 'it returns false'. Refute it at one input. -/
def shardOrdersWrong : ChangeSpec := { name := "shardOrders", fn := fun _ => fun
  | [d1, d2, d3, d4] => { results := [.lit (.bool false)], args := [d1, d2, d3, d4] }
  | _ => none }
def ShardOrdersWrongFalsely : Prop := shardOrdersRow.holds Tryz.pinned (OpenSpec.ofChange shardOrdersWrong)

/-- 'warmpathlaw30.ShardValid': WHATEVER THE INPUT: true; the input reads as it did. -/
def shardValidSpec : ChangeSpec := { name := "shardValid", fn := fun _ => fun
  | [d1, d2] => { results := [.lit (.bool true)], args := [d1, d2] }
  | _ => none }
def shardValidRow : OpenClaim := { program := "ytcdophocpheadaagreatdoor", sum := "373317a94b0515ee58b5c375cb0fbcb85299b102a1b984d9593bdda8517eb840", func := "warmpath/warmpathlaw30.ShardValid", spec := "shardValid", inPlace := ["slices.overlaps[warmpath/api.Block]", "slices.overlaps[warmpath/api.Link]"], unfollowed := true, recurses := true, named := ["warmpath/machine.rows", "warmpath/codec.remainders"], apart := false, laid := [("warmpath/codec.remainders", laid_warmpath_codec_remainders), ("warmpath/machine.rows", laid_warmpath_machine_rows)] }
def ShardValidSaid : Prop := shardValidRow.holds Tryz.pinned (OpenSpec.ofChange shardValidSpec)

/-- ITS FALSE NEIGHBOUR: 'it returns false'. Refute it at one input. -/
def shardValidWrong : ChangeSpec := { name := "shardValid", fn := fun _ => fun
  | [d1, d2] => { results := [.lit (.bool false)], args := [d1, d2] }
  | _ => none }
def ShardValidWrongFalsely : Prop := shardValidRow.holds Tryz.pinned (OpenSpec.ofChange shardValidWrong)

/- THE SECOND FORM. 'bulk': how many values and letters a reading holds, each counted each time it is reached (what is shared counts as often as it is met; a slice's spare places count too). A statement '..UptoSaid' is the law's where the arguments, and the package variables that the reading takes, are together of bulk at most 1048576: NARROWER than '..Said'. Prove '..Said' where nothing that the law and all that it calls make is longer than what came in: it says more and counts as full. Else prove '..UptoSaid'. A law counts once. -/
mutual
def uptoBulk {H : Type} : DataW H → Nat
  | .lit (.string bytes) => bytes.length + 1
  | .lit _ => 1
  | .nil => 1
  | .ptr d => uptoBulk d + 1
  | .slice elems spare => uptoBulkAll elems + uptoBulkAll spare + 1
  | .agg parts => uptoBulkAll parts + 1
  | .iface _ d => uptoBulk d + 1
  | .map entries => uptoBulkEntries entries + 1
  | .held _ => 1
def uptoBulkAll {H : Type} : List (DataW H) → Nat
  | [] => 0
  | d :: r => uptoBulk d + uptoBulkAll r
def uptoBulkEntries {H : Type} : List (Lit × DataW H) → Nat
  | [] => 0
  | x :: r => uptoBulkEntry x + uptoBulkEntries r
def uptoBulkEntry {H : Type} : Lit × DataW H → Nat
  | (.string bytes, d) => bytes.length + uptoBulk d + 1
  | (_, d) => uptoBulk d + 1
 end
def uptoSmall : (H : Type) → List (DataW H) → Bool := fun _ ds => decide (uptoBulkAll ds ≤ 1048576)
def OpenSpec.upto (s : _root_.Go.ChangeSpec) : _root_.Go.OpenSpec := { _root_.Go.OpenSpec.ofChange s with cond := some uptoSmall }

/-- 'warmpathlaw30.ShardOrders', WHERE WHAT IT READS IS OF BULK AT MOST 1048576: true; the input reads as it did. -/
def shardOrdersUptoRow : OpenClaim := { program := "ytcdophocpheadaagreatdoor", sum := "373317a94b0515ee58b5c375cb0fbcb85299b102a1b984d9593bdda8517eb840", func := "warmpath/warmpathlaw30.ShardOrders", spec := "shardOrders", inPlace := ["slices.overlaps[warmpath/api.Block]", "slices.overlaps[warmpath/api.Link]"], unfollowed := true, recurses := true, named := ["warmpath/machine.rows", "warmpath/codec.remainders"], apart := false, laid := [("warmpath/codec.remainders", laid_warmpath_codec_remainders), ("warmpath/machine.rows", laid_warmpath_machine_rows)], narrowed := true }
def ShardOrdersUptoSaid : Prop := shardOrdersUptoRow.holds Tryz.pinned (OpenSpec.upto shardOrdersSpec)

/-- 'warmpathlaw30.ShardValid', WHERE WHAT IT READS IS OF BULK AT MOST 1048576: true; the input reads as it did. -/
def shardValidUptoRow : OpenClaim := { program := "ytcdophocpheadaagreatdoor", sum := "373317a94b0515ee58b5c375cb0fbcb85299b102a1b984d9593bdda8517eb840", func := "warmpath/warmpathlaw30.ShardValid", spec := "shardValid", inPlace := ["slices.overlaps[warmpath/api.Block]", "slices.overlaps[warmpath/api.Link]"], unfollowed := true, recurses := true, named := ["warmpath/machine.rows", "warmpath/codec.remainders"], apart := false, laid := [("warmpath/codec.remainders", laid_warmpath_codec_remainders), ("warmpath/machine.rows", laid_warmpath_machine_rows)], narrowed := true }
def ShardValidUptoSaid : Prop := shardValidUptoRow.holds Tryz.pinned (OpenSpec.upto shardValidSpec)

end Rows
end Go.Proofs.YtcdophocpheadaaGreatDoor
