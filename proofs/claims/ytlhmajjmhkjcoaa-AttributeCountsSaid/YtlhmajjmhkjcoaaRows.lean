/-
  No cell of these rows narrows 'for every input' (looked for: loops, veiled, ifaces, maps, wideKeys, modest, calm, conditions, laid).
  DERIVED. THE GIVEN ROWS OF THIS SEAT. 3 by the template 'for every input the law returns true; each argument reads behind the call as it read before'; 0 by the template 'total and deterministic' (their statements: YtlhmajjmhkjcoaaTotals.lean).
  GIVEN WITH THE SEED: the statements are not yours to turn. If you find one false, say at which input.
  Laid BY PROGRAM, IN A SANDBOX (cutbox-rows.mjs): the forced cells as the released guide's own fill.sh prints them over the translation 1681ec8f95d0d8a7… (all of the seat's roots in one cut). By AI agents, Wed Nov 11 2026. No macro, syntax, notation, axiom, sorry.
-/
import Derived.Test.YtlhmajjmhkjcoaaChecked
import GoSem.Claim
import GoSem.ClaimJoined
import GoSem.ClaimMapViews
import Derived.JoinedTies
import Derived.KernelRfl
namespace Go.Proofs.Ytlhmajjmhkjcoaa
/- THE CELL 'sum', in the pinned program and in every row, IS THE sha256 OF THE DUMP (.gsa) THAT YtlhmajjmhkjcoaaProg.lean LOADS. Nothing in Lean hashes anything: it is a label: what it is worth is what the hold of that sum in a sandbox is worth. -/
noncomputable def Try.pinned : Pinned := { name := "ytlhmajjmhkjcoaa", sum := "1681ec8f95d0d8a7b597cdc1f624ff5d1d8d87337e9ef2440e1a85c53702ca04", checked := Try.checked }
namespace Rows
def none {H : Type} : Left H := { results := [], args := [] }

/-- 'warmpathlaw23.AttributeLocates': WHATEVER THE INPUT: true; the input reads as it did. -/
def attributeLocatesSpec : ChangeSpec := { name := "attributeLocates", fn := fun _ => fun
  | [d1, d2, d3] => { results := [.lit (.bool true)], args := [d1, d2, d3] }
  | _ => none }
def attributeLocatesRow : OpenClaim := { program := "ytlhmajjmhkjcoaa", sum := "1681ec8f95d0d8a7b597cdc1f624ff5d1d8d87337e9ef2440e1a85c53702ca04", func := "warmpath/warmpathlaw23.AttributeLocates", spec := "attributeLocates", inPlace := ["slices.overlaps[warmpath/api.Link]"], unfollowed := true, recurses := true, apart := false }
def AttributeLocatesSaid : Prop := attributeLocatesRow.holds Try.pinned (OpenSpec.ofChange attributeLocatesSpec)

/-- ITS FALSE NEIGHBOUR: 'it returns false'. Refute it at one input. -/
def attributeLocatesWrong : ChangeSpec := { name := "attributeLocates", fn := fun _ => fun
  | [d1, d2, d3] => { results := [.lit (.bool false)], args := [d1, d2, d3] }
  | _ => none }
def AttributeLocatesWrongFalsely : Prop := attributeLocatesRow.holds Try.pinned (OpenSpec.ofChange attributeLocatesWrong)

/-- 'warmpathlaw23.AttributeAdds': WHATEVER THE INPUT: true; the input reads as it did. -/
def attributeAddsSpec : ChangeSpec := { name := "attributeAdds", fn := fun _ => fun
  | [d1, d2, d3] => { results := [.lit (.bool true)], args := [d1, d2, d3] }
  | _ => none }
def attributeAddsRow : OpenClaim := { program := "ytlhmajjmhkjcoaa", sum := "1681ec8f95d0d8a7b597cdc1f624ff5d1d8d87337e9ef2440e1a85c53702ca04", func := "warmpath/warmpathlaw23.AttributeAdds", spec := "attributeAdds", inPlace := ["slices.overlaps[warmpath/api.Link]"], unfollowed := true, recurses := true, apart := false }
def AttributeAddsSaid : Prop := attributeAddsRow.holds Try.pinned (OpenSpec.ofChange attributeAddsSpec)

/-- ITS FALSE NEIGHBOUR: 'it returns false'. Refute it at one input. -/
def attributeAddsWrong : ChangeSpec := { name := "attributeAdds", fn := fun _ => fun
  | [d1, d2, d3] => { results := [.lit (.bool false)], args := [d1, d2, d3] }
  | _ => none }
def AttributeAddsWrongFalsely : Prop := attributeAddsRow.holds Try.pinned (OpenSpec.ofChange attributeAddsWrong)

/-- 'warmpathlaw23.AttributeCounts': WHATEVER THE INPUT: true; the input reads as it did. -/
def attributeCountsSpec : ChangeSpec := { name := "attributeCounts", fn := fun _ => fun
  | [d1, d2, d3] => { results := [.lit (.bool true)], args := [d1, d2, d3] }
  | _ => none }
def attributeCountsRow : OpenClaim := { program := "ytlhmajjmhkjcoaa", sum := "1681ec8f95d0d8a7b597cdc1f624ff5d1d8d87337e9ef2440e1a85c53702ca04", func := "warmpath/warmpathlaw23.AttributeCounts", spec := "attributeCounts", inPlace := ["slices.overlaps[warmpath/api.Link]"], unfollowed := true, recurses := true, apart := false }
def AttributeCountsSaid : Prop := attributeCountsRow.holds Try.pinned (OpenSpec.ofChange attributeCountsSpec)

/-- ITS FALSE NEIGHBOUR: 'it returns false'. Refute it at one input. -/
def attributeCountsWrong : ChangeSpec := { name := "attributeCounts", fn := fun _ => fun
  | [d1, d2, d3] => { results := [.lit (.bool false)], args := [d1, d2, d3] }
  | _ => none }
def AttributeCountsWrongFalsely : Prop := attributeCountsRow.holds Try.pinned (OpenSpec.ofChange attributeCountsWrong)

/- THE SECOND FORM. 'bulk': how many values and letters a reading holds, each counted each time it is reached (what is shared counts as often as it is met; a slice's spare places count too). A statement '..UptoSaid' is the law's where the arguments, and the package variables that the reading takes, are together of bulk at most 1048576: NARROWER than '..Said'. Prove '..Said' where nothing that the law and all that it calls make is longer than what came in: it says more and counts as full. Else prove '..UptoSaid'. A law counts once. -/
mutual
def uptoBulk {H : Type} : DataW H → Nat
  | .lit (.string bytes) => bytes.length + 1
  | .lit _ => 1
  | .nil => 1
  | .ptr d => uptoBulk d + 1
  | .slice elems spare => uptoBulkAll elems + uptoBulkAll spare + 1
  | .agg parts => uptoBulkAll parts + 1
  | .iface _ d => uptoBulk d + 1
  | .map entries => uptoBulkEntries entries + 1
  | .held _ => 1
def uptoBulkAll {H : Type} : List (DataW H) → Nat
  | [] => 0
  | d :: r => uptoBulk d + uptoBulkAll r
def uptoBulkEntries {H : Type} : List (Lit × DataW H) → Nat
  | [] => 0
  | x :: r => uptoBulkEntry x + uptoBulkEntries r
def uptoBulkEntry {H : Type} : Lit × DataW H → Nat
  | (.string bytes, d) => bytes.length + uptoBulk d + 1
  | (_, d) => uptoBulk d + 1
 end
def uptoSmall : (H : Type) → List (DataW H) → Bool := fun _ ds => decide (uptoBulkAll ds ≤ 1048576)
def OpenSpec.upto (s : _root_.Go.ChangeSpec) : _root_.Go.OpenSpec := { _root_.Go.OpenSpec.ofChange s with cond := some uptoSmall }

/-- 'warmpathlaw23.AttributeLocates', WHERE WHAT IT READS IS OF BULK AT MOST 1048576: true; the input reads as it did. -/
def attributeLocatesUptoRow : OpenClaim := { program := "ytlhmajjmhkjcoaa", sum := "1681ec8f95d0d8a7b597cdc1f624ff5d1d8d87337e9ef2440e1a85c53702ca04", func := "warmpath/warmpathlaw23.AttributeLocates", spec := "attributeLocates", inPlace := ["slices.overlaps[warmpath/api.Link]"], unfollowed := true, recurses := true, apart := false, narrowed := true }
def AttributeLocatesUptoSaid : Prop := attributeLocatesUptoRow.holds Try.pinned (OpenSpec.upto attributeLocatesSpec)

/-- 'warmpathlaw23.AttributeAdds', WHERE WHAT IT READS IS OF BULK AT MOST 1048576: true; the input reads as it did. -/
def attributeAddsUptoRow : OpenClaim := { program := "ytlhmajjmhkjcoaa", sum := "1681ec8f95d0d8a7b597cdc1f624ff5d1d8d87337e9ef2440e1a85c53702ca04", func := "warmpath/warmpathlaw23.AttributeAdds", spec := "attributeAdds", inPlace := ["slices.overlaps[warmpath/api.Link]"], unfollowed := true, recurses := true, apart := false, narrowed := true }
def AttributeAddsUptoSaid : Prop := attributeAddsUptoRow.holds Try.pinned (OpenSpec.upto attributeAddsSpec)

/-- 'warmpathlaw23.AttributeCounts', WHERE WHAT IT READS IS OF BULK AT MOST 1048576: true; the input reads as it did. -/
def attributeCountsUptoRow : OpenClaim := { program := "ytlhmajjmhkjcoaa", sum := "1681ec8f95d0d8a7b597cdc1f624ff5d1d8d87337e9ef2440e1a85c53702ca04", func := "warmpath/warmpathlaw23.AttributeCounts", spec := "attributeCounts", inPlace := ["slices.overlaps[warmpath/api.Link]"], unfollowed := true, recurses := true, apart := false, narrowed := true }
def AttributeCountsUptoSaid : Prop := attributeCountsUptoRow.holds Try.pinned (OpenSpec.upto attributeCountsSpec)

end Rows
end Go.Proofs.Ytlhmajjmhkjcoaa
