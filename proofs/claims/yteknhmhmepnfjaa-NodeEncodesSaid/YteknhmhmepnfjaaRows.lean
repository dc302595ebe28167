/-
  No cell of these rows narrows 'for every input' (looked for: loops, veiled, ifaces, maps, wideKeys, modest, calm, conditions, laid).
  DERIVED. THE GIVEN ROWS OF THIS SEAT. 3 by the template 'for every input the law returns true; each argument reads behind the call as it read before'; 0 by the template 'total and deterministic' (their statements: YteknhmhmepnfjaaTotals.lean).
  GIVEN WITH THE SEED: the statements are not yours to turn. If you find one false, say at which input.
  Laid BY PROGRAM, IN A SANDBOX (cutbox-rows.mjs): the forced cells as the released guide's own fill.sh prints them over the translation 8d25d8b606a78edf… (all of the seat's roots in one cut). By AI agents, Wed Nov 11 2026. No macro, syntax, notation, axiom, sorry.
-/
import Derived.Test.YteknhmhmepnfjaaChecked
import GoSem.Claim
import GoSem.ClaimJoined
import GoSem.ClaimMapViews
import Derived.JoinedTies
import Derived.KernelRfl
namespace Go.Proofs.Yteknhmhmepnfjaa
/- THE CELL 'sum', in the pinned program and in every row, IS THE sha256 OF THE DUMP (.gsa) THAT YteknhmhmepnfjaaProg.lean LOADS. Nothing in Lean hashes anything: it is a label: what it is worth is what the hold of that sum in a sandbox is worth. -/
noncomputable def Try.pinned : Pinned := { name := "yteknhmhmepnfjaa", sum := "8d25d8b606a78edfbbfaafd8871ca4b8555d27bb11bb061f80654b42b8af413c", checked := Try.checked }
namespace Rows
def none {H : Type} : Left H := { results := [], args := [] }

/-- 'pergolalaw05.NodeRights': WHATEVER THE INPUT: true; the input reads as it did. -/
def nodeRightsSpec : ChangeSpec := { name := "nodeRights", fn := fun _ => fun
  | [d] => { results := [.lit (.bool true)], args := [d] }
  | _ => none }
def nodeRightsRow : OpenClaim := { program := "yteknhmhmepnfjaa", sum := "8d25d8b606a78edfbbfaafd8871ca4b8555d27bb11bb061f80654b42b8af413c", func := "pergola/pergolalaw05.NodeRights", spec := "nodeRights", recurses := true, apart := false }
def NodeRightsSaid : Prop := nodeRightsRow.holds Try.pinned (OpenSpec.ofChange nodeRightsSpec)

/-- ITS FALSE NEIGHBOUR: 'it returns false'. Refute it at one input. -/
def nodeRightsWrong : ChangeSpec := { name := "nodeRights", fn := fun _ => fun
  | [d] => { results := [.lit (.bool false)], args := [d] }
  | _ => none }
def NodeRightsWrongFalsely : Prop := nodeRightsRow.holds Try.pinned (OpenSpec.ofChange nodeRightsWrong)

/-- 'pergolalaw05.NodeEncodes': WHATEVER THE INPUT: true; the input reads as it did. -/
def nodeEncodesSpec : ChangeSpec := { name := "nodeEncodes", fn := fun _ => fun
  | [d] => { results := [.lit (.bool true)], args := [d] }
  | _ => none }
def nodeEncodesRow : OpenClaim := { program := "yteknhmhmepnfjaa", sum := "8d25d8b606a78edfbbfaafd8871ca4b8555d27bb11bb061f80654b42b8af413c", func := "pergola/pergolalaw05.NodeEncodes", spec := "nodeEncodes", recurses := true, apart := false }
def NodeEncodesSaid : Prop := nodeEncodesRow.holds Try.pinned (OpenSpec.ofChange nodeEncodesSpec)

/-- ITS FALSE NEIGHBOUR: 'it returns false'. Refute it at one input. -/
def nodeEncodesWrong : ChangeSpec := { name := "nodeEncodes", fn := fun _ => fun
  | [d] => { results := [.lit (.bool false)], args := [d] }
  | _ => none }
def NodeEncodesWrongFalsely : Prop := nodeEncodesRow.holds Try.pinned (OpenSpec.ofChange nodeEncodesWrong)

/-- 'pergolalaw05.NodeDecodes': WHATEVER THE INPUT: true; the input reads as it did. -/
def nodeDecodesSpec : ChangeSpec := { name := "nodeDecodes", fn := fun _ => fun
  | [d] => { results := [.lit (.bool true)], args := [d] }
  | _ => none }
def nodeDecodesRow : OpenClaim := { program := "yteknhmhmepnfjaa", sum := "8d25d8b606a78edfbbfaafd8871ca4b8555d27bb11bb061f80654b42b8af413c", func := "pergola/pergolalaw05.NodeDecodes", spec := "nodeDecodes", recurses := true, apart := false }
def NodeDecodesSaid : Prop := nodeDecodesRow.holds Try.pinned (OpenSpec.ofChange nodeDecodesSpec)

/-- ITS FALSE NEIGHBOUR: 'it returns false'. Refute it at one input. -/
def nodeDecodesWrong : ChangeSpec := { name := "nodeDecodes", fn := fun _ => fun
  | [d] => { results := [.lit (.bool false)], args := [d] }
  | _ => none }
def NodeDecodesWrongFalsely : Prop := nodeDecodesRow.holds Try.pinned (OpenSpec.ofChange nodeDecodesWrong)

/- THE SECOND FORM. 'bulk': how many values and letters a reading holds, each counted each time it is reached (what is shared counts as often as it is met; a slice's spare places count too). A statement '..UptoSaid' is the law's where the arguments, and the package variables that the reading takes, are together of bulk at most 1048576: NARROWER than '..Said'. Prove '..Said' where nothing that the law and all that it calls make is longer than what came in: it says more and counts as full. Else prove '..UptoSaid'. A law counts once. -/
mutual
def uptoBulk {H : Type} : DataW H → Nat
  | .lit (.string bytes) => bytes.length + 1
  | .lit _ => 1
  | .nil => 1
  | .ptr d => uptoBulk d + 1
  | .slice elems spare => uptoBulkAll elems + uptoBulkAll spare + 1
  | .agg parts => uptoBulkAll parts + 1
  | .iface _ d => uptoBulk d + 1
  | .map entries => uptoBulkEntries entries + 1
  | .held _ => 1
def uptoBulkAll {H : Type} : List (DataW H) → Nat
  | [] => 0
  | d :: r => uptoBulk d + uptoBulkAll r
def uptoBulkEntries {H : Type} : List (Lit × DataW H) → Nat
  | [] => 0
  | x :: r => uptoBulkEntry x + uptoBulkEntries r
def uptoBulkEntry {H : Type} : Lit × DataW H → Nat
  | (.string bytes, d) => bytes.length + uptoBulk d + 1
  | (_, d) => uptoBulk d + 1
 end
def uptoSmall : (H : Type) → List (DataW H) → Bool := fun _ ds => decide (uptoBulkAll ds ≤ 1048576)
def OpenSpec.upto (s : _root_.Go.ChangeSpec) : _root_.Go.OpenSpec := { _root_.Go.OpenSpec.ofChange s with cond := some uptoSmall }

/-- 'pergolalaw05.NodeRights', WHERE WHAT IT READS IS OF BULK AT MOST 1048576: true; the input reads as it did. -/
def nodeRightsUptoRow : OpenClaim := { program := "yteknhmhmepnfjaa", sum := "8d25d8b606a78edfbbfaafd8871ca4b8555d27bb11bb061f80654b42b8af413c", func := "pergola/pergolalaw05.NodeRights", spec := "nodeRights", recurses := true, apart := false, narrowed := true }
def NodeRightsUptoSaid : Prop := nodeRightsUptoRow.holds Try.pinned (OpenSpec.upto nodeRightsSpec)

/-- 'pergolalaw05.NodeEncodes', WHERE WHAT IT READS IS OF BULK AT MOST 1048576: true; the input reads as it did. -/
def nodeEncodesUptoRow : OpenClaim := { program := "yteknhmhmepnfjaa", sum := "8d25d8b606a78edfbbfaafd8871ca4b8555d27bb11bb061f80654b42b8af413c", func := "pergola/pergolalaw05.NodeEncodes", spec := "nodeEncodes", recurses := true, apart := false, narrowed := true }
def NodeEncodesUptoSaid : Prop := nodeEncodesUptoRow.holds Try.pinned (OpenSpec.upto nodeEncodesSpec)

/-- 'pergolalaw05.NodeDecodes', WHERE WHAT IT READS IS OF BULK AT MOST 1048576: true; the input reads as it did. -/
def nodeDecodesUptoRow : OpenClaim := { program := "yteknhmhmepnfjaa", sum := "8d25d8b606a78edfbbfaafd8871ca4b8555d27bb11bb061f80654b42b8af413c", func := "pergola/pergolalaw05.NodeDecodes", spec := "nodeDecodes", recurses := true, apart := false, narrowed := true }
def NodeDecodesUptoSaid : Prop := nodeDecodesUptoRow.holds Try.pinned (OpenSpec.upto nodeDecodesSpec)

end Rows
end Go.Proofs.Yteknhmhmepnfjaa
