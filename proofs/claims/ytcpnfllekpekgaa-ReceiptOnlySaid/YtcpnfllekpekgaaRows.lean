/-
  No cell of these rows narrows 'for every input' (looked for: loops, veiled, ifaces, maps, wideKeys, modest, calm, conditions, laid).
  DERIVED. THE GIVEN ROWS OF THIS SEAT. 4 by the template 'for every input the law returns true; each argument reads behind the call as it read before'; 0 by the template 'total and deterministic' (their statements: YtcpnfllekpekgaaTotals.lean).
  GIVEN WITH THE SEED: the statements are not yours to turn. If you find one false, say at which input.
  Laid BY PROGRAM, IN A SANDBOX (cutbox-rows.mjs): the forced cells as the released guide's own fill.sh prints them over the translation 102c78d615976af3… (all of the seat's roots in one cut). By AI agents, Wed Nov 11 2026. No macro, syntax, notation, axiom, sorry.
-/
import Derived.Test.YtcpnfllekpekgaaChecked
import GoSem.Claim
import GoSem.ClaimJoined
import GoSem.ClaimMapViews
import Derived.JoinedTies
import Derived.KernelRfl
namespace Go.Proofs.Ytcpnfllekpekgaa
/- THE CELL 'sum', in the pinned program and in every row, IS THE sha256 OF THE DUMP (.gsa) THAT YtcpnfllekpekgaaProg.lean LOADS. Nothing in Lean hashes anything: it is a label: what it is worth is what the hold of that sum in a sandbox is worth. -/
noncomputable def Try.pinned : Pinned := { name := "ytcpnfllekpekgaa", sum := "102c78d615976af3ea1c706d3f6e0bd3157eefd7a87bbfebd0cd5240813b26d9", checked := Try.checked }
namespace Rows
def none {H : Type} : Left H := { results := [], args := [] }

/-- 'pergolalaw18.ReceiptEncodes': WHATEVER THE INPUT: true; the input reads as it did. -/
def receiptEncodesSpec : ChangeSpec := { name := "receiptEncodes", fn := fun _ => fun
  | [d] => { results := [.lit (.bool true)], args := [d] }
  | _ => none }
def receiptEncodesRow : OpenClaim := { program := "ytcpnfllekpekgaa", sum := "102c78d615976af3ea1c706d3f6e0bd3157eefd7a87bbfebd0cd5240813b26d9", func := "pergola/pergolalaw18.ReceiptEncodes", spec := "receiptEncodes", inPlace := ["math/bits.Add64"], recurses := true, apart := false }
def ReceiptEncodesSaid : Prop := receiptEncodesRow.holds Try.pinned (OpenSpec.ofChange receiptEncodesSpec)

/-- ITS FALSE NEIGHBOUR: 'it returns false'. Refute it at one input. -/
def receiptEncodesWrong : ChangeSpec := { name := "receiptEncodes", fn := fun _ => fun
  | [d] => { results := [.lit (.bool false)], args := [d] }
  | _ => none }
def ReceiptEncodesWrongFalsely : Prop := receiptEncodesRow.holds Try.pinned (OpenSpec.ofChange receiptEncodesWrong)

/-- 'pergolalaw18.ReceiptDecodes': WHATEVER THE INPUT: true; the input reads as it did. -/
def receiptDecodesSpec : ChangeSpec := { name := "receiptDecodes", fn := fun _ => fun
  | [d] => { results := [.lit (.bool true)], args := [d] }
  | _ => none }
def receiptDecodesRow : OpenClaim := { program := "ytcpnfllekpekgaa", sum := "102c78d615976af3ea1c706d3f6e0bd3157eefd7a87bbfebd0cd5240813b26d9", func := "pergola/pergolalaw18.ReceiptDecodes", spec := "receiptDecodes", inPlace := ["math/bits.Add64"], recurses := true, apart := false }
def ReceiptDecodesSaid : Prop := receiptDecodesRow.holds Try.pinned (OpenSpec.ofChange receiptDecodesSpec)

/-- ITS FALSE NEIGHBOUR: 'it returns false'. Refute it at one input. -/
def receiptDecodesWrong : ChangeSpec := { name := "receiptDecodes", fn := fun _ => fun
  | [d] => { results := [.lit (.bool false)], args := [d] }
  | _ => none }
def ReceiptDecodesWrongFalsely : Prop := receiptDecodesRow.holds Try.pinned (OpenSpec.ofChange receiptDecodesWrong)

/-- 'pergolalaw18.ReceiptBack': WHATEVER THE INPUT: true; the input reads as it did. -/
def receiptBackSpec : ChangeSpec := { name := "receiptBack", fn := fun _ => fun
  | [d] => { results := [.lit (.bool true)], args := [d] }
  | _ => none }
def receiptBackRow : OpenClaim := { program := "ytcpnfllekpekgaa", sum := "102c78d615976af3ea1c706d3f6e0bd3157eefd7a87bbfebd0cd5240813b26d9", func := "pergola/pergolalaw18.ReceiptBack", spec := "receiptBack", inPlace := ["math/bits.Add64"], recurses := true, apart := false }
def ReceiptBackSaid : Prop := receiptBackRow.holds Try.pinned (OpenSpec.ofChange receiptBackSpec)

/-- ITS FALSE NEIGHBOUR: 'it returns false'. Refute it at one input. -/
def receiptBackWrong : ChangeSpec := { name := "receiptBack", fn := fun _ => fun
  | [d] => { results := [.lit (.bool false)], args := [d] }
  | _ => none }
def ReceiptBackWrongFalsely : Prop := receiptBackRow.holds Try.pinned (OpenSpec.ofChange receiptBackWrong)

/-- 'pergolalaw18.ReceiptOnly': WHATEVER THE INPUT: true; the input reads as it did. -/
def receiptOnlySpec : ChangeSpec := { name := "receiptOnly", fn := fun _ => fun
  | [d] => { results := [.lit (.bool true)], args := [d] }
  | _ => none }
def receiptOnlyRow : OpenClaim := { program := "ytcpnfllekpekgaa", sum := "102c78d615976af3ea1c706d3f6e0bd3157eefd7a87bbfebd0cd5240813b26d9", func := "pergola/pergolalaw18.ReceiptOnly", spec := "receiptOnly", inPlace := ["math/bits.Add64"], recurses := true, apart := false }
def ReceiptOnlySaid : Prop := receiptOnlyRow.holds Try.pinned (OpenSpec.ofChange receiptOnlySpec)

/-- ITS FALSE NEIGHBOUR: 'it returns false'. Refute it at one input. -/
def receiptOnlyWrong : ChangeSpec := { name := "receiptOnly", fn := fun _ => fun
  | [d] => { results := [.lit (.bool false)], args := [d] }
  | _ => none }
def ReceiptOnlyWrongFalsely : Prop := receiptOnlyRow.holds Try.pinned (OpenSpec.ofChange receiptOnlyWrong)

/- THE SECOND FORM. 'bulk': how many values and letters a reading holds, each counted each time it is reached (what is shared counts as often as it is met; a slice's spare places count too). A statement '..UptoSaid' is the law's where the arguments, and the package variables that the reading takes, are together of bulk at most 1048576: NARROWER than '..Said'. Prove '..Said' where nothing that the law and all that it calls make is longer than what came in: it says more and counts as full. Else prove '..UptoSaid'. A law counts once. -/
mutual
def uptoBulk {H : Type} : DataW H → Nat
  | .lit (.string bytes) => bytes.length + 1
  | .lit _ => 1
  | .nil => 1
  | .ptr d => uptoBulk d + 1
  | .slice elems spare => uptoBulkAll elems + uptoBulkAll spare + 1
  | .agg parts => uptoBulkAll parts + 1
  | .iface _ d => uptoBulk d + 1
  | .map entries => uptoBulkEntries entries + 1
  | .held _ => 1
def uptoBulkAll {H : Type} : List (DataW H) → Nat
  | [] => 0
  | d :: r => uptoBulk d + uptoBulkAll r
def uptoBulkEntries {H : Type} : List (Lit × DataW H) → Nat
  | [] => 0
  | x :: r => uptoBulkEntry x + uptoBulkEntries r
def uptoBulkEntry {H : Type} : Lit × DataW H → Nat
  | (.string bytes, d) => bytes.length + uptoBulk d + 1
  | (_, d) => uptoBulk d + 1
 end
def uptoSmall : (H : Type) → List (DataW H) → Bool := fun _ ds => decide (uptoBulkAll ds ≤ 1048576)
def OpenSpec.upto (s : _root_.Go.ChangeSpec) : _root_.Go.OpenSpec := { _root_.Go.OpenSpec.ofChange s with cond := some uptoSmall }

/-- 'pergolalaw18.ReceiptEncodes', WHERE WHAT IT READS IS OF BULK AT MOST 1048576: true; the input reads as it did. -/
def receiptEncodesUptoRow : OpenClaim := { program := "ytcpnfllekpekgaa", sum := "102c78d615976af3ea1c706d3f6e0bd3157eefd7a87bbfebd0cd5240813b26d9", func := "pergola/pergolalaw18.ReceiptEncodes", spec := "receiptEncodes", inPlace := ["math/bits.Add64"], recurses := true, apart := false, narrowed := true }
def ReceiptEncodesUptoSaid : Prop := receiptEncodesUptoRow.holds Try.pinned (OpenSpec.upto receiptEncodesSpec)

/-- 'pergolalaw18.ReceiptDecodes', WHERE WHAT IT READS IS OF BULK AT MOST 1048576: true; the input reads as it did. -/
def receiptDecodesUptoRow : OpenClaim := { program := "ytcpnfllekpekgaa", sum := "102c78d615976af3ea1c706d3f6e0bd3157eefd7a87bbfebd0cd5240813b26d9", func := "pergola/pergolalaw18.ReceiptDecodes", spec := "receiptDecodes", inPlace := ["math/bits.Add64"], recurses := true, apart := false, narrowed := true }
def ReceiptDecodesUptoSaid : Prop := receiptDecodesUptoRow.holds Try.pinned (OpenSpec.upto receiptDecodesSpec)

/-- 'pergolalaw18.ReceiptBack', WHERE WHAT IT READS IS OF BULK AT MOST 1048576: true; the input reads as it did. -/
def receiptBackUptoRow : OpenClaim := { program := "ytcpnfllekpekgaa", sum := "102c78d615976af3ea1c706d3f6e0bd3157eefd7a87bbfebd0cd5240813b26d9", func := "pergola/pergolalaw18.ReceiptBack", spec := "receiptBack", inPlace := ["math/bits.Add64"], recurses := true, apart := false, narrowed := true }
def ReceiptBackUptoSaid : Prop := receiptBackUptoRow.holds Try.pinned (OpenSpec.upto receiptBackSpec)

/-- 'pergolalaw18.ReceiptOnly', WHERE WHAT IT READS IS OF BULK AT MOST 1048576: true; the input reads as it did. -/
def receiptOnlyUptoRow : OpenClaim := { program := "ytcpnfllekpekgaa", sum := "102c78d615976af3ea1c706d3f6e0bd3157eefd7a87bbfebd0cd5240813b26d9", func := "pergola/pergolalaw18.ReceiptOnly", spec := "receiptOnly", inPlace := ["math/bits.Add64"], recurses := true, apart := false, narrowed := true }
def ReceiptOnlyUptoSaid : Prop := receiptOnlyUptoRow.holds Try.pinned (OpenSpec.upto receiptOnlySpec)

end Rows
end Go.Proofs.Ytcpnfllekpekgaa
