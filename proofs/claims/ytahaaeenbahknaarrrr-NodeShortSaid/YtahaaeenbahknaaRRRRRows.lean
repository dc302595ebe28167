/-
  No cell of these rows narrows 'for every input' (looked for: loops, veiled, ifaces, maps, wideKeys, modest, calm, conditions, laid).
  DERIVED. THE GIVEN ROWS OF THIS SEAT. 4 by the template 'for every input the law returns true; each argument reads behind the call as it read before'; 0 by the template 'total and deterministic' (their statements: YtahaaeenbahknaaRRRRTotals.lean).
  GIVEN WITH THE SEED: the statements are not yours to turn. If you find one false, say at which input.
  Laid BY PROGRAM, IN A SANDBOX (cutbox-rows.mjs): the forced cells as the released guide's own fill.sh prints them over the translation 14a295041495fb10… (all of the seat's roots in one cut). By AI agents, Wed Nov 11 2026. No macro, syntax, notation, axiom, sorry.
-/
import Derived.Test.YtahaaeenbahknaaRRRRChecked
import GoSem.Claim
import GoSem.ClaimJoined
import GoSem.ClaimMapViews
import Derived.JoinedTies
import Derived.KernelRfl
namespace Go.Proofs.YtahaaeenbahknaaRRRR
/- THE CELL 'sum', in the pinned program and in every row, IS THE sha256 OF THE DUMP (.gsa) THAT YtahaaeenbahknaaRRRRProg.lean LOADS. Nothing in Lean hashes anything: it is a label: what it is worth is what the hold of that sum in a sandbox is worth. -/
noncomputable def Try.pinned : Pinned := { name := "ytahaaeenbahknaarrrr", sum := "14a295041495fb10e42b28244cf5d4f42a227913a10f959d1ac9c6de44d278e2", checked := Try.checked }
namespace Rows
def none {H : Type} : Left H := { results := [], args := [] }

/-- 'pergolalaw05.NodeBack': WHATEVER THE INPUT: true; the input reads as it did. -/
def nodeBackSpec : ChangeSpec := { name := "nodeBack", fn := fun _ => fun
  | [d] => { results := [.lit (.bool true)], args := [d] }
  | _ => none }
def nodeBackRow : OpenClaim := { program := "ytahaaeenbahknaarrrr", sum := "14a295041495fb10e42b28244cf5d4f42a227913a10f959d1ac9c6de44d278e2", func := "pergola/pergolalaw05.NodeBack", spec := "nodeBack", recurses := true, apart := false }
def NodeBackSaid : Prop := nodeBackRow.holds Try.pinned (OpenSpec.ofChange nodeBackSpec)

/-- ITS FALSE NEIGHBOUR: 'it returns false'. Refute it at one input. -/
def nodeBackWrong : ChangeSpec := { name := "nodeBack", fn := fun _ => fun
  | [d] => { results := [.lit (.bool false)], args := [d] }
  | _ => none }
def NodeBackWrongFalsely : Prop := nodeBackRow.holds Try.pinned (OpenSpec.ofChange nodeBackWrong)

/-- 'pergolalaw05.NodeOnly': WHATEVER THE INPUT: true; the input reads as it did. -/
def nodeOnlySpec : ChangeSpec := { name := "nodeOnly", fn := fun _ => fun
  | [d] => { results := [.lit (.bool true)], args := [d] }
  | _ => none }
def nodeOnlyRow : OpenClaim := { program := "ytahaaeenbahknaarrrr", sum := "14a295041495fb10e42b28244cf5d4f42a227913a10f959d1ac9c6de44d278e2", func := "pergola/pergolalaw05.NodeOnly", spec := "nodeOnly", recurses := true, apart := false }
def NodeOnlySaid : Prop := nodeOnlyRow.holds Try.pinned (OpenSpec.ofChange nodeOnlySpec)

/-- ITS FALSE NEIGHBOUR: 'it returns false'. Refute it at one input. -/
def nodeOnlyWrong : ChangeSpec := { name := "nodeOnly", fn := fun _ => fun
  | [d] => { results := [.lit (.bool false)], args := [d] }
  | _ => none }
def NodeOnlyWrongFalsely : Prop := nodeOnlyRow.holds Try.pinned (OpenSpec.ofChange nodeOnlyWrong)

/-- 'pergolalaw05.NodeUnlike': WHATEVER THE INPUT: true; the input reads as it did. -/
def nodeUnlikeSpec : ChangeSpec := { name := "nodeUnlike", fn := fun _ => fun
  | [d1, d2] => { results := [.lit (.bool true)], args := [d1, d2] }
  | _ => none }
def nodeUnlikeRow : OpenClaim := { program := "ytahaaeenbahknaarrrr", sum := "14a295041495fb10e42b28244cf5d4f42a227913a10f959d1ac9c6de44d278e2", func := "pergola/pergolalaw05.NodeUnlike", spec := "nodeUnlike", recurses := true, apart := false }
def NodeUnlikeSaid : Prop := nodeUnlikeRow.holds Try.pinned (OpenSpec.ofChange nodeUnlikeSpec)

/-- ITS FALSE NEIGHBOUR: 'it returns false'. Refute it at one input. -/
def nodeUnlikeWrong : ChangeSpec := { name := "nodeUnlike", fn := fun _ => fun
  | [d1, d2] => { results := [.lit (.bool false)], args := [d1, d2] }
  | _ => none }
def NodeUnlikeWrongFalsely : Prop := nodeUnlikeRow.holds Try.pinned (OpenSpec.ofChange nodeUnlikeWrong)

/-- 'pergolalaw05.NodeShort': WHATEVER THE INPUT: true; the input reads as it did. -/
def nodeShortSpec : ChangeSpec := { name := "nodeShort", fn := fun _ => fun
  | [d] => { results := [.lit (.bool true)], args := [d] }
  | _ => none }
def nodeShortRow : OpenClaim := { program := "ytahaaeenbahknaarrrr", sum := "14a295041495fb10e42b28244cf5d4f42a227913a10f959d1ac9c6de44d278e2", func := "pergola/pergolalaw05.NodeShort", spec := "nodeShort", recurses := true, apart := false }
def NodeShortSaid : Prop := nodeShortRow.holds Try.pinned (OpenSpec.ofChange nodeShortSpec)

/-- ITS FALSE NEIGHBOUR: 'it returns false'. Refute it at one input. -/
def nodeShortWrong : ChangeSpec := { name := "nodeShort", fn := fun _ => fun
  | [d] => { results := [.lit (.bool false)], args := [d] }
  | _ => none }
def NodeShortWrongFalsely : Prop := nodeShortRow.holds Try.pinned (OpenSpec.ofChange nodeShortWrong)

/- THE SECOND FORM. 'bulk': how many values and letters a reading holds, each counted each time it is reached (what is shared counts as often as it is met; a slice's spare places count too). A statement '..UptoSaid' is the law's where the arguments, and the package variables that the reading takes, are together of bulk at most 1048576: NARROWER than '..Said'. Prove '..Said' where nothing that the law and all that it calls make is longer than what came in: it says more and counts as full. Else prove '..UptoSaid'. A law counts once. -/
mutual
def uptoBulk {H : Type} : DataW H → Nat
  | .lit (.string bytes) => bytes.length + 1
  | .lit _ => 1
  | .nil => 1
  | .ptr d => uptoBulk d + 1
  | .slice elems spare => uptoBulkAll elems + uptoBulkAll spare + 1
  | .agg parts => uptoBulkAll parts + 1
  | .iface _ d => uptoBulk d + 1
  | .map entries => uptoBulkEntries entries + 1
  | .held _ => 1
def uptoBulkAll {H : Type} : List (DataW H) → Nat
  | [] => 0
  | d :: r => uptoBulk d + uptoBulkAll r
def uptoBulkEntries {H : Type} : List (Lit × DataW H) → Nat
  | [] => 0
  | x :: r => uptoBulkEntry x + uptoBulkEntries r
def uptoBulkEntry {H : Type} : Lit × DataW H → Nat
  | (.string bytes, d) => bytes.length + uptoBulk d + 1
  | (_, d) => uptoBulk d + 1
 end
def uptoSmall : (H : Type) → List (DataW H) → Bool := fun _ ds => decide (uptoBulkAll ds ≤ 1048576)
def OpenSpec.upto (s : _root_.Go.ChangeSpec) : _root_.Go.OpenSpec := { _root_.Go.OpenSpec.ofChange s with cond := some uptoSmall }

/-- 'pergolalaw05.NodeBack', WHERE WHAT IT READS IS OF BULK AT MOST 1048576: true; the input reads as it did. -/
def nodeBackUptoRow : OpenClaim := { program := "ytahaaeenbahknaarrrr", sum := "14a295041495fb10e42b28244cf5d4f42a227913a10f959d1ac9c6de44d278e2", func := "pergola/pergolalaw05.NodeBack", spec := "nodeBack", recurses := true, apart := false, narrowed := true }
def NodeBackUptoSaid : Prop := nodeBackUptoRow.holds Try.pinned (OpenSpec.upto nodeBackSpec)

/-- 'pergolalaw05.NodeOnly', WHERE WHAT IT READS IS OF BULK AT MOST 1048576: true; the input reads as it did. -/
def nodeOnlyUptoRow : OpenClaim := { program := "ytahaaeenbahknaarrrr", sum := "14a295041495fb10e42b28244cf5d4f42a227913a10f959d1ac9c6de44d278e2", func := "pergola/pergolalaw05.NodeOnly", spec := "nodeOnly", recurses := true, apart := false, narrowed := true }
def NodeOnlyUptoSaid : Prop := nodeOnlyUptoRow.holds Try.pinned (OpenSpec.upto nodeOnlySpec)

/-- 'pergolalaw05.NodeUnlike', WHERE WHAT IT READS IS OF BULK AT MOST 1048576: true; the input reads as it did. -/
def nodeUnlikeUptoRow : OpenClaim := { program := "ytahaaeenbahknaarrrr", sum := "14a295041495fb10e42b28244cf5d4f42a227913a10f959d1ac9c6de44d278e2", func := "pergola/pergolalaw05.NodeUnlike", spec := "nodeUnlike", recurses := true, apart := false, narrowed := true }
def NodeUnlikeUptoSaid : Prop := nodeUnlikeUptoRow.holds Try.pinned (OpenSpec.upto nodeUnlikeSpec)

/-- 'pergolalaw05.NodeShort', WHERE WHAT IT READS IS OF BULK AT MOST 1048576: true; the input reads as it did. -/
def nodeShortUptoRow : OpenClaim := { program := "ytahaaeenbahknaarrrr", sum := "14a295041495fb10e42b28244cf5d4f42a227913a10f959d1ac9c6de44d278e2", func := "pergola/pergolalaw05.NodeShort", spec := "nodeShort", recurses := true, apart := false, narrowed := true }
def NodeShortUptoSaid : Prop := nodeShortUptoRow.holds Try.pinned (OpenSpec.upto nodeShortSpec)

end Rows
end Go.Proofs.YtahaaeenbahknaaRRRR
