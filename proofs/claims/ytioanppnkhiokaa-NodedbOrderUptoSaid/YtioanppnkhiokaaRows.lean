/-
  No cell of these rows narrows 'for every input' (looked for: loops, veiled, ifaces, maps, wideKeys, modest, calm, conditions, laid).
  DERIVED. THE GIVEN ROWS OF THIS SEAT. 6 by the template 'for every input the law returns true; each argument reads behind the call as it read before'; 0 by the template 'total and deterministic' (their statements: YtioanppnkhiokaaTotals.lean).
  GIVEN WITH THE SEED: the statements are not yours to turn. If you find one false, say at which input.
  Laid BY PROGRAM, IN A SANDBOX (cutbox-rows.mjs): the forced cells as the released guide's own fill.sh prints them over the translation a75d85f7bfa2a1c0… (all of the seat's roots in one cut). By AI agents, Wed Nov 11 2026. No macro, syntax, notation, axiom, sorry.
-/
import Derived.Test.YtioanppnkhiokaaChecked
import GoSem.Claim
import GoSem.ClaimJoined
import GoSem.ClaimMapViews
import Derived.JoinedTies
import Derived.KernelRfl
namespace Go.Proofs.Ytioanppnkhiokaa
/- THE CELL 'sum', in the pinned program and in every row, IS THE sha256 OF THE DUMP (.gsa) THAT YtioanppnkhiokaaProg.lean LOADS. Nothing in Lean hashes anything: it is a label: what it is worth is what the hold of that sum in a sandbox is worth. -/
noncomputable def Try.pinned : Pinned := { name := "ytioanppnkhiokaa", sum := "a75d85f7bfa2a1c00469d8b68922f639ec7fbb43fcd58b7ddbb81ea2523f9993", checked := Try.checked }
namespace Rows
def none {H : Type} : Left H := { results := [], args := [] }

/-- 'pergolalaw06.NodedbTexts': WHATEVER THE INPUT: true; the input reads as it did. -/
def nodedbTextsSpec : ChangeSpec := { name := "nodedbTexts", fn := fun _ => fun
  | [d] => { results := [.lit (.bool true)], args := [d] }
  | _ => none }
def nodedbTextsRow : OpenClaim := { program := "ytioanppnkhiokaa", sum := "a75d85f7bfa2a1c00469d8b68922f639ec7fbb43fcd58b7ddbb81ea2523f9993", func := "pergola/pergolalaw06.NodedbTexts", spec := "nodedbTexts", unfollowed := true, recurses := true, plainKeys := false, apart := false }
def NodedbTextsSaid : Prop := nodedbTextsRow.holds Try.pinned (OpenSpec.ofChange nodedbTextsSpec)

/-- ITS FALSE NEIGHBOUR: 'it returns false'. Refute it at one input. -/
def nodedbTextsWrong : ChangeSpec := { name := "nodedbTexts", fn := fun _ => fun
  | [d] => { results := [.lit (.bool false)], args := [d] }
  | _ => none }
def NodedbTextsWrongFalsely : Prop := nodedbTextsRow.holds Try.pinned (OpenSpec.ofChange nodedbTextsWrong)

/-- 'pergolalaw06.NodedbCounts': WHATEVER THE INPUT: true; the input reads as it did. -/
def nodedbCountsSpec : ChangeSpec := { name := "nodedbCounts", fn := fun _ => fun
  | [d1, d2, d3] => { results := [.lit (.bool true)], args := [d1, d2, d3] }
  | _ => none }
def nodedbCountsRow : OpenClaim := { program := "ytioanppnkhiokaa", sum := "a75d85f7bfa2a1c00469d8b68922f639ec7fbb43fcd58b7ddbb81ea2523f9993", func := "pergola/pergolalaw06.NodedbCounts", spec := "nodedbCounts", unfollowed := true, recurses := true, plainKeys := false, apart := false }
def NodedbCountsSaid : Prop := nodedbCountsRow.holds Try.pinned (OpenSpec.ofChange nodedbCountsSpec)

/-- ITS FALSE NEIGHBOUR: 'it returns false'. Refute it at one input. -/
def nodedbCountsWrong : ChangeSpec := { name := "nodedbCounts", fn := fun _ => fun
  | [d1, d2, d3] => { results := [.lit (.bool false)], args := [d1, d2, d3] }
  | _ => none }
def NodedbCountsWrongFalsely : Prop := nodedbCountsRow.holds Try.pinned (OpenSpec.ofChange nodedbCountsWrong)

/-- 'pergolalaw06.NodedbOrder': WHATEVER THE INPUT: true; the input reads as it did. -/
def nodedbOrderSpec : ChangeSpec := { name := "nodedbOrder", fn := fun _ => fun
  | [d] => { results := [.lit (.bool true)], args := [d] }
  | _ => none }
def nodedbOrderRow : OpenClaim := { program := "ytioanppnkhiokaa", sum := "a75d85f7bfa2a1c00469d8b68922f639ec7fbb43fcd58b7ddbb81ea2523f9993", func := "pergola/pergolalaw06.NodedbOrder", spec := "nodedbOrder", inPlace := ["internal/bytealg.Compare"], unfollowed := true, recurses := true, plainKeys := false, apart := false }
def NodedbOrderSaid : Prop := nodedbOrderRow.holds Try.pinned (OpenSpec.ofChange nodedbOrderSpec)

/-- ITS FALSE NEIGHBOUR: 'it returns false'. Refute it at one input. -/
def nodedbOrderWrong : ChangeSpec := { name := "nodedbOrder", fn := fun _ => fun
  | [d] => { results := [.lit (.bool false)], args := [d] }
  | _ => none }
def NodedbOrderWrongFalsely : Prop := nodedbOrderRow.holds Try.pinned (OpenSpec.ofChange nodedbOrderWrong)

/-- 'pergolalaw06.NodedbBack': WHATEVER THE INPUT: true; the input reads as it did. -/
def nodedbBackSpec : ChangeSpec := { name := "nodedbBack", fn := fun _ => fun
  | [d1, d2, d3] => { results := [.lit (.bool true)], args := [d1, d2, d3] }
  | _ => none }
def nodedbBackRow : OpenClaim := { program := "ytioanppnkhiokaa", sum := "a75d85f7bfa2a1c00469d8b68922f639ec7fbb43fcd58b7ddbb81ea2523f9993", func := "pergola/pergolalaw06.NodedbBack", spec := "nodedbBack", inPlace := ["internal/bytealg.Compare"], unfollowed := true, recurses := true, plainKeys := false, apart := false }
def NodedbBackSaid : Prop := nodedbBackRow.holds Try.pinned (OpenSpec.ofChange nodedbBackSpec)

/-- ITS FALSE NEIGHBOUR: 'it returns false'. Refute it at one input. -/
def nodedbBackWrong : ChangeSpec := { name := "nodedbBack", fn := fun _ => fun
  | [d1, d2, d3] => { results := [.lit (.bool false)], args := [d1, d2, d3] }
  | _ => none }
def NodedbBackWrongFalsely : Prop := nodedbBackRow.holds Try.pinned (OpenSpec.ofChange nodedbBackWrong)

/-- 'pergolalaw06.NodedbAll': WHATEVER THE INPUT: true; the input reads as it did. -/
def nodedbAllSpec : ChangeSpec := { name := "nodedbAll", fn := fun _ => fun
  | [d1, d2] => { results := [.lit (.bool true)], args := [d1, d2] }
  | _ => none }
def nodedbAllRow : OpenClaim := { program := "ytioanppnkhiokaa", sum := "a75d85f7bfa2a1c00469d8b68922f639ec7fbb43fcd58b7ddbb81ea2523f9993", func := "pergola/pergolalaw06.NodedbAll", spec := "nodedbAll", inPlace := ["maps.clone", "internal/bytealg.Compare"], unfollowed := true, recurses := true, plainKeys := false, apart := false }
def NodedbAllSaid : Prop := nodedbAllRow.holds Try.pinned (OpenSpec.ofChange nodedbAllSpec)

/-- ITS FALSE NEIGHBOUR: 'it returns false'. Refute it at one input. -/
def nodedbAllWrong : ChangeSpec := { name := "nodedbAll", fn := fun _ => fun
  | [d1, d2] => { results := [.lit (.bool false)], args := [d1, d2] }
  | _ => none }
def NodedbAllWrongFalsely : Prop := nodedbAllRow.holds Try.pinned (OpenSpec.ofChange nodedbAllWrong)

/-- 'pergolalaw06.NodedbClones': WHATEVER THE INPUT: true; the input reads as it did. -/
def nodedbClonesSpec : ChangeSpec := { name := "nodedbClones", fn := fun _ => fun
  | [d1, d2] => { results := [.lit (.bool true)], args := [d1, d2] }
  | _ => none }
def nodedbClonesRow : OpenClaim := { program := "ytioanppnkhiokaa", sum := "a75d85f7bfa2a1c00469d8b68922f639ec7fbb43fcd58b7ddbb81ea2523f9993", func := "pergola/pergolalaw06.NodedbClones", spec := "nodedbClones", inPlace := ["internal/bytealg.Compare", "maps.clone"], unfollowed := true, recurses := true, plainKeys := false, apart := false }
def NodedbClonesSaid : Prop := nodedbClonesRow.holds Try.pinned (OpenSpec.ofChange nodedbClonesSpec)

/-- ITS FALSE NEIGHBOUR: 'it returns false'. Refute it at one input. -/
def nodedbClonesWrong : ChangeSpec := { name := "nodedbClones", fn := fun _ => fun
  | [d1, d2] => { results := [.lit (.bool false)], args := [d1, d2] }
  | _ => none }
def NodedbClonesWrongFalsely : Prop := nodedbClonesRow.holds Try.pinned (OpenSpec.ofChange nodedbClonesWrong)

/- THE SECOND FORM. 'bulk': how many values and letters a reading holds, each counted each time it is reached (what is shared counts as often as it is met; a slice's spare places count too). A statement '..UptoSaid' is the law's where the arguments, and the package variables that the reading takes, are together of bulk at most 1048576: NARROWER than '..Said'. Prove '..Said' where nothing that the law and all that it calls make is longer than what came in: it says more and counts as full. Else prove '..UptoSaid'. A law counts once. -/
mutual
def uptoBulk {H : Type} : DataW H → Nat
  | .lit (.string bytes) => bytes.length + 1
  | .lit _ => 1
  | .nil => 1
  | .ptr d => uptoBulk d + 1
  | .slice elems spare => uptoBulkAll elems + uptoBulkAll spare + 1
  | .agg parts => uptoBulkAll parts + 1
  | .iface _ d => uptoBulk d + 1
  | .map entries => uptoBulkEntries entries + 1
  | .held _ => 1
def uptoBulkAll {H : Type} : List (DataW H) → Nat
  | [] => 0
  | d :: r => uptoBulk d + uptoBulkAll r
def uptoBulkEntries {H : Type} : List (Lit × DataW H) → Nat
  | [] => 0
  | x :: r => uptoBulkEntry x + uptoBulkEntries r
def uptoBulkEntry {H : Type} : Lit × DataW H → Nat
  | (.string bytes, d) => bytes.length + uptoBulk d + 1
  | (_, d) => uptoBulk d + 1
 end
def uptoSmall : (H : Type) → List (DataW H) → Bool := fun _ ds => decide (uptoBulkAll ds ≤ 1048576)
def OpenSpec.upto (s : _root_.Go.ChangeSpec) : _root_.Go.OpenSpec := { _root_.Go.OpenSpec.ofChange s with cond := some uptoSmall }

/-- 'pergolalaw06.NodedbTexts', WHERE WHAT IT READS IS OF BULK AT MOST 1048576: true; the input reads as it did. -/
def nodedbTextsUptoRow : OpenClaim := { program := "ytioanppnkhiokaa", sum := "a75d85f7bfa2a1c00469d8b68922f639ec7fbb43fcd58b7ddbb81ea2523f9993", func := "pergola/pergolalaw06.NodedbTexts", spec := "nodedbTexts", unfollowed := true, recurses := true, plainKeys := false, apart := false, narrowed := true }
def NodedbTextsUptoSaid : Prop := nodedbTextsUptoRow.holds Try.pinned (OpenSpec.upto nodedbTextsSpec)

/-- 'pergolalaw06.NodedbCounts', WHERE WHAT IT READS IS OF BULK AT MOST 1048576: true; the input reads as it did. -/
def nodedbCountsUptoRow : OpenClaim := { program := "ytioanppnkhiokaa", sum := "a75d85f7bfa2a1c00469d8b68922f639ec7fbb43fcd58b7ddbb81ea2523f9993", func := "pergola/pergolalaw06.NodedbCounts", spec := "nodedbCounts", unfollowed := true, recurses := true, plainKeys := false, apart := false, narrowed := true }
def NodedbCountsUptoSaid : Prop := nodedbCountsUptoRow.holds Try.pinned (OpenSpec.upto nodedbCountsSpec)

/-- 'pergolalaw06.NodedbOrder', WHERE WHAT IT READS IS OF BULK AT MOST 1048576: true; the input reads as it did. -/
def nodedbOrderUptoRow : OpenClaim := { program := "ytioanppnkhiokaa", sum := "a75d85f7bfa2a1c00469d8b68922f639ec7fbb43fcd58b7ddbb81ea2523f9993", func := "pergola/pergolalaw06.NodedbOrder", spec := "nodedbOrder", inPlace := ["internal/bytealg.Compare"], unfollowed := true, recurses := true, plainKeys := false, apart := false, narrowed := true }
def NodedbOrderUptoSaid : Prop := nodedbOrderUptoRow.holds Try.pinned (OpenSpec.upto nodedbOrderSpec)

/-- 'pergolalaw06.NodedbBack', WHERE WHAT IT READS IS OF BULK AT MOST 1048576: true; the input reads as it did. -/
def nodedbBackUptoRow : OpenClaim := { program := "ytioanppnkhiokaa", sum := "a75d85f7bfa2a1c00469d8b68922f639ec7fbb43fcd58b7ddbb81ea2523f9993", func := "pergola/pergolalaw06.NodedbBack", spec := "nodedbBack", inPlace := ["internal/bytealg.Compare"], unfollowed := true, recurses := true, plainKeys := false, apart := false, narrowed := true }
def NodedbBackUptoSaid : Prop := nodedbBackUptoRow.holds Try.pinned (OpenSpec.upto nodedbBackSpec)

/-- 'pergolalaw06.NodedbAll', WHERE WHAT IT READS IS OF BULK AT MOST 1048576: true; the input reads as it did. -/
def nodedbAllUptoRow : OpenClaim := { program := "ytioanppnkhiokaa", sum := "a75d85f7bfa2a1c00469d8b68922f639ec7fbb43fcd58b7ddbb81ea2523f9993", func := "pergola/pergolalaw06.NodedbAll", spec := "nodedbAll", inPlace := ["maps.clone", "internal/bytealg.Compare"], unfollowed := true, recurses := true, plainKeys := false, apart := false, narrowed := true }
def NodedbAllUptoSaid : Prop := nodedbAllUptoRow.holds Try.pinned (OpenSpec.upto nodedbAllSpec)

/-- 'pergolalaw06.NodedbClones', WHERE WHAT IT READS IS OF BULK AT MOST 1048576: true; the input reads as it did. -/
def nodedbClonesUptoRow : OpenClaim := { program := "ytioanppnkhiokaa", sum := "a75d85f7bfa2a1c00469d8b68922f639ec7fbb43fcd58b7ddbb81ea2523f9993", func := "pergola/pergolalaw06.NodedbClones", spec := "nodedbClones", inPlace := ["internal/bytealg.Compare", "maps.clone"], unfollowed := true, recurses := true, plainKeys := false, apart := false, narrowed := true }
def NodedbClonesUptoSaid : Prop := nodedbClonesUptoRow.holds Try.pinned (OpenSpec.upto nodedbClonesSpec)

end Rows
end Go.Proofs.Ytioanppnkhiokaa
