/-
  No cell of these rows narrows 'for every input' (looked for: loops, veiled, ifaces, maps, wideKeys, modest, calm, conditions, laid).
  DERIVED. THE GIVEN ROWS OF THIS SEAT. 7 by the template 'for every input the law returns true; each argument reads behind the call as it read before'; 0 by the template 'total and deterministic' (their statements: YtjnbbgnecahgeaaTotals.lean).
  GIVEN WITH THE SEED: the statements are not yours to turn. If you find one false, say at which input.
  Laid BY PROGRAM, IN A SANDBOX (cutbox-rows.mjs): the forced cells as the released guide's own fill.sh prints them over the translation 1116161e4fc9b6b7… (all of the seat's roots in one cut). By AI agents, Wed Nov 11 2026. No macro, syntax, notation, axiom, sorry.
-/
import Derived.Test.YtjnbbgnecahgeaaChecked
import GoSem.Claim
import GoSem.ClaimJoined
import GoSem.ClaimMapViews
import Derived.JoinedTies
import Derived.KernelRfl
namespace Go.Proofs.Ytjnbbgnecahgeaa
/- THE CELL 'sum', in the pinned program and in every row, IS THE sha256 OF THE DUMP (.gsa) THAT YtjnbbgnecahgeaaProg.lean LOADS. Nothing in Lean hashes anything: it is a label: what it is worth is what the hold of that sum in a sandbox is worth. -/
noncomputable def Try.pinned : Pinned := { name := "ytjnbbgnecahgeaa", sum := "1116161e4fc9b6b7d3486eecd1c434258861e4197b03793428e911e6b2e5d7d2", checked := Try.checked }
namespace Rows
def none {H : Type} : Left H := { results := [], args := [] }

/-- 'pergolalaw04.NibblesPacks': WHATEVER THE INPUT: true; the input reads as it did. -/
def nibblesPacksSpec : ChangeSpec := { name := "nibblesPacks", fn := fun _ => fun
  | [d1, d2, d3] => { results := [.lit (.bool true)], args := [d1, d2, d3] }
  | _ => none }
def nibblesPacksRow : OpenClaim := { program := "ytjnbbgnecahgeaa", sum := "1116161e4fc9b6b7d3486eecd1c434258861e4197b03793428e911e6b2e5d7d2", func := "pergola/pergolalaw04.NibblesPacks", spec := "nibblesPacks", apart := false }
def NibblesPacksSaid : Prop := nibblesPacksRow.holds Try.pinned (OpenSpec.ofChange nibblesPacksSpec)

/-- ITS FALSE NEIGHBOUR: 'it returns false'. Refute it at one input. -/
def nibblesPacksWrong : ChangeSpec := { name := "nibblesPacks", fn := fun _ => fun
  | [d1, d2, d3] => { results := [.lit (.bool false)], args := [d1, d2, d3] }
  | _ => none }
def NibblesPacksWrongFalsely : Prop := nibblesPacksRow.holds Try.pinned (OpenSpec.ofChange nibblesPacksWrong)

/-- 'pergolalaw04.NibblesMemory': WHATEVER THE INPUT: true; the input reads as it did. -/
def nibblesMemorySpec : ChangeSpec := { name := "nibblesMemory", fn := fun _ => fun
  | [d] => { results := [.lit (.bool true)], args := [d] }
  | _ => none }
def nibblesMemoryRow : OpenClaim := { program := "ytjnbbgnecahgeaa", sum := "1116161e4fc9b6b7d3486eecd1c434258861e4197b03793428e911e6b2e5d7d2", func := "pergola/pergolalaw04.NibblesMemory", spec := "nibblesMemory", apart := false }
def NibblesMemorySaid : Prop := nibblesMemoryRow.holds Try.pinned (OpenSpec.ofChange nibblesMemorySpec)

/-- ITS FALSE NEIGHBOUR: 'it returns false'. Refute it at one input. -/
def nibblesMemoryWrong : ChangeSpec := { name := "nibblesMemory", fn := fun _ => fun
  | [d] => { results := [.lit (.bool false)], args := [d] }
  | _ => none }
def NibblesMemoryWrongFalsely : Prop := nibblesMemoryRow.holds Try.pinned (OpenSpec.ofChange nibblesMemoryWrong)

/-- 'pergolalaw04.NibblesOrders': WHATEVER THE INPUT: true; the input reads as it did. -/
def nibblesOrdersSpec : ChangeSpec := { name := "nibblesOrders", fn := fun _ => fun
  | [d1, d2] => { results := [.lit (.bool true)], args := [d1, d2] }
  | _ => none }
def nibblesOrdersRow : OpenClaim := { program := "ytjnbbgnecahgeaa", sum := "1116161e4fc9b6b7d3486eecd1c434258861e4197b03793428e911e6b2e5d7d2", func := "pergola/pergolalaw04.NibblesOrders", spec := "nibblesOrders", inPlace := ["internal/bytealg.Compare"], apart := false }
def NibblesOrdersSaid : Prop := nibblesOrdersRow.holds Try.pinned (OpenSpec.ofChange nibblesOrdersSpec)

/-- ITS FALSE NEIGHBOUR: 'it returns false'. Refute it at one input. -/
def nibblesOrdersWrong : ChangeSpec := { name := "nibblesOrders", fn := fun _ => fun
  | [d1, d2] => { results := [.lit (.bool false)], args := [d1, d2] }
  | _ => none }
def NibblesOrdersWrongFalsely : Prop := nibblesOrdersRow.holds Try.pinned (OpenSpec.ofChange nibblesOrdersWrong)

/-- 'pergolalaw04.NibblesAlike': WHATEVER THE INPUT: true; the input reads as it did. -/
def nibblesAlikeSpec : ChangeSpec := { name := "nibblesAlike", fn := fun _ => fun
  | [d1, d2] => { results := [.lit (.bool true)], args := [d1, d2] }
  | _ => none }
def nibblesAlikeRow : OpenClaim := { program := "ytjnbbgnecahgeaa", sum := "1116161e4fc9b6b7d3486eecd1c434258861e4197b03793428e911e6b2e5d7d2", func := "pergola/pergolalaw04.NibblesAlike", spec := "nibblesAlike", inPlace := ["internal/bytealg.Compare"], apart := false }
def NibblesAlikeSaid : Prop := nibblesAlikeRow.holds Try.pinned (OpenSpec.ofChange nibblesAlikeSpec)

/-- ITS FALSE NEIGHBOUR: 'it returns false'. Refute it at one input. -/
def nibblesAlikeWrong : ChangeSpec := { name := "nibblesAlike", fn := fun _ => fun
  | [d1, d2] => { results := [.lit (.bool false)], args := [d1, d2] }
  | _ => none }
def NibblesAlikeWrongFalsely : Prop := nibblesAlikeRow.holds Try.pinned (OpenSpec.ofChange nibblesAlikeWrong)

/-- 'pergolalaw04.NibblesKeys': WHATEVER THE INPUT: true; the input reads as it did. -/
def nibblesKeysSpec : ChangeSpec := { name := "nibblesKeys", fn := fun _ => fun
  | [d1, d2] => { results := [.lit (.bool true)], args := [d1, d2] }
  | _ => none }
def nibblesKeysRow : OpenClaim := { program := "ytjnbbgnecahgeaa", sum := "1116161e4fc9b6b7d3486eecd1c434258861e4197b03793428e911e6b2e5d7d2", func := "pergola/pergolalaw04.NibblesKeys", spec := "nibblesKeys", apart := false }
def NibblesKeysSaid : Prop := nibblesKeysRow.holds Try.pinned (OpenSpec.ofChange nibblesKeysSpec)

/-- ITS FALSE NEIGHBOUR: 'it returns false'. Refute it at one input. -/
def nibblesKeysWrong : ChangeSpec := { name := "nibblesKeys", fn := fun _ => fun
  | [d1, d2] => { results := [.lit (.bool false)], args := [d1, d2] }
  | _ => none }
def NibblesKeysWrongFalsely : Prop := nibblesKeysRow.holds Try.pinned (OpenSpec.ofChange nibblesKeysWrong)

/-- 'pergolalaw04.NibblesBack': WHATEVER THE INPUT: true; the input reads as it did. -/
def nibblesBackSpec : ChangeSpec := { name := "nibblesBack", fn := fun _ => fun
  | [d1, d2] => { results := [.lit (.bool true)], args := [d1, d2] }
  | _ => none }
def nibblesBackRow : OpenClaim := { program := "ytjnbbgnecahgeaa", sum := "1116161e4fc9b6b7d3486eecd1c434258861e4197b03793428e911e6b2e5d7d2", func := "pergola/pergolalaw04.NibblesBack", spec := "nibblesBack", apart := false }
def NibblesBackSaid : Prop := nibblesBackRow.holds Try.pinned (OpenSpec.ofChange nibblesBackSpec)

/-- ITS FALSE NEIGHBOUR: 'it returns false'. Refute it at one input. -/
def nibblesBackWrong : ChangeSpec := { name := "nibblesBack", fn := fun _ => fun
  | [d1, d2] => { results := [.lit (.bool false)], args := [d1, d2] }
  | _ => none }
def NibblesBackWrongFalsely : Prop := nibblesBackRow.holds Try.pinned (OpenSpec.ofChange nibblesBackWrong)

/-- 'pergolalaw04.NibblesOnly': WHATEVER THE INPUT: true; the input reads as it did. -/
def nibblesOnlySpec : ChangeSpec := { name := "nibblesOnly", fn := fun _ => fun
  | [d] => { results := [.lit (.bool true)], args := [d] }
  | _ => none }
def nibblesOnlyRow : OpenClaim := { program := "ytjnbbgnecahgeaa", sum := "1116161e4fc9b6b7d3486eecd1c434258861e4197b03793428e911e6b2e5d7d2", func := "pergola/pergolalaw04.NibblesOnly", spec := "nibblesOnly", apart := false }
def NibblesOnlySaid : Prop := nibblesOnlyRow.holds Try.pinned (OpenSpec.ofChange nibblesOnlySpec)

/-- ITS FALSE NEIGHBOUR: 'it returns false'. Refute it at one input. -/
def nibblesOnlyWrong : ChangeSpec := { name := "nibblesOnly", fn := fun _ => fun
  | [d] => { results := [.lit (.bool false)], args := [d] }
  | _ => none }
def NibblesOnlyWrongFalsely : Prop := nibblesOnlyRow.holds Try.pinned (OpenSpec.ofChange nibblesOnlyWrong)

/- THE SECOND FORM. 'bulk': how many values and letters a reading holds, each counted each time it is reached (what is shared counts as often as it is met; a slice's spare places count too). A statement '..UptoSaid' is the law's where the arguments, and the package variables that the reading takes, are together of bulk at most 1048576: NARROWER than '..Said'. Prove '..Said' where nothing that the law and all that it calls make is longer than what came in: it says more and counts as full. Else prove '..UptoSaid'. A law counts once. -/
mutual
def uptoBulk {H : Type} : DataW H → Nat
  | .lit (.string bytes) => bytes.length + 1
  | .lit _ => 1
  | .nil => 1
  | .ptr d => uptoBulk d + 1
  | .slice elems spare => uptoBulkAll elems + uptoBulkAll spare + 1
  | .agg parts => uptoBulkAll parts + 1
  | .iface _ d => uptoBulk d + 1
  | .map entries => uptoBulkEntries entries + 1
  | .held _ => 1
def uptoBulkAll {H : Type} : List (DataW H) → Nat
  | [] => 0
  | d :: r => uptoBulk d + uptoBulkAll r
def uptoBulkEntries {H : Type} : List (Lit × DataW H) → Nat
  | [] => 0
  | x :: r => uptoBulkEntry x + uptoBulkEntries r
def uptoBulkEntry {H : Type} : Lit × DataW H → Nat
  | (.string bytes, d) => bytes.length + uptoBulk d + 1
  | (_, d) => uptoBulk d + 1
 end
def uptoSmall : (H : Type) → List (DataW H) → Bool := fun _ ds => decide (uptoBulkAll ds ≤ 1048576)
def OpenSpec.upto (s : _root_.Go.ChangeSpec) : _root_.Go.OpenSpec := { _root_.Go.OpenSpec.ofChange s with cond := some uptoSmall }

/-- 'pergolalaw04.NibblesPacks', WHERE WHAT IT READS IS OF BULK AT MOST 1048576: true; the input reads as it did. -/
def nibblesPacksUptoRow : OpenClaim := { program := "ytjnbbgnecahgeaa", sum := "1116161e4fc9b6b7d3486eecd1c434258861e4197b03793428e911e6b2e5d7d2", func := "pergola/pergolalaw04.NibblesPacks", spec := "nibblesPacks", apart := false, narrowed := true }
def NibblesPacksUptoSaid : Prop := nibblesPacksUptoRow.holds Try.pinned (OpenSpec.upto nibblesPacksSpec)

/-- 'pergolalaw04.NibblesMemory', WHERE WHAT IT READS IS OF BULK AT MOST 1048576: true; the input reads as it did. -/
def nibblesMemoryUptoRow : OpenClaim := { program := "ytjnbbgnecahgeaa", sum := "1116161e4fc9b6b7d3486eecd1c434258861e4197b03793428e911e6b2e5d7d2", func := "pergola/pergolalaw04.NibblesMemory", spec := "nibblesMemory", apart := false, narrowed := true }
def NibblesMemoryUptoSaid : Prop := nibblesMemoryUptoRow.holds Try.pinned (OpenSpec.upto nibblesMemorySpec)

/-- 'pergolalaw04.NibblesOrders', WHERE WHAT IT READS IS OF BULK AT MOST 1048576: true; the input reads as it did. -/
def nibblesOrdersUptoRow : OpenClaim := { program := "ytjnbbgnecahgeaa", sum := "1116161e4fc9b6b7d3486eecd1c434258861e4197b03793428e911e6b2e5d7d2", func := "pergola/pergolalaw04.NibblesOrders", spec := "nibblesOrders", inPlace := ["internal/bytealg.Compare"], apart := false, narrowed := true }
def NibblesOrdersUptoSaid : Prop := nibblesOrdersUptoRow.holds Try.pinned (OpenSpec.upto nibblesOrdersSpec)

/-- 'pergolalaw04.NibblesAlike', WHERE WHAT IT READS IS OF BULK AT MOST 1048576: true; the input reads as it did. -/
def nibblesAlikeUptoRow : OpenClaim := { program := "ytjnbbgnecahgeaa", sum := "1116161e4fc9b6b7d3486eecd1c434258861e4197b03793428e911e6b2e5d7d2", func := "pergola/pergolalaw04.NibblesAlike", spec := "nibblesAlike", inPlace := ["internal/bytealg.Compare"], apart := false, narrowed := true }
def NibblesAlikeUptoSaid : Prop := nibblesAlikeUptoRow.holds Try.pinned (OpenSpec.upto nibblesAlikeSpec)

/-- 'pergolalaw04.NibblesKeys', WHERE WHAT IT READS IS OF BULK AT MOST 1048576: true; the input reads as it did. -/
def nibblesKeysUptoRow : OpenClaim := { program := "ytjnbbgnecahgeaa", sum := "1116161e4fc9b6b7d3486eecd1c434258861e4197b03793428e911e6b2e5d7d2", func := "pergola/pergolalaw04.NibblesKeys", spec := "nibblesKeys", apart := false, narrowed := true }
def NibblesKeysUptoSaid : Prop := nibblesKeysUptoRow.holds Try.pinned (OpenSpec.upto nibblesKeysSpec)

/-- 'pergolalaw04.NibblesBack', WHERE WHAT IT READS IS OF BULK AT MOST 1048576: true; the input reads as it did. -/
def nibblesBackUptoRow : OpenClaim := { program := "ytjnbbgnecahgeaa", sum := "1116161e4fc9b6b7d3486eecd1c434258861e4197b03793428e911e6b2e5d7d2", func := "pergola/pergolalaw04.NibblesBack", spec := "nibblesBack", apart := false, narrowed := true }
def NibblesBackUptoSaid : Prop := nibblesBackUptoRow.holds Try.pinned (OpenSpec.upto nibblesBackSpec)

/-- 'pergolalaw04.NibblesOnly', WHERE WHAT IT READS IS OF BULK AT MOST 1048576: true; the input reads as it did. -/
def nibblesOnlyUptoRow : OpenClaim := { program := "ytjnbbgnecahgeaa", sum := "1116161e4fc9b6b7d3486eecd1c434258861e4197b03793428e911e6b2e5d7d2", func := "pergola/pergolalaw04.NibblesOnly", spec := "nibblesOnly", apart := false, narrowed := true }
def NibblesOnlyUptoSaid : Prop := nibblesOnlyUptoRow.holds Try.pinned (OpenSpec.upto nibblesOnlySpec)

end Rows
end Go.Proofs.Ytjnbbgnecahgeaa
