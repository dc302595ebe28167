/-
  Digests as values.
-/
import Derived.Test.YtahaaeenbahknaaRRRRBlk
namespace Go.Proofs.YtahaaeenbahknaaRRRR
open Go.RowKit

/-- a digest's cells, and as a value -/
def row32 (l : List UInt8) : Array Value := (bv l).toArray
def digV (l : List UInt8) : Value := .agg (row32 l)
def zero32 : List UInt8 := List.replicate 32 0
theorem Blk.zeros (w : World) (cs : Array Value) (t : TypeId) (h : cs.toList = bv zero32) : Blk (w.alloc (.cells cs t)) w.heap.size t (row32 zero32) :=
  (Blk.new w t cs).eq (by apply Array.ext'; rw [h]; rfl)

theorem row32_size {l : List UInt8} (h : l.length = 32) : (row32 l).size = 32 := by simp [row32, bv_length, h]
theorem info_digest : (Try.prog.info? 24).map (·.size) = some 32 := by kernel_rfl
theorem row32_one (l : List UInt8) : (row32 l).all (·.oneCell') = true :=
  Array.all_eq_true_iff_forall_mem.2 (by intro u hu; exact bv_one l u (by simpa [row32] using hu))
end Go.Proofs.YtahaaeenbahknaaRRRR
