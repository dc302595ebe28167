/-
  Package words: number, Read, Key, Bytes.
-/
import Derived.Test.YtahaaeenbahknaaRRRRBy
import Derived.Test.YtahaaeenbahknaaRRRRWordP
import Derived.Test.YtahaaeenbahknaaRRRRBlk
namespace Go.Proofs.YtahaaeenbahknaaRRRR
open Go.RowKit

namespace Wd
theorem shl_or8 (m : Nat) (c : UInt8) (hm : m < 72057594037927936) : bits .or .u64 (IntKind.u64.wrap ((m : Int) * 256)) (IntKind.u64.wrap (c.toNat : Int)) = ((m * 256 + c.toNat : Nat) : Int) := by
  have hc := c.toNat_lt
  have e1 : IntKind.u64.wrap ((m : Int) * 256) = (m : Int) * 256 := by rw [IntKind.wrap_u64]; omega
  have e2 : IntKind.u64.wrap (c.toNat : Int) = (c.toNat : Int) := by rw [IntKind.wrap_u64]; omega
  rw [e1, e2, bits_join .u64 64 (by decide) (fun n h0 h1 => by rw [IntKind.wrap_u64]; omega) 8 _ _ (by omega) (by omega) (by omega) (by omega) (by omega) (by omega)]
  omega
end Wd
/-- what Read answers -/
def Wd.word (l : List UInt8) : Option Nat := if l.length ≤ 8 ∧ Wd.tight l = true then some (Wd.rd l) else none
def wordV (x : Option Nat) : Value := match x with
  | some n => .tuple #[.int .u64 n, .bool true]
  | none => .tuple #[.int .u64 0, .bool false]
theorem fix_cells (n : Nat) : bv (Wd.fix 8 n) = [.int .u8 ((n / 72057594037927936 % 256 : Nat) : Int), .int .u8 ((n / 281474976710656 % 256 : Nat) : Int), .int .u8 ((n / 1099511627776 % 256 : Nat) : Int), .int .u8 ((n / 4294967296 % 256 : Nat) : Int),
    .int .u8 ((n / 16777216 % 256 : Nat) : Int), .int .u8 ((n / 65536 % 256 : Nat) : Int), .int .u8 ((n / 256 % 256 : Nat) : Int), .int .u8 ((n % 256 : Nat) : Int)] := by
  simp only [Wd.fix, bv, List.nil_append, List.cons_append, List.map_cons, List.map_nil, Wd.byte_mod, Nat.div_div_eq_div_mul]
end Go.Proofs.YtahaaeenbahknaaRRRR
