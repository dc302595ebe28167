import Derived.Test.YtioanppnkhiokaaBy
import Derived.Test.YtioanppnkhiokaaDigP
import Derived.BigQuiet
import Derived.Deep.QuietTactic
import Derived.StillTailTactics
namespace Go.Proofs.Ytioanppnkhiokaa
open Go.RowKit

namespace Dig
theorem conv_v (c : UInt8) : (c.toNat : Int) = v (UInt64.ofNat c.toNat) := by
  have := c.toNat_lt
  unfold v; simp
@[go_sem] theorem wrap_c (c : UInt8) : IntKind.u64.wrap (c.toNat : Int) = (c.toNat : Int) := by
  have := c.toNat_lt
  rw [wrap_u64]; omega
theorem shl8 (n : UInt64) (c : UInt8) : bits .or .u64 (IntKind.u64.wrap (v n * 256)) (c.toNat : Int) = v (n * 256 + UInt64.ofNat c.toNat) := by
  have h1 := n.toNat_lt
  have h2 := c.toNat_lt
  rw [wrap_u64]
  unfold v
  rw [show (n.toNat : Int) * 256 % 18446744073709551616 = ((n.toNat * 256 % 18446744073709551616 : Nat) : Int) by omega, u64_or_nat _ _ (by omega) (by omega),
    nat_join 8 _ c.toNat (by omega) (by omega)]
  rw [UInt64.toNat_add, UInt64.toNat_mul]
  simp; omega
theorem word_take (l : List UInt8) (k : Nat) (h : k < l.length) : word (l.take (k + 1)) = word (l.take k) * 256 + UInt64.ofNat l[k].toNat := by
  rw [List.take_succ_eq_append_getElem h]
  unfold word
  rw [List.foldl_append]
  rfl
theorem rot_any (x : UInt64) (p q : Nat) (k j : Nat) (hk : k < 64) (hk0 : 0 < k) (hp : p = 2 ^ k) (hq : q = 2 ^ j) (hj : j = 64 - k) :
    bits .or .u64 (IntKind.u64.wrap (v x * (p : Int))) (v x / (q : Int)) = v (rot x (UInt64.ofNat k)) := by
  have h1 := x.toNat_lt
  subst hj
  unfold v rot
  rw [wrap_u64]
  have hq0 : 0 < q := by rw [hq]; exact Nat.two_pow_pos _
  have e1 : (x.toNat : Int) * (p : Int) % 18446744073709551616 = ((x.toNat * p % 18446744073709551616 : Nat) : Int) := by
    rw [Int.natCast_emod, Int.natCast_mul]; rfl
  have e2 : (x.toNat : Int) / (q : Int) = ((x.toNat / q : Nat) : Int) := by rw [Int.natCast_ediv]
  rw [e1, e2, u64_or_nat _ _ (Nat.mod_lt _ (by omega)) (Nat.lt_of_le_of_lt (Nat.div_le_self _ _) h1)]
  congr 1
  rw [UInt64.toNat_or, UInt64.toNat_shiftLeft, UInt64.toNat_shiftRight, hp, hq, Nat.shiftLeft_eq, Nat.shiftRight_eq_div_pow]
  have e3 : (UInt64.ofNat k).toNat % 64 = k := by simp; omega
  have e4 : (64 - UInt64.ofNat k).toNat % 64 = 64 - k := by
    rw [UInt64.toNat_sub]
    simp; omega
  rw [e3, e4]
theorem rot32 (x : UInt64) : bits .or .u64 (IntKind.u64.wrap (v x * 4294967296)) (v x / 4294967296) = v (rot x 32) := rot_any x 4294967296 4294967296 32 32 (by decide) (by decide) (by decide) (by decide) rfl
theorem rot24 (x : UInt64) : bits .or .u64 (IntKind.u64.wrap (v x * 16777216)) (v x / 1099511627776) = v (rot x 24) := rot_any x 16777216 1099511627776 24 40 (by decide) (by decide) (by decide) (by decide) rfl
theorem rot16 (x : UInt64) : bits .or .u64 (IntKind.u64.wrap (v x * 65536)) (v x / 281474976710656) = v (rot x 16) := rot_any x 65536 281474976710656 16 48 (by decide) (by decide) (by decide) (by decide) rfl
theorem rot63 (x : UInt64) : bits .or .u64 (IntKind.u64.wrap (v x * 9223372036854775808)) (v x / 2) = v (rot x 63) := rot_any x 9223372036854775808 2 63 1 (by decide) (by decide) (by decide) (by decide) rfl
end Dig

set_option maxHeartbeats 1000000 in
theorem dig_rot32 (x : UInt64) (w : World) : Calls Try.prog 53 #[.int .u64 (Dig.v x), .int .i64 32] w fun e w' => e = .returned (.int .u64 (Dig.v (Dig.rot x 32))) ∧ w = w' := by
  have h := Dig.rot32 x
  have hb : bits .and .u64 32 63 = 32 := by decide
  go_enter Try.func53, Try.ntmps53
  go_wp2
  go_ret
  exact ⟨rfl, rfl⟩
theorem dig_rot24 (x : UInt64) (w : World) : Calls Try.prog 53 #[.int .u64 (Dig.v x), .int .i64 24] w fun e w' => e = .returned (.int .u64 (Dig.v (Dig.rot x 24))) ∧ w = w' := by
  have h := Dig.rot24 x
  have hb : bits .and .u64 24 63 = 24 := by decide
  go_enter Try.func53, Try.ntmps53
  go_wp2
  go_ret
  exact ⟨rfl, rfl⟩
theorem dig_rot16 (x : UInt64) (w : World) : Calls Try.prog 53 #[.int .u64 (Dig.v x), .int .i64 16] w fun e w' => e = .returned (.int .u64 (Dig.v (Dig.rot x 16))) ∧ w = w' := by
  have h := Dig.rot16 x
  have hb : bits .and .u64 16 63 = 16 := by decide
  go_enter Try.func53, Try.ntmps53
  go_wp2
  go_ret
  exact ⟨rfl, rfl⟩
theorem dig_rot63 (x : UInt64) (w : World) : Calls Try.prog 53 #[.int .u64 (Dig.v x), .int .i64 63] w fun e w' => e = .returned (.int .u64 (Dig.v (Dig.rot x 63))) ∧ w = w' := by
  have h := Dig.rot63 x
  have hb : bits .and .u64 63 63 = 63 := by decide
  go_enter Try.func53, Try.ntmps53
  go_wp2
  go_ret
  exact ⟨rfl, rfl⟩

set_option maxHeartbeats 1000000 in
theorem dig_word (l : List UInt8) (A : Option Addr) (n c B : Nat) (w : World) (h : Bytes w B A n c l) (hl : 8 ≤ l.length) :
    Calls Try.prog 52 #[.slice A n c] w fun e w' => e = .returned (.int .u64 (Dig.v (Dig.word (l.take 8)))) ∧ w = w' := by
  obtain ⟨hlen, hcap, hlim, hr⟩ := h
  subst hlen
  have h8 : (8 : Int) ≤ (c : Int) := by omega
  clear hlim
  go_enter Try.func52, Try.ntmps52
  go_wp2
  go_loop [3, 9] (fun n i => ∃ k : Nat, k ≤ 8 ∧ i = .int .i64 k ∧ n = .int .u64 (Dig.v (Dig.word (l.take k)))) (fun _ i => 8 - (intOf i).toNat)
  case atStart => exact ⟨0, Nat.zero_le _, rfl, rfl⟩
  case round =>
    obtain ⟨k, hk, rfl, rfl⟩ := hrel
    by_cases hlt : k < 8
    · obtain ⟨g, o, u, rfl, _, hx, hc⟩ := hr.at_ (k := k) (by omega)
      rw [bv_at l k (by omega)] at hx
      cases hx
      have hs := Dig.shl8 (Dig.word (l.take k)) l[k]
      rw [← Dig.word_take l k (by omega)] at hs
      go_wp2
      refine ⟨⟨k + 1, by omega, by go_num, rfl⟩, ?_⟩
      simp [intOf]; omega
    · obtain rfl : k = 8 := by omega
      go_wp2
      go_ret
      exact ⟨rfl, rfl⟩

/-- a row of four words -/
def row4 (s : Dig.St) : Array Value := #[.int .u64 (Dig.v s.a), .int .u64 (Dig.v s.b), .int .u64 (Dig.v s.c), .int .u64 (Dig.v s.d)]

set_option maxHeartbeats 1000000 in
theorem dig_begun (w : World) : Calls Try.prog 46 #[] w fun e w' => e = .returned (.agg (row4 Dig.begun)) ∧ Below w.heap.size w w' := by
  go_enter Try.func46, Try.ntmps46
  go_wp2
  refine wp_loop_rounds 5 ?_
  rw [rounds_succ]; go_wp2
  rw [rounds_succ]; go_wp2
  rw [rounds_succ]; go_wp2
  rw [rounds_succ]; go_wp2
  rw [rounds_succ]; go_wp2
  refine bodyPost_ret (v := .agg (row4 Dig.begun)) ?_ rfl ⟨rfl, by repeat (first | exact Below.refl _ _ | refine Below.alloc ?_ (by simp) _)⟩
  simp [results, Try.results46, go_sem, row4]
  exact ⟨by decide, by decide, by decide, by decide⟩
end Go.Proofs.Ytioanppnkhiokaa
