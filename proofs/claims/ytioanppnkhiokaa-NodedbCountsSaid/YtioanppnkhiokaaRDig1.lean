import Derived.Test.YtioanppnkhiokaaDig6
namespace Go.Proofs.Ytioanppnkhiokaa
open Go.RowKit

section
set_option maxHeartbeats 1000000
theorem rdig_rot32 (x : UInt64) (w : World) : Calls Try.prog 26 #[.int .u64 (Dig.v x), .int .i64 32] w (PostQ w (.int .u64 (Dig.v (Dig.rot x 32)))) := by
  have h := Dig.rot32 x
  go_enter Try.func26, Try.ntmps26
  go_wp2_with fail
  go_quiet (fail)
  go_wp2_with fail
  go_ret
  exact ⟨rfl, _, rfl⟩
theorem rdig_rot24 (x : UInt64) (w : World) : Calls Try.prog 26 #[.int .u64 (Dig.v x), .int .i64 24] w (PostQ w (.int .u64 (Dig.v (Dig.rot x 24)))) := by
  have h := Dig.rot24 x
  go_enter Try.func26, Try.ntmps26
  go_wp2_with fail
  go_quiet (fail)
  go_wp2_with fail
  go_ret
  exact ⟨rfl, _, rfl⟩
theorem rdig_rot16 (x : UInt64) (w : World) : Calls Try.prog 26 #[.int .u64 (Dig.v x), .int .i64 16] w (PostQ w (.int .u64 (Dig.v (Dig.rot x 16)))) := by
  have h := Dig.rot16 x
  go_enter Try.func26, Try.ntmps26
  go_wp2_with fail
  go_quiet (fail)
  go_wp2_with fail
  go_ret
  exact ⟨rfl, _, rfl⟩
theorem rdig_rot63 (x : UInt64) (w : World) : Calls Try.prog 26 #[.int .u64 (Dig.v x), .int .i64 63] w (PostQ w (.int .u64 (Dig.v (Dig.rot x 63)))) := by
  have h := Dig.rot63 x
  go_enter Try.func26, Try.ntmps26
  go_wp2_with fail
  go_quiet (fail)
  go_wp2_with fail
  go_ret
  exact ⟨rfl, _, rfl⟩
end

theorem Dig.add8 (n : UInt64) (c : UInt8) : IntKind.u64.wrap (IntKind.u64.wrap (Dig.v n * 256) + (c.toNat : Int)) = Dig.v (n * 256 + UInt64.ofNat c.toNat) := by
  have h1 := n.toNat_lt
  have h2 := c.toNat_lt
  rw [Dig.wrap_u64, Dig.wrap_u64]
  unfold Dig.v
  rw [UInt64.toNat_add, UInt64.toNat_mul]
  simp

set_option maxHeartbeats 1000000 in
theorem rdig_word (l : List UInt8) (A : Option Addr) (n c B k : Nat) (z : Int) (w : World) (hz : z = k) (h : Bytes w B A n c l) (hl : k + 8 ≤ l.length) (hk : l.length ≤ 9223372036854775000) :
    Calls Try.prog 25 #[.slice A n c, .int .i64 z] w fun e w' => e = .returned (.int .u64 (Dig.v (Dig.word ((l.drop k).take 8)))) ∧ w = w' := by
  subst hz
  obtain ⟨hlen, hcap, hlim, hr⟩ := h
  subst hlen
  clear hlim
  go_enter Try.func25, Try.ntmps25
  go_wp2
  go_loop [5, 6] (fun n i => ∃ j : Nat, j ≤ 8 ∧ i = .int .i64 j ∧ n = .int .u64 (Dig.v (Dig.word ((l.drop k).take j)))) (fun _ i => 8 - (intOf i).toNat)
  case atStart => exact ⟨0, Nat.zero_le _, rfl, rfl⟩
  case round =>
    obtain ⟨j, hj, rfl, rfl⟩ := hrel
    by_cases hlt : j < 8
    · obtain ⟨g, o, u, rfl, _, hx, hc⟩ := hr.at_ (k := k + j) (by omega)
      rw [bv_at l (k + j) (by omega)] at hx
      cases hx
      have hs := Dig.add8 (Dig.word ((l.drop k).take j)) l[k + j]
      have hw := Dig.word_take (l.drop k) j (by rw [List.length_drop]; omega)
      simp only [List.getElem_drop] at hw
      rw [← hw] at hs
      clear hw
      have hkj : ((k : Int) + (j : Int)).toNat = k + j := by omega
      go_wp2
      refine ⟨⟨j + 1, by omega, by go_num, rfl⟩, ?_⟩
      simp [intOf]; omega
    · obtain rfl : j = 8 := by omega
      go_wp2
      go_ret
      exact ⟨rfl, rfl⟩
end Go.Proofs.Ytioanppnkhiokaa
