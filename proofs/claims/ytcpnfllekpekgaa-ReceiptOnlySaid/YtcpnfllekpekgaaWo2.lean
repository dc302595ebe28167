/-
  Package words: Bytes.
-/
import Derived.Test.YtcpnfllekpekgaaWo1
namespace Go.Proofs.Ytcpnfllekpekgaa
open Go.RowKit

set_option maxHeartbeats 1000000 in
theorem words_Bytes (n : Nat) (w : World) (hn : n < 18446744073709551616) : Calls Try.prog 28 #[.int .u64 n] w (PostB w (Wd.be 8 n)) := by
  have hf := words_Key n w hn
  go_enter Try.func28, Try.ntmps28
  go_wp2_with fail
  refine hf.mono ?_
  rintro e w1 ⟨A, m, c, rfl, hN⟩
  have hbe := hN.2.2
  have hB := hN.bytes
  have hd := Wd.fix_be 8 n hn
  have hl := Wd.fix_length 8 n
  generalize Wd.fix 8 n = l at hB hd hl
  have hl8 : l.length ≤ 8 := by omega
  clear hN hf hl
  replace hB := Lib.hid hB
  replace hd := Lib.hid hd
  replace hbe := Lib.hid hbe
  have hbs := hbe.out.size
  go_wp2_with fail
  go_loop [3] (fun v => ∃ A m c t, v = .slice A m c ∧ Bytes w1 w1.heap.size A m c t ∧ t.length ≤ 8 ∧ t.dropWhile (· == 0) = Wd.be 8 n) (fun v => match v with | .slice _ m _ => m | _ => 0)
  case atStart => exact ⟨A, m, c, l, rfl, hB.out, hl8, hd.out⟩
  case round =>
    clear hB hd hl8
    clear l
    obtain ⟨A, m, c, l, rfl, hB, hl8, hd⟩ := hrel
    have hlen := hB.len
    subst hlen
    cases l with
    | nil =>
      have hx : Wd.be 8 n = [] := by rw [← hd]; rfl
      replace hx := Lib.hid hx
      replace hB := Lib.hid hB
      clear hd
      go_wp2_with (at_builtin; refine wpList_append_u8 rfl _ _ rfl w.heap.size _ 0 [] rfl (World.ownsRow_nil _ _ _ _) w1.heap.size A _ c [] rfl hB.out (by simp) hbs ?_; intro A1 c1 w2 hown1 hb1)
      go_ret
      exact ⟨_, _, _, rfl, by rw [hx.out]; rfl, by rw [hx.out]; simpa using hown1, hbe.out.trans hb1⟩
    | cons c0 t =>
      have h0 : (0 : Int) < ((c0 :: t).length : Int) := by simp
      obtain ⟨g, o, u, rfl, _, hx, hc⟩ := hB.reads.at_ (k := 0) (by simp)
      have hx' : u = .int .u8 (c0.toNat : Int) := by simpa [bv] using hx.symm
      subst hx'
      rw [Nat.add_zero] at hc
      clear hx
      by_cases hz : c0 = 0
      · have hz' : (c0.toNat : Int) = 0 := by rw [hz]; rfl
        have hcut := Lib.hid (hB.cutIf (k := 1) (by simp))
        have hcap := hB.cap
        have hc1 : (1 : Int) ≤ (c : Int) := by simp at hcap; omega
        have hd2 := Lib.hid (show t.dropWhile (· == 0) = Wd.be 8 n by rw [← hd, hz]; simp)
        have hm : (c0 :: t).length = t.length + 1 := rfl
        rw [hm] at hcap h0 hcut
        rw [hm]
        replace hB := Lib.hid hB
        clear hd hm hz
        by_cases hck : c = 1
        · subst hck
          have ht : t = [] := List.eq_nil_of_length_eq_zero (by omega)
          subst ht
          go_wp2_with fail
          refine ⟨⟨_, _, _, [], rfl, ?_, by simp, hd2.out⟩, by simp⟩
          have := hcut.out
          simpa using this
        · go_wp2_with fail
          refine ⟨⟨_, _, _, t, rfl, ?_, by simp at hl8; omega, hd2.out⟩, Nat.lt_succ_self _⟩
          have := hcut.out
          rw [if_neg hck] at this
          simpa [add_mk] using this
      · have hz' : ¬ (c0.toNat : Int) = 0 := fun e => hz (UInt8.toNat_inj.1 (show c0.toNat = 0 by omega))
        have hx : Wd.be 8 n = c0 :: t := by rw [← hd]; simp [hz]
        generalize hl : (c0 :: t) = l at *
        replace hl := Lib.hid hl
        replace hx := Lib.hid hx
        replace hB := Lib.hid hB
        clear hd hz
        go_wp2_with (at_builtin; refine wpList_append_u8 rfl _ _ rfl w.heap.size _ 0 [] rfl (World.ownsRow_nil _ _ _ _) w1.heap.size _ _ c l rfl hB.out (by omega) hbs ?_; intro A1 c1 w2 hown1 hb1)
        go_ret
        exact ⟨_, _, _, rfl, by rw [hx.out], by rw [hx.out]; simpa using hown1, hbe.out.trans hb1⟩
end Go.Proofs.Ytcpnfllekpekgaa
