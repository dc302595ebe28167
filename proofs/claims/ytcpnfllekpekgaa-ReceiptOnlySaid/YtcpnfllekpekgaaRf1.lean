/-
  The reference of chapter 2: copied, head.
-/
import Derived.Test.YtcpnfllekpekgaaGa1
import Derived.Test.YtcpnfllekpekgaaRWo
namespace Go.Proofs.Ytcpnfllekpekgaa
open Go.RowKit

theorem ref_copied (A : Option Addr) (n c B : Nat) (l : List UInt8) (w : World) (h : Bytes w B A n c l) (hB : B ≤ w.heap.size) (hl : l.length ≤ 140737488355328) :
    Calls Try.prog 50 #[.slice A n c] w (PostB w l) := by
  have hlen := h.len
  subst hlen
  have ho : w.ownsRow w.heap.size 5 1 (.slice none 0 0) 0 (bv []) := World.ownsRow_nil _ _ _ _
  go_enter Try.func50, Try.ntmps50
  go_wp2_with (at_builtin; refine wpList_append_u8 rfl _ _ rfl w.heap.size _ 0 [] rfl ho B _ _ _ l rfl h (by omega) (by simp) ?_; intro A1 c1 w1 hown1 hb1)
  rw [List.nil_append, Nat.zero_add] at hown1
  go_ret
  exact ⟨_, _, _, rfl, by simp, by simpa using hown1, hb1⟩
theorem own_lit2 (w : World) (cs : Array Value) (l : List UInt8) (h : cs.toList = bv l) (hm : l.length ≤ maxLen) {n : Nat} (hn : n = l.length) : NewB w (w.alloc (.cells cs 5)) (some ⟨w.heap.size, 0, none⟩) n n l :=
  ⟨hn, own_lit w cs l w.heap.size h hm (Nat.le_refl _) hn, (Below.refl _ _).alloc (Nat.le_refl _) _⟩
theorem u8_toNat (z : Nat) (h : z < 256) : (((UInt8.ofNat z).toNat : Nat) : Int) = z := by simp; omega
theorem u8_cell {z : Int} {k : Nat} (h : z = k) (hk : k < 256) : Value.int .u8 z = .int .u8 ((UInt8.ofNat k).toNat : Int) := by rw [u8_toNat _ hk, h]
theorem ref_head (base n : Nat) (w : World) (hb : base + 58 < 256) (hn : n ≤ Ns.maxBytes) : Calls Try.prog 31 #[.int .i64 base, .int .i64 n] w (PostB w (Ns.head base n)) := by
  unfold Ns.maxBytes at hn
  by_cases h1 : n ≤ 55
  · have e : Ns.head base n = [UInt8.ofNat (base + n)] := Ns.head_small base n h1
    have h1' : (n : Int) ≤ 55 := by omega
    have hN := own_lit2 w #[.int .u8 ((base : Int) + n)] [UInt8.ofNat (base + n)] (by show [_] = [_]; rw [u8_cell (z := (base : Int) + n) (k := base + n) (by omega) (by omega)]) (by simp [maxLen]) (n := 1) rfl
    rw [← e] at hN
    clear e
    generalize Ns.head base n = L at hN ⊢
    replace hN := Lib.hid hN
    go_enter Try.func31, Try.ntmps31
    go_wp2
    go_ret
    exact ⟨_, _, _, rfl, hN.out⟩
  · have e : Ns.head base n = UInt8.ofNat (base + 55 + (Wd.be 8 n).length) :: Wd.be 8 n := by unfold Ns.head; rw [if_neg h1]
    have h1' : ¬ (n : Int) ≤ 55 := by omega
    by_cases h2 : n < 256
    · have h2' : (n : Int) < 256 := by omega
      rw [Wd.be_one 7 n (by omega) h2] at e
      simp only [List.length_singleton] at e
      have hN := own_lit2 w #[.int .u8 ((base : Int) + 56), .int .u8 (n : Int)] [UInt8.ofNat (base + 55 + 1), UInt8.ofNat n] (by show [_, _] = [_, _]; rw [u8_cell (z := (base : Int) + 56) (k := base + 55 + 1) (by omega) (by omega), u8_cell (z := (n : Int)) (k := n) rfl (by omega)]) (by simp [maxLen]) (n := 2) rfl
      rw [← e] at hN
      clear e
      generalize Ns.head base n = L at hN ⊢
      replace hN := Lib.hid hN
      go_enter Try.func31, Try.ntmps31
      go_wp2
      go_ret
      exact ⟨_, _, _, rfl, hN.out⟩
    · have h2' : ¬ (n : Int) < 256 := by omega
      by_cases h3 : n < 65536
      · have h3' : (n : Int) < 65536 := by omega
        rw [Wd.be_two 6 n (by omega) h3] at e
        simp only [List.length_cons, List.length_nil] at e
        have hN := own_lit2 w #[.int .u8 ((base : Int) + 57), .int .u8 ((n : Int) / 256), .int .u8 ((n : Int) % 256)] [UInt8.ofNat (base + 55 + (0 + 1 + 1)), UInt8.ofNat (n / 256), UInt8.ofNat (n % 256)]
          (by show [_, _, _] = [_, _, _]; rw [u8_cell (z := (base : Int) + 57) (k := base + 55 + (0 + 1 + 1)) (by omega) (by omega), u8_cell (z := (n : Int) / 256) (k := n / 256) (by omega) (by omega), u8_cell (z := (n : Int) % 256) (k := n % 256) (by omega) (by omega)]) (by simp [maxLen]) (n := 3) rfl
        rw [← e] at hN
        clear e
        generalize Ns.head base n = L at hN ⊢
        replace hN := Lib.hid hN
        go_enter Try.func31, Try.ntmps31
        go_wp2
        go_ret
        exact ⟨_, _, _, rfl, hN.out⟩
      · have h3' : ¬ (n : Int) < 65536 := by omega
        rw [Wd.be_three 5 n (by omega) (by omega)] at e
        simp only [List.length_cons, List.length_nil] at e
        have hN := own_lit2 w #[.int .u8 ((base : Int) + 58), .int .u8 ((n : Int) / 65536), .int .u8 ((n : Int) / 256 % 256), .int .u8 ((n : Int) % 256)] [UInt8.ofNat (base + 55 + (0 + 1 + 1 + 1)), UInt8.ofNat (n / 65536), UInt8.ofNat (n / 256 % 256), UInt8.ofNat (n % 256)]
          (by show [_, _, _, _] = [_, _, _, _]; rw [u8_cell (z := (base : Int) + 58) (k := base + 55 + (0 + 1 + 1 + 1)) (by omega) (by omega), u8_cell (z := (n : Int) / 65536) (k := n / 65536) (by omega) (by omega), u8_cell (z := (n : Int) / 256 % 256) (k := n / 256 % 256) (by omega) (by omega), u8_cell (z := (n : Int) % 256) (k := n % 256) (by omega) (by omega)]) (by simp [maxLen]) (n := 4) rfl
        rw [← e] at hN
        clear e
        generalize Ns.head base n = L at hN ⊢
        replace hN := Lib.hid hN
        go_enter Try.func31, Try.ntmps31
        go_wp2
        go_ret
        exact ⟨_, _, _, rfl, hN.out⟩
end Go.Proofs.Ytcpnfllekpekgaa
