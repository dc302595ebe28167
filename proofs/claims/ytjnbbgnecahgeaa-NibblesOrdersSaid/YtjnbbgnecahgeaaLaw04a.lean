import Derived.Test.YtjnbbgnecahgeaaLaw04
namespace Go.Proofs.Ytjnbbgnecahgeaa
open Go.RowKit

namespace Nib
theorem common_comm : ∀ p q : List UInt8, common q p = common p q
  | [], [] => rfl
  | [], _ :: _ => rfl
  | _ :: _, [] => rfl
  | a :: ra, b :: rb => by
    simp only [common, common_comm ra rb]
    by_cases h : a = b
    · subst h; rfl
    · rw [if_neg h, if_neg (fun e => h e.symm)]
theorem order3 : ∀ p q : List UInt8, (decide (Lib.compareBytes p q < 0) = true ∧ decide (Lib.compareBytes q p < 0) = false ∧ decide (p = q) = false) ∨
    (decide (Lib.compareBytes p q < 0) = false ∧ decide (Lib.compareBytes q p < 0) = true ∧ decide (p = q) = false) ∨
    (decide (Lib.compareBytes p q < 0) = false ∧ decide (Lib.compareBytes q p < 0) = false ∧ decide (p = q) = true)
  | [], [] => by simp [Lib.compareBytes]
  | [], _ :: _ => by simp [Lib.compareBytes]
  | _ :: _, [] => by simp [Lib.compareBytes]
  | a :: ra, b :: rb => by
    have ih := order3 ra rb
    by_cases h : a = b
    · subst h
      simpa [Lib.compareBytes] using ih
    · have hne : a.toNat ≠ b.toNat := fun e => h (UInt8.toNat_inj.1 e)
      simp only [Lib.compareBytes, UInt8.lt_iff_toNat_lt]
      rcases Nat.lt_or_gt_of_ne hne with h1 | h1
      · have h2 : ¬ b.toNat < a.toNat := by omega
        simp [h1, h2, h]
      · have h2 : ¬ a.toNat < b.toNat := by omega
        simp [h1, h2, h]
end Nib

set_option maxHeartbeats 1000000 in
theorem law_NibblesOrders1 (p q : List UInt8) (A A' : Option Addr) (n n' c c' : Nat) (w : World) (h : Bytes w w.heap.size A n c p) (h' : Bytes w w.heap.size A' n' c' q)
    (b1 b2 b3 : Bool) (e1 : decide (Lib.compareBytes p q < 0) = b1) (e2 : decide (Lib.compareBytes q p < 0) = b2) (e3 : decide (p = q) = b3) (hb : (b1 = true ∧ b2 = false ∧ b3 = false) ∨ (b1 = false ∧ b2 = true ∧ b3 = false) ∨ (b1 = false ∧ b2 = false ∧ b3 = true)) :
    Calls Try.prog 5 #[.slice A n c, .slice A' n' c'] w (PostT w) := by
  have E1 := Lib.hid e1
  have E2 := Lib.hid e2
  have E3 := Lib.hid e3
  clear e1 e2 e3
  rcases hb with ⟨rfl, rfl, rfl⟩ | ⟨rfl, rfl, rfl⟩ | ⟨rfl, rfl, rfl⟩
  all_goals
    go_enter Try.func5, Try.ntmps5
    go_wp2_with fail
    refine (nib_Common p q A A' n n' c c' w.heap.size _ h h').mono ?_
    intro e w1 hq; obtain ⟨rfl, hb1⟩ := hq.below; clear hq
    go_wp2_with fail
    refine (nib_Less p q A A' n n' c c' w.heap.size _ (h.below hb1) (h'.below hb1)).mono ?_
    rintro e _ ⟨rfl, rfl⟩; rw [E1.out]
    go_wp2_with fail
    refine (nib_Less q p A' A n' n c' c w.heap.size _ (h'.below hb1) (h.below hb1)).mono ?_
    rintro e _ ⟨rfl, rfl⟩; rw [E2.out]
    go_wp2_with fail
    refine (law_alive _).mono ?_
    rintro e w2 ⟨rfl, hb2⟩
    have hb2 := hb1.trans (hb2.mono hb1.size)
    go_wp2_with fail
    refine (rnib_Common p q A A' n n' c c' w.heap.size _ (h.below hb2) (h'.below hb2)).mono ?_
    intro e w3 hq; obtain ⟨rfl, hb3⟩ := hq.below; clear hq
    have hb3 := hb2.trans (hb3.mono hb2.size)
    go_wp2_with fail
    refine (nib_Common q p A' A n' n c' c w.heap.size _ (h'.below hb3) (h.below hb3)).mono ?_
    intro e w4 hq; obtain ⟨rfl, hb4⟩ := hq.below; clear hq
    rw [Nib.common_comm]
    have hb4 := hb3.trans (hb4.mono hb3.size)
    go_wp2_with fail
    refine (rnib_Less p q A A' n n' c c' w.heap.size _ (h.below hb4) (h'.below hb4)).mono ?_
    intro e w5 hq; obtain ⟨rfl, hb5⟩ := hq.below; clear hq
    rw [E1.out]
    have hb5 := hb4.trans (hb5.mono hb4.size)
    go_wp2_with fail
    refine (rnib_Less q p A' A n' n c' c w.heap.size _ (h'.below hb5) (h.below hb5)).mono ?_
    intro e w6 hq; obtain ⟨rfl, hb6⟩ := hq.below; clear hq
    rw [E2.out]
    have hb6 := hb5.trans (hb6.mono hb5.size)
    go_wp2_with fail
    refine (law_same p q A A' n n' c c' w.heap.size w.heap.size _ (h.below hb6) (h'.below hb6)).mono ?_
    rintro e _ ⟨rfl, rfl⟩; rw [E3.out]
    go_wp2_with fail
    go_ret
    exact ⟨rfl, hb6⟩

theorem law_NibblesOrders (p q : List UInt8) (A A' : Option Addr) (n n' c c' : Nat) (w : World) (h : Bytes w w.heap.size A n c p) (h' : Bytes w w.heap.size A' n' c' q) :
    Calls Try.prog 5 #[.slice A n c, .slice A' n' c'] w (PostT w) :=
  law_NibblesOrders1 p q A A' n n' c c' w h h' _ _ _ rfl rfl rfl (Nib.order3 p q)
end Go.Proofs.Ytjnbbgnecahgeaa
