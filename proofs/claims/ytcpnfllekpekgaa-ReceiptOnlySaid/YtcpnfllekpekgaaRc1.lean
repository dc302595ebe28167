/-
  Package receipt: Right.
-/
import Derived.Test.YtcpnfllekpekgaaBy
import Derived.Test.YtcpnfllekpekgaaWordP
import Derived.Test.YtcpnfllekpekgaaBlk
namespace Go.Proofs.Ytcpnfllekpekgaa
open Go.RowKit

/-- a receipt -/
structure Rc where
  s : Int
  g : Nat
  r : Nat
  m : Nat
def Rc.val (x : Rc) : Value := .agg #[.int .i64 x.s, .int .u64 x.g, .int .u64 x.r, .int .u64 x.m]
def Rc.right (x : Rc) : Bool := if x.s = 0 then true else if x.s = 1 then decide (x.m = 0) else decide (1 < x.s ∧ x.s ≤ 9 ∧ x.m = 0 ∧ x.r = 0)
set_option maxHeartbeats 1000000 in
theorem receipt_Right (x : Rc) (w : World) : Calls Try.prog 11 #[x.val] w fun e w' => e = .returned (.bool x.right) ∧ Below w.heap.size w w' := by
  obtain ⟨s, g, r, m⟩ := x
  unfold Rc.val
  by_cases h0 : s = 0
  · have hv : Rc.right ⟨s, g, r, m⟩ = true := by simp [Rc.right, h0]
    subst h0
    rw [hv]
    clear hv
    go_enter Try.func11, Try.ntmps11
    go_wp2
    go_ret
    exact ⟨rfl, by repeat (first | exact Below.refl _ _ | refine Below.alloc ?_ (by simp) _)⟩
  by_cases h1 : s = 1
  · subst h1
    by_cases hm : m = 0
    · subst hm
      have hv : Rc.right ⟨1, g, r, 0⟩ = true := by simp [Rc.right]
      rw [hv]
      go_enter Try.func11, Try.ntmps11
      go_wp2
      go_ret
      exact ⟨rfl, by repeat (first | exact Below.refl _ _ | refine Below.alloc ?_ (by simp) _)⟩
    · have hm' : ¬ (m : Int) = 0 := by omega
      have hv : Rc.right ⟨1, g, r, m⟩ = false := by simp [Rc.right, hm]
      rw [hv]
      clear hv
      go_enter Try.func11, Try.ntmps11
      go_wp2
      go_ret
      exact ⟨ret_bool (by simp [hm]), by repeat (first | exact Below.refl _ _ | refine Below.alloc ?_ (by simp) _)⟩
  · have hv : Rc.right ⟨s, g, r, m⟩ = decide (1 < s ∧ s ≤ 9 ∧ m = 0 ∧ r = 0) := by simp [Rc.right, h0, h1]
    rw [hv]
    clear hv
    by_cases hs : 1 < s
    · by_cases hs9 : s ≤ 9
      · by_cases hm : m = 0
        · subst hm
          go_enter Try.func11, Try.ntmps11
          go_wp2
          go_ret
          exact ⟨ret_bool (by by_cases hr : r = 0 <;> simp [hs, hs9, hr]), by repeat (first | exact Below.refl _ _ | refine Below.alloc ?_ (by simp) _)⟩
        · have hm' : ¬ (m : Int) = 0 := by omega
          go_enter Try.func11, Try.ntmps11
          go_wp2
          go_ret
          exact ⟨ret_bool (by simp [hm]), by repeat (first | exact Below.refl _ _ | refine Below.alloc ?_ (by simp) _)⟩
      · go_enter Try.func11, Try.ntmps11
        go_wp2
        go_ret
        exact ⟨ret_bool (by rw [decide_eq_false (show ¬ s ≤ 9 by omega)]; rfl), by repeat (first | exact Below.refl _ _ | refine Below.alloc ?_ (by simp) _)⟩
    · go_enter Try.func11, Try.ntmps11
      go_wp2
      go_ret
      exact ⟨ret_bool (by rw [decide_eq_false (show ¬ 1 < s by omega)]; rfl), by repeat (first | exact Below.refl _ _ | refine Below.alloc ?_ (by simp) _)⟩
set_option maxHeartbeats 1000000 in
theorem ref_Right (x : Rc) (w : World) : Calls Try.prog 12 #[x.val] w fun e w' => e = .returned (.bool x.right) ∧ Below w.heap.size w w' := by
  obtain ⟨s, g, r, m⟩ := x
  unfold Rc.val
  by_cases hneg : s < 0
  · have hv : Rc.right ⟨s, g, r, m⟩ = false := by simp only [Rc.right, if_neg (show ¬ s = 0 by omega), if_neg (show ¬ s = 1 by omega)]; exact decide_eq_false (by omega)
    rw [hv]
    clear hv
    go_enter Try.func12, Try.ntmps12
    go_wp2
    go_ret
    exact ⟨rfl, by repeat (first | exact Below.refl _ _ | refine Below.alloc ?_ (by simp) _)⟩
  by_cases h9 : 9 < s
  · have hv : Rc.right ⟨s, g, r, m⟩ = false := by simp only [Rc.right, if_neg (show ¬ s = 0 by omega), if_neg (show ¬ s = 1 by omega)]; exact decide_eq_false (by omega)
    rw [hv]
    clear hv
    go_enter Try.func12, Try.ntmps12
    go_wp2
    go_ret
    exact ⟨rfl, by repeat (first | exact Below.refl _ _ | refine Below.alloc ?_ (by simp) _)⟩
  by_cases h0 : s = 0
  · subst h0
    have hv : Rc.right ⟨0, g, r, m⟩ = true := by simp [Rc.right]
    rw [hv]
    clear hv
    go_enter Try.func12, Try.ntmps12
    go_wp2
    go_ret
    exact ⟨rfl, by repeat (first | exact Below.refl _ _ | refine Below.alloc ?_ (by simp) _)⟩
  by_cases h1 : s = 1
  · subst h1
    have hv : Rc.right ⟨1, g, r, m⟩ = ((m : Int) == 0) := by by_cases hm : m = 0 <;> simp [Rc.right, hm]
    rw [hv]
    clear hv
    go_enter Try.func12, Try.ntmps12
    go_wp2
    go_ret
    exact ⟨rfl, by repeat (first | exact Below.refl _ _ | refine Below.alloc ?_ (by simp) _)⟩
  by_cases hr : r = 0
  · subst hr
    have hv : Rc.right ⟨s, g, 0, m⟩ = (s == 0 || (m : Int) == 0) := by
      simp only [Rc.right, if_neg h0, if_neg h1]
      by_cases hm : m = 0
      · simp [hm]; omega
      · simp [hm, h0]
    rw [hv]
    clear hv
    go_enter Try.func12, Try.ntmps12
    go_wp2
    go_ret
    exact ⟨rfl, by repeat (first | exact Below.refl _ _ | refine Below.alloc ?_ (by simp) _)⟩
  · have hr' : ¬ (r : Int) = 0 := by omega
    have e0 : (s != 0) = true := by simp [h0]
    have e1 : (s != 1) = true := by simp [h1]
    have er : ((r : Int) != 0) = true := by simp [hr]
    have hv : Rc.right ⟨s, g, r, m⟩ = false := by simp [Rc.right, h0, h1, hr]
    rw [hv]
    clear hv
    go_enter Try.func12, Try.ntmps12
    go_wp2
    go_ret
    exact ⟨rfl, by repeat (first | exact Below.refl _ _ | refine Below.alloc ?_ (by simp) _)⟩
end Go.Proofs.Ytcpnfllekpekgaa
