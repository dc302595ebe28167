/-
  The law's own functions of chapter 04: same, alive; what two paths begin with alike, plain.
-/
import Derived.Test.YtmpafibpmpgciaaNib2
import Derived.Test.YtmpafibpmpgciaaNib3
import Derived.Test.YtmpafibpmpgciaaNib4
import Derived.Test.YtmpafibpmpgciaaWrap
namespace Go.Proofs.Ytmpafibpmpgciaa
open Go.RowKit

/-- 'same' of the law's own package -/
theorem law_same (p q : List UInt8) (A A' : Option Addr) (n n' c c' B B' : Nat) (w : World) (h : Bytes w B A n c p) (h' : Bytes w B' A' n' c' q) :
    Calls Try.prog 7 #[.slice A n c, .slice A' n' c'] w fun e w' => e = .returned (.bool (decide (p = q))) ∧ w = w' := by
  have h1 := h.toStr (P := Try.prog) Try.underlying22 Try.underlying5 9 Try.underlying9
  have h2 := h'.toStr (P := Try.prog) Try.underlying22 Try.underlying5 9 Try.underlying9
  go_enter Try.func7, Try.ntmps7
  go_wp2
  go_ret
  exact ⟨ret_bool (by rw [Bool.eq_iff_iff]; simp [ByteArray.ext_iff]), rfl⟩
set_option maxHeartbeats 1000000 in
theorem law_alive (w : World) : Calls Try.prog 6 #[] w (PostT w) := by
  have e1 : Nib.unpackB [0, 18] = false := by decide
  have e2 : Nib.unpackE [0, 18] = 0 := by decide
  have e3 : Nib.packE [1, 2, 3] = 0 := by decide
  have E4 := Lib.hid (show Nib.unpackL [0, 18] = [1, 2] by decide)
  have E5 := Lib.hid (show (Nib.pack [1, 2, 3] true).getD [] = [49, 35] by decide)
  go_enter Try.func6, Try.ntmps6
  go_wp2_with (first
    | (go_at_call 9; refine (nib_Pack [1, 2, 3] true _ 3 3 (w.heap.size + 1) _ (Bytes.lit w _ [1, 2, 3] _ (by rfl) (by simp [maxLen]) rfl) (by simp) (by simp)).mono ?_; rw [E5.out]; rintro e w1 ⟨A1, m1, c1, rfl, hn1⟩; have HN1 := Lib.hid hn1; have hb1 := Below.trans ((Below.refl w.heap.size w).alloc (Nat.le_refl _) _) (hn1.2.2.mono (by simp)); clear hn1)
    | (go_at_call 10; refine (nib_Unpack [0, 18] _ 2 2 (w1.heap.size + 1) _ (Bytes.lit w1 _ [0, 18] _ (by rfl) (by simp [maxLen]) rfl) (by simp) (by simp)).mono ?_; rw [E4.out]; rintro e w2 ⟨A2, m2, c2, rfl, hn2⟩; have HN2 := Lib.hid hn2; have hb2 := Below.trans ((Below.refl w1.heap.size w1).alloc (Nat.le_refl _) _) (hn2.2.2.mono (by simp)); clear hn2)
    | (go_at_call_of 7 A1; refine (law_same [49, 35] [49, 35] A1 _ m1 2 c1 2 w1.heap.size (w2.heap.size + 1) _ ((HN1.out.bytes.below hb2).alloc hb2.size _) (Bytes.lit w2 _ [49, 35] _ (by rfl) (by simp [maxLen]) rfl)).mono ?_; rintro e w' ⟨rfl, rfl⟩)
    | (go_at_call_of 7 A2; refine (law_same [1, 2] [1, 2] A2 _ m2 2 c2 2 w2.heap.size (w2.heap.size + 1 + 1) _ ((HN2.out.bytes.alloc (Nat.le_refl _) _).alloc (by simp) _) (Bytes.lit' (w2.alloc _) _ [1, 2] _ (by simp) (by rfl) (by simp [maxLen]) rfl)).mono ?_; rintro e w' ⟨rfl, rfl⟩)
    | (go_at_call 11; refine (nib_Right [1, 2] A2 m2 c2 w2.heap.size _ ((HN2.out.bytes.alloc (Nat.le_refl _) _).alloc (by simp) _)).mono ?_; rintro e w' ⟨rfl, rfl⟩)
    | (go_at_call 5; refine (nib_Common [1, 2] [1, 3] A2 _ m2 2 c2 2 (w2.heap.size + 1 + 1 + 1) _ ((((HN2.out.bytes.alloc (Nat.le_refl _) _).alloc (by simp) _).alloc (by simp; omega) _).more (by omega)) (Bytes.lit' ((w2.alloc _).alloc _) _ [1, 3] _ (by simp) (by rfl) (by simp [maxLen]) rfl)).mono ?_; rintro e w' ⟨rfl, d, rfl⟩))
  go_ret
  have hs1 := hb1.size
  have hs2 := hb2.size
  refine ⟨ret_bool (by decide), below_drewN ((((hb1.trans (hb2.mono hs1)).alloc (by omega) _).alloc (by simp; omega) _).alloc (by simp; omega) _) _⟩

namespace Nib
theorem hi_lo (a b : UInt8) (h : hi a = hi b) (h' : lo a = lo b) : a = b := by
  have h1 := congrArg UInt8.toNat h
  have h2 := congrArg UInt8.toNat h'
  rw [hi_toNat, hi_toNat] at h1
  rw [lo_toNat, lo_toNat] at h2
  exact UInt8.toNat_inj.1 (by omega)
theorem common_of : ∀ a b : List UInt8, common (of a) (of b) / 2 = common a b
  | [], [] => by simp [of, common]
  | [], _ :: _ => by simp [of, common]
  | _ :: _, [] => by simp [of, common]
  | a :: ra, b :: rb => by
    have ih := common_of ra rb
    have e : ∀ (x : UInt8) l, of (x :: l) = hi x :: lo x :: of l := fun x l => rfl
    rw [e, e]
    simp only [common]
    by_cases h : a = b
    · subst h
      simp only [if_true]; omega
    · rw [if_neg h]
      by_cases h1 : hi a = hi b
      · rw [if_pos h1]
        have h2 : ¬ lo a = lo b := fun h2 => h (hi_lo a b h1 h2)
        rw [if_neg h2]
      · rw [if_neg h1]
theorem compare_of : ∀ a b : List UInt8, Lib.compareBytes (of a) (of b) < 0 ↔ Lib.compareBytes a b < 0
  | [], [] => by simp [of, Lib.compareBytes]
  | [], _ :: _ => by simp [of, Lib.compareBytes]
  | _ :: _, [] => by simp [of, Lib.compareBytes]
  | a :: ra, b :: rb => by
    have ih := compare_of ra rb
    have e : ∀ (x : UInt8) l, of (x :: l) = hi x :: lo x :: of l := fun x l => rfl
    rw [e, e]
    simp only [Lib.compareBytes, UInt8.lt_iff_toNat_lt, hi_toNat, lo_toNat]
    by_cases h1 : a.toNat < b.toNat
    · rw [if_pos h1]
      by_cases h2 : a.toNat / 16 < b.toNat / 16
      · simp [h2]
      · have h3 : a.toNat / 16 = b.toNat / 16 := by omega
        have h4 : a.toNat % 16 < b.toNat % 16 := by omega
        simp [h3, h4]
    · by_cases h2 : b.toNat < a.toNat
      · rw [if_neg h1, if_pos h2]
        by_cases h3 : b.toNat / 16 < a.toNat / 16
        · have h4 : ¬ a.toNat / 16 < b.toNat / 16 := by omega
          simp [h3, h4]
        · have h5 : a.toNat / 16 = b.toNat / 16 := by omega
          have h6 : b.toNat % 16 < a.toNat % 16 := by omega
          have h7 : ¬ a.toNat % 16 < b.toNat % 16 := by omega
          simp [h5, h6, h7]
      · have h3 : a.toNat = b.toNat := by omega
        rw [h3]
        simpa using ih
theorem common_take : ∀ p q : List UInt8, p.take (common p q) = q.take (common p q)
  | [], q => by simp [common]
  | a :: ra, [] => by simp [common]
  | a :: ra, b :: rb => by
    simp only [common]
    by_cases h : a = b
    · rw [if_pos h, List.take_succ_cons, List.take_succ_cons, common_take ra rb, h]
    · rw [if_neg h]; simp
theorem common_next : ∀ (p q : List UInt8) (hp : common p q < p.length) (hq : common p q < q.length), p[common p q] ≠ q[common p q]
  | [], q, hp, _ => by simp at hp
  | a :: ra, [], _, hq => by simp at hq
  | a :: ra, b :: rb, hp, hq => by
    by_cases h : a = b
    · have e : common (a :: ra) (b :: rb) = common ra rb + 1 := by simp [common, h]
      simp only [e, List.getElem_cons_succ]
      simp only [e, List.length_cons] at hp hq
      exact common_next ra rb (by omega) (by omega)
    · have e : common (a :: ra) (b :: rb) = 0 := by simp [common, h]
      simp only [e, List.getElem_cons_zero]
      exact h
end Nib

theorem Bytes.take {w : World} {B n c k : Nat} {A : Option Addr} {l : List UInt8} (h : Bytes w B A n c l) (hk : k ≤ n) : Bytes w B A k c (l.take k) := by
  have hl := h.len
  refine ⟨by rw [List.length_take]; omega, Nat.le_trans hk h.cap, h.lim, ?_⟩
  have := h.reads.take hk
  rw [Nat.mul_one] at this
  rw [show bv (l.take k) = (bv l).take k by simp [bv, List.map_take]]
  exact this

end Go.Proofs.Ytmpafibpmpgciaa
