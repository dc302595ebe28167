/-
  Nibbles, plain: packed and unpacked, no program.
-/
import Derived.Test.YtahaaeenbahknaaRRRRNib2
import Derived.Test.YtahaaeenbahknaaRRRRNib3
namespace Go.Proofs.YtahaaeenbahknaaRRRR
open Go.RowKit
namespace Nib
theorem hi_join (a b : UInt8) (ha : a.toNat ≤ 15) (hb : b.toNat ≤ 15) : hi (UInt8.ofNat (16 * a.toNat + b.toNat)) = a := by
  apply UInt8.toNat_inj.1
  rw [hi_toNat]
  simp; omega
theorem lo_join (a b : UInt8) (ha : a.toNat ≤ 15) (hb : b.toNat ≤ 15) : lo (UInt8.ofNat (16 * a.toNat + b.toNat)) = b := by
  apply UInt8.toNat_inj.1
  rw [lo_toNat]
  simp; omega
theorem right_cons (a : UInt8) (l : List UInt8) : right (a :: l) = true ↔ a.toNat ≤ 15 ∧ right l = true := by
  simp [right, UInt8.le_iff_toNat_le]
theorem of_join : ∀ (l : List UInt8), right l = true → l.length % 2 = 0 → of (join l) = l
  | [], _, _ => rfl
  | [_], _, h => by simp at h
  | a :: b :: r, hr, h => by
    rw [right_cons, right_cons] at hr
    have := of_join r hr.2.2 (by simp only [List.length_cons] at h; omega)
    simp only [join, of, List.flatMap_cons, List.cons_append, List.nil_append] at this ⊢
    rw [hi_join a b hr.1 hr.2.1, lo_join a b hr.1 hr.2.1, this]
theorem head_even (p : List UInt8) (leaf : Bool) : (head p.length leaf ++ p).length % 2 = 0 := by
  rw [List.length_append, head_length]; omega
theorem unpack_pack (p : List UInt8) (leaf : Bool) (h : right p = true) : unpack (join (head p.length leaf ++ p)) = some (p, leaf) := by
  unfold unpack
  rw [of_join _ (by rw [right_append, head_right, h]; rfl) (head_even p leaf)]
  by_cases hp : p.length % 2 = 1
  · obtain ⟨x, r, rfl⟩ : ∃ x r, p = x :: r := by
      cases p with
      | nil => simp at hp
      | cons x r => exact ⟨x, r, rfl⟩
    rw [show head (x :: r).length leaf = [if leaf then 3 else 1] by unfold head; rw [if_pos hp]]
    cases leaf <;> simp
  · rw [show head p.length leaf = [if leaf then 2 else 0, 0] by unfold head; rw [if_neg hp]]
    cases leaf <;> simp
theorem pack_length (p : List UInt8) (leaf : Bool) (h : right p = true) : ((pack p leaf).getD []).length = p.length / 2 + 1 := by
  simp only [pack, h, if_true, Option.getD_some, join_length, List.length_append, head_length]; omega
theorem of_key (p : List UInt8) (h : (key p).isSome = true) : of ((key p).getD []) = p := by
  unfold key at h ⊢
  split
  · rename_i hc
    exact of_join p hc.1 hc.2
  · rename_i hc
    rw [if_neg hc] at h
    simp at h
theorem key_some (p : List UInt8) (h : right p = true) : (key p).isSome = decide (p.length % 2 = 0) := by
  unfold key
  by_cases hp : p.length % 2 = 0
  · simp [h, hp]
  · simp [hp]
theorem key_len (p : List UInt8) : 2 * ((key p).getD []).length ≤ p.length := by
  unfold key
  split
  · simp only [Option.getD_some, join_length]; omega
  · simp
end Nib
namespace Nib
theorem of_right : ∀ l : List UInt8, right (of l) = true
  | [] => rfl
  | a :: l => by
    have := of_right l
    have h1 := hi_toNat a
    have h2 := lo_toNat a
    have := a.toNat_lt
    unfold of at *
    simp only [List.flatMap_cons, List.cons_append, List.nil_append]
    rw [right_cons, right_cons]
    exact ⟨by omega, by omega, by assumption⟩
theorem join_of : ∀ l : List UInt8, join (of l) = l
  | [] => rfl
  | a :: l => by
    have := join_of l
    unfold of at *
    simp only [List.flatMap_cons, List.cons_append, List.nil_append, join, this]
    congr 1
    apply UInt8.toNat_inj.1
    have := a.toNat_lt
    rw [hi_toNat, lo_toNat]
    simp; omega
theorem key_of (l : List UInt8) : key (of l) = some l := by
  unfold key
  rw [if_pos ⟨of_right l, by rw [of_length]; omega⟩, join_of]
theorem byte4 (f : UInt8) (h : f.toNat ≤ 3) : f = 0 ∨ f = 1 ∨ f = 2 ∨ f = 3 := by
  have : f.toNat = 0 ∨ f.toNat = 1 ∨ f.toNat = 2 ∨ f.toNat = 3 := by omega
  rcases this with h | h | h | h
  · exact .inl (UInt8.toNat_inj.1 h)
  · exact .inr (.inl (UInt8.toNat_inj.1 h))
  · exact .inr (.inr (.inl (UInt8.toNat_inj.1 h)))
  · exact .inr (.inr (.inr (UInt8.toNat_inj.1 h)))
/-- what is unpacked is packed as the same bytes -/
theorem pack_unpack (b q : List UInt8) (leaf : Bool) (h : unpack b = some (q, leaf)) : pack q leaf = some b ∧ right q = true ∧ q.length + 1 ≤ 2 * b.length := by
  have hr := of_right b
  have hj := join_of b
  have hl := of_length b
  unfold unpack at h
  rcases hof : of b with _ | ⟨f, _ | ⟨z, R⟩⟩
  · rw [hof] at h; simp at h
  · rw [hof] at h; simp at h
  · rw [hof] at h hr hj hl
    simp only at h
    rw [right_cons, right_cons] at hr
    simp only [List.length_cons] at hl
    by_cases h3 : 3 < f.toNat
    · rw [if_pos h3] at h; simp at h
    · rw [if_neg h3] at h
      by_cases ho : f.toNat % 2 = 1
      · rw [if_pos ho] at h
        simp only [Option.some.injEq, Prod.mk.injEq] at h
        obtain ⟨rfl, rfl⟩ := h
        have hrq : right (z :: R) = true := (right_cons _ _).2 ⟨hr.2.1, hr.2.2⟩
        refine ⟨?_, hrq, by simp only [List.length_cons]; omega⟩
        unfold pack
        rw [if_pos hrq]
        have hh : head (z :: R).length (decide (2 ≤ f.toNat)) = [f] := by
          unfold head
          rw [if_pos (by simp only [List.length_cons]; omega)]
          rcases byte4 f (by omega) with rfl | rfl | rfl | rfl <;> simp_all
        rw [hh]
        exact congrArg some hj
      · rw [if_neg ho] at h
        by_cases hz : z.toNat ≠ 0
        · rw [if_pos hz] at h; simp at h
        · rw [if_neg hz] at h
          simp only [Option.some.injEq, Prod.mk.injEq] at h
          obtain ⟨rfl, rfl⟩ := h
          have hz0 : z = 0 := UInt8.toNat_inj.1 (by simpa using hz)
          refine ⟨?_, hr.2.2, by omega⟩
          unfold pack
          rw [if_pos hr.2.2]
          have hh : head R.length (decide (2 ≤ f.toNat)) = [f, z] := by
            unfold head
            rw [if_neg (by omega), hz0]
            rcases byte4 f (by omega) with rfl | rfl | rfl | rfl <;> simp_all
          rw [hh]
          exact congrArg some hj
end Nib
end Go.Proofs.YtahaaeenbahknaaRRRR
