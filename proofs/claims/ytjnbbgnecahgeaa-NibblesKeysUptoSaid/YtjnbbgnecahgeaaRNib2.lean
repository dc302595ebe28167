import Derived.Test.YtjnbbgnecahgeaaRNib
namespace Go.Proofs.Ytjnbbgnecahgeaa
open Go.RowKit

namespace Nib
theorem less_common : ∀ (p q : List UInt8), Lib.compareBytes p q < 0 ↔ (common p q = p.length ∧ p.length < q.length) ∨ (∃ (hp : common p q < p.length) (hq : common p q < q.length), p[common p q] < q[common p q])
  | [], [] => by simp [common, Lib.compareBytes]
  | [], b :: rb => by simp [common, Lib.compareBytes]
  | a :: ra, [] => by simp [common, Lib.compareBytes]
  | a :: ra, b :: rb => by
    by_cases hab : a = b
    · subst hab
      have := less_common ra rb
      simp only [Lib.compareBytes, UInt8.lt_irrefl, if_false, common, if_true, List.length_cons, List.getElem_cons_succ, Nat.add_lt_add_iff_right, Nat.add_right_cancel_iff]
      exact this
    · have h0 : common (a :: ra) (b :: rb) = 0 := by simp [common, hab]
      simp only [h0, Lib.compareBytes, List.length_cons, List.getElem_cons_zero]
      by_cases hlt : a < b
      · simp [hlt]
      · have : b < a := by
          rw [UInt8.lt_iff_toNat_lt] at hlt ⊢
          have : a.toNat ≠ b.toNat := fun e => hab (UInt8.toNat_inj.1 e)
          omega
        simp [hlt, this]
end Nib

set_option maxHeartbeats 1000000 in
theorem rnib_Less (p q : List UInt8) (A A' : Option Addr) (n n' c c' B : Nat) (w : World) (h : Bytes w B A n c p) (h' : Bytes w B A' n' c' q) :
    Calls Try.prog 21 #[.slice A n c, .slice A' n' c'] w (PostQ w (.bool (decide (Lib.compareBytes p q < 0)))) := by
  have hlen := h.len
  have hlen' := h'.len
  have hlim := h.lim
  have hlim' := h'.lim
  have hcap := h.cap
  have hcap' := h'.cap
  subst hlen
  subst hlen'
  unfold maxLen at hlim hlim'
  have hle := Nib.common_le p q
  obtain ⟨k, hk⟩ : ∃ k, k = Nib.common p q := ⟨_, rfl⟩
  rw [← hk] at hle
  have HK := Lib.hid hk
  have HL := Lib.hid (Nib.less_common p q)
  clear hk
  obtain ⟨hk1, hk2⟩ := hle
  by_cases hkp : k = p.length
  · have he : ((k : Int) == (p.length : Int)) = true := by rw [hkp]; simp
    by_cases hlt : p.length < q.length
    · have HF := Lib.hid (show Lib.compareBytes p q < 0 from HL.out.2 (.inl ⟨by rw [← HK.out, hkp], hlt⟩))
      have hlt' : (k : Int) < (q.length : Int) := by omega
      clear hkp
      go_enter Try.func21, Try.ntmps21
      go_wp2_with (go_at_call 20; refine (rnib_Common p q A A' _ _ c c' B w h h').mono ?_; rintro e w' ⟨rfl, d, rfl⟩; rw [← HK.out])
      go_ret
      exact ⟨by rw [decide_eq_true HF.out]; rfl, _, rfl⟩
    · have HF := Lib.hid (show decide (Lib.compareBytes p q < 0) = false from decide_eq_false fun hc => by
        rcases HL.out.1 hc with h1 | ⟨hp, _⟩
        · exact hlt h1.2
        · rw [← HK.out] at hp; omega)
      have hlt' : ¬ ((k : Int) < (q.length : Int)) := by omega
      clear hkp
      go_enter Try.func21, Try.ntmps21
      go_wp2_with (go_at_call 20; refine (rnib_Common p q A A' _ _ c c' B w h h').mono ?_; rintro e w' ⟨rfl, d, rfl⟩; rw [← HK.out])
      go_ret
      exact ⟨ret_bool (by rw [HF.out, decide_eq_false]; omega), _, rfl⟩
  · have he : ((k : Int) == (p.length : Int)) = false := beq_eq_false_iff_ne.2 (by omega)
    by_cases hq : k < q.length
    · have hd : decide (k < q.length) = true := by simp [hq]
      obtain ⟨g, o, rfl, _, hc⟩ := h.at_ (k := k) (by omega)
      obtain ⟨g', o', rfl, _, hc'⟩ := h'.at_ (k := k) (by omega)
      have HF := Lib.hid (show Lib.compareBytes p q < 0 ↔ p[k] < q[k] from by
        rw [HL.out]
        have hk := HK.out
        subst hk
        constructor
        · rintro (h1 | ⟨_, _, h3⟩)
          · omega
          · exact h3
        · intro h3; exact .inr ⟨by omega, hq, h3⟩)
      have hkp' : (k : Int) < (p.length : Int) := by omega
      have hkq' : (k : Int) < (q.length : Int) := by omega
      go_enter Try.func21, Try.ntmps21
      go_wp2_with (go_at_call 20; refine (rnib_Common p q _ _ _ _ c c' B w h h').mono ?_; rintro e w' ⟨rfl, d, rfl⟩; rw [← HK.out])
      go_quiet (fail)
      go_wp2_with fail
      go_ret
      exact ⟨ret_bool (by rw [decide_eq_decide, HF.out, UInt8.lt_iff_toNat_lt]), _, by rw [World.drewN_drewN]⟩
    · have hd : decide (k < q.length) = false := by simp [hq]
      have HF := Lib.hid (show decide (Lib.compareBytes p q < 0) = false from decide_eq_false fun hc => by
        rcases HL.out.1 hc with h1 | ⟨_, hq', _⟩
        · exact hkp (HK.out.trans h1.1)
        · rw [← HK.out] at hq'; omega)
      go_enter Try.func21, Try.ntmps21
      go_wp2_with (go_at_call 20; refine (rnib_Common p q A A' _ _ c c' B w h h').mono ?_; rintro e w' ⟨rfl, d, rfl⟩; rw [← HK.out])
      go_quiet (fail)
      go_wp2_with fail
      go_ret
      exact ⟨ret_bool HF.out.symm, d + nq, by rw [World.drewN_drewN]⟩

/-- 'same' of the law's own package -/
theorem law_same (p q : List UInt8) (A A' : Option Addr) (n n' c c' B B' : Nat) (w : World) (h : Bytes w B A n c p) (h' : Bytes w B' A' n' c' q) :
    Calls Try.prog 15 #[.slice A n c, .slice A' n' c'] w fun e w' => e = .returned (.bool (decide (p = q))) ∧ w = w' := by
  have h1 := h.toStr (P := Try.prog) Try.underlying22 Try.underlying5 9 Try.underlying9
  have h2 := h'.toStr (P := Try.prog) Try.underlying22 Try.underlying5 9 Try.underlying9
  go_enter Try.func15, Try.ntmps15
  go_wp2
  go_ret
  exact ⟨ret_bool (by rw [Bool.eq_iff_iff]; simp [ByteArray.ext_iff]), rfl⟩
end Go.Proofs.Ytjnbbgnecahgeaa
