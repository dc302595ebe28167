/-
  The reference of chapter 5: SameRef.
-/
import Derived.Test.YtahaaeenbahknaaRRRRNo7
namespace Go.Proofs.YtahaaeenbahknaaRRRR
open Go.RowKit

theorem rf_eq {k k' : Int} {d d' b b' : List UInt8} : ((⟨k, d, b⟩ : Nd.Rf) = ⟨k', d', b'⟩) ↔ k = k' ∧ d = d' ∧ b = b' := by
  constructor
  · intro h; injection h with h1 h2 h3; exact ⟨h1, h2, h3⟩
  · rintro ⟨rfl, rfl, rfl⟩; rfl
open Classical in
set_option maxHeartbeats 2000000 in
set_option maxRecDepth 100000 in
theorem ref_SameRef (k k' : Int) (d d' b b' : List UInt8) (A A' : Option Addr) (n n' c c' : Nat) (w : World) (hd : d.length = 32) (hd' : d'.length = 32) (h : Bytes w w.heap.size A n c b) (h' : Bytes w w.heap.size A' n' c' b') :
    Calls Try.prog 12 #[.agg (refRow k d A n c), .agg (refRow k' d' A' n' c')] w fun e w' => e = .returned (.bool (decide ((⟨k, d, b⟩ : Nd.Rf) = ⟨k', d', b'⟩))) ∧ Below w.heap.size w w' := by
  have hX : decide ((⟨k, d, b⟩ : Nd.Rf) = ⟨k', d', b'⟩) = decide (k = k' ∧ d = d' ∧ b = b') := by rw [Bool.eq_iff_iff]; simp [rf_eq]
  generalize decide ((⟨k, d, b⟩ : Nd.Rf) = ⟨k', d', b'⟩) = X at *
  have hb1 : Blk ((w.alloc (.cells (refRow k d A n c) 26)).alloc (.cells (refRow k' d' A' n' c') 26)) w.heap.size 26 (refRow k d A n c) := (Blk.new w _ _).alloc _
  have hb2 : Blk ((w.alloc (.cells (refRow k d A n c) 26)).alloc (.cells (refRow k' d' A' n' c') 26)) (w.heap.size + 1) 26 (refRow k' d' A' n' c') := Blk.new' (by simp)
  have hbe := ((Below.refl w.heap.size w).alloc (Nat.le_refl _) (.cells (refRow k d A n c) 26)).alloc (by simp) (.cells (refRow k' d' A' n' c') 26)
  have h1 := (h.below hbe).toStr (P := Try.prog) Try.underlying22 Try.underlying5 9 Try.underlying9
  have h2 := (h'.below hbe).toStr (P := Try.prog) Try.underlying22 Try.underlying5 9 Try.underlying9
  have g0 := (hb1.cell 0).trans refRow_zero
  have g0' := (hb2.cell 0).trans refRow_zero
  have g33 := (hb1.cell 33).trans (refRow_last hd)
  have g33' := (hb2.cell 33).trans (refRow_last hd')
  have hrg := hb1.dig
  have hrg' := hb2.dig
  have heq : ∀ w0 : World, (binOp .eql 24 (.agg (bv d).toArray) (.agg (bv d').toArray)).run Try.prog w0 = .ok (.bool (decide (d = d'))) w0 := run_eql_dig d d' hd hd'
  generalize refRow k d A n c = R at *
  generalize refRow k' d' A' n' c' = R' at *
  have hdl := Lib.hid hd
  have hdl' := Lib.hid hd'
  clear h h' hb1 hb2 hd hd'
  replace hbe := Lib.hid hbe
  replace hX := Lib.hid hX
  go_enter Try.func12, Try.ntmps12
  by_cases hk : k = k'
  · subst hk
    by_cases hdd : d = d'
    · simp only [decide_eq_true hdd] at heq
      replace hdd := Lib.hid hdd
      go_wp2_with (first
        | (refine wpList_mid_g (by rfl) 24 _ rfl w.heap.size 1 rfl (bv d) _ hrg Try.underlying24 rfl (by rw [bv_length, hdl.out]; exact info_digest) ?_)
        | (refine wpList_mid_g (by rfl) 24 _ rfl (w.heap.size + 1) 1 rfl (bv d') _ hrg' Try.underlying24 rfl (by rw [bv_length, hdl'.out]; exact info_digest) ?_)
        | fail)
      go_ret
      exact ⟨ret_bool (by rw [hX.out, Bool.eq_iff_iff]; simp [hdd.out, ByteArray.ext_iff]), hbe.out⟩
    · simp only [decide_eq_false hdd] at heq
      replace hdd := Lib.hid hdd
      go_wp2_with (first
        | (refine wpList_mid_g (by rfl) 24 _ rfl w.heap.size 1 rfl (bv d) _ hrg Try.underlying24 rfl (by rw [bv_length, hdl.out]; exact info_digest) ?_)
        | (refine wpList_mid_g (by rfl) 24 _ rfl (w.heap.size + 1) 1 rfl (bv d') _ hrg' Try.underlying24 rfl (by rw [bv_length, hdl'.out]; exact info_digest) ?_)
        | fail)
      go_ret
      exact ⟨ret_bool (by rw [hX.out, Bool.eq_iff_iff]; simp [hdd.out]), hbe.out⟩
  · go_wp2_with fail
    go_ret
    exact ⟨ret_bool (by rw [hX.out, Bool.eq_iff_iff]; simp [hk]), hbe.out⟩
end Go.Proofs.YtahaaeenbahknaaRRRR
