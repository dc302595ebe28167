/-
  Package node: rightRef, branchOf.
-/
import Derived.Test.YtahaaeenbahknaaRRRRNoM
namespace Go.Proofs.YtahaaeenbahknaaRRRR
open Go.RowKit

/-- a node's row is stored anew -/
structure NodS (wr : World) (row : Array Value) (w2 : World) : Prop where
  it : Blk w2 wr.heap.size 29 row
  bel : Below wr.heap.size wr w2
theorem node_stored {wr : World} (row : Array Value) : NodS wr row ((wr.alloc (.cells noZ 29)).setRow wr.heap.size row) :=
  ⟨(Blk.new wr 29 noZ).row row, below_row ((Below.refl _ _).alloc (Nat.le_refl _) _) (Nat.le_refl _) _⟩
set_option maxHeartbeats 1000000 in
set_option maxRecDepth 100000 in
theorem node_rightRef (k : Int) (d b : List UInt8) (A : Option Addr) (n c : Nat) (w : World) (hd : d.length = 32) (h : Bytes w w.heap.size A n c b) (hC : k = 1 → NodC b) :
    Calls Try.prog 16 #[.agg (refRow k d A n c)] w fun e w' => e = .returned (.bool (Nd.rightRef Nd.dec ⟨k, d, b⟩)) ∧ Below w.heap.size w w' := by
  have hlen := h.len
  have hb := Blk.new w 26 (refRow k d A n c)
  have hbe := (Below.refl w.heap.size w).alloc (Nat.le_refl _) (.cells (refRow k d A n c) 26)
  have hrg := hb.dig
  have g0 : (w.alloc (.cells (refRow k d A n c) 26)).cell? ⟨w.heap.size, 0, none⟩ = some (.int .i64 k) := (hb.cell 0).trans refRow_zero
  have g33 : (w.alloc (.cells (refRow k d A n c) 26)).cell? ⟨w.heap.size, 33, none⟩ = some (.slice A n c) := (hb.cell 33).trans (refRow_last hd)
  have heq := run_eql_zero d hd
  have h1 := h.alloc (Nat.le_refl _) (.cells (refRow k d A n c) 26)
  have hs0 : (w.alloc (.cells (refRow k d A n c) 26)).heap.size = w.heap.size + 1 := by simp
  have hrt : Nd.rightRef Nd.dec ⟨k, d, b⟩ = if k = 0 then decide (d = Nd.z32 ∧ b.length = 0) else if k = 2 then decide (b.length = 0) else if k = 1 then decide (d = Nd.z32 ∧ b.length < 32 ∧ (Nd.dec b).isSome = true) else false := rfl
  have hRf : ∀ W, Blk W w.heap.size 26 (refRow k d A n c) → W.rangeAt w.heap.size 1 (bv d) ∧ W.cell? ⟨w.heap.size, 33, none⟩ = some (.slice A n c) := fun W h => ⟨h.dig, (h.cell 33).trans (refRow_last hd)⟩
  generalize Nd.rightRef Nd.dec ⟨k, d, b⟩ = X at *
  generalize refRow k d A n c = R at *
  subst hlen
  replace hRf := Lib.hid hRf
  replace hb := Lib.hid hb
  replace hbe := Lib.hid hbe
  replace h := Lib.hid h
  replace hs0 := Lib.hid hs0
  replace h1 := Lib.hid h1
  by_cases hk0 : k = 0
  · rw [if_pos hk0] at hrt
    subst hk0
    replace hrt := Lib.hid hrt
    clear hC
    by_cases hz : d = Nd.z32
    · rw [decide_eq_true hz] at heq
      replace hz := Lib.hid hz
      go_enter Try.func16, Try.ntmps16
      go_wp2_with (refine wpList_mid_g (by rfl) 24 _ rfl w.heap.size 1 rfl (bv d) _ hrg Try.underlying24 rfl (by rw [bv_length, hd]; exact info_digest) ?_)
      go_ret
      exact ⟨ret_bool (by rw [hrt.out, Bool.eq_iff_iff]; simp [hz.out]), hbe.out⟩
    · rw [decide_eq_false hz] at heq
      replace hz := Lib.hid hz
      go_enter Try.func16, Try.ntmps16
      go_wp2_with (refine wpList_mid_g (by rfl) 24 _ rfl w.heap.size 1 rfl (bv d) _ hrg Try.underlying24 rfl (by rw [bv_length, hd]; exact info_digest) ?_)
      go_ret
      exact ⟨ret_bool (by rw [hrt.out, Bool.eq_iff_iff]; simp [hz.out]), hbe.out⟩
  by_cases hk2 : k = 2
  · rw [if_neg hk0, if_pos hk2] at hrt
    subst hk2
    replace hrt := Lib.hid hrt
    clear hC
    go_enter Try.func16, Try.ntmps16
    go_wp2_with fail
    go_ret
    exact ⟨ret_bool (by rw [hrt.out, Bool.eq_iff_iff]; simp), hbe.out⟩
  by_cases hk1 : k = 1
  · rw [if_neg hk0, if_neg hk2, if_pos hk1] at hrt
    have hcall := hC hk1 A b.length c _ (h1.out.more (by rw [hs0.out]; omega))
    subst hk1
    clear hC
    go_enter Try.func16, Try.ntmps16
    go_wp2_with fail
    refine hcall.mono ?_
    intro e w2 hq
    obtain ⟨cs, rfl, hcl, hone, hc0, hbe2⟩ := hq.rows
    have hs0' := hs0.out
    have hb2 := hb.out.below hbe2 (by omega)
    have hbw := hbe.out.trans (hbe2.mono (by omega))
    have hlt := hb2.lt
    have hst := node_stored (wr := w2) cs.toArray
    have hcs := Lib.hid (show cs.toArray.size = 38 by simp [hcl])
    clear hcall hq hbe2 hrg g0 g33
    replace hst := Lib.hid hst
    replace hbw := Lib.hid hbw
    replace hc0 := Lib.hid hc0
    replace hb2 := Lib.hid hb2
    cases hsome : (Nd.dec b).isSome with
    | false =>
      rw [hsome] at hrt
      replace hrt := Lib.hid hrt
      clear hsome
      by_cases hz : d = Nd.z32
      · rw [decide_eq_true hz] at heq
        replace hz := Lib.hid hz
        by_cases hl : b.length < 32
        · have hl' :  (b.length : Int) < 32 := by omega
          replace hl := Lib.hid hl
          go_wp2_with (first
            | (refine wpList_store_row rfl 29 _ _ rfl w2.heap.size cs.toArray rfl rfl _ _ (Blk.new w2 29 noZ) (by rw [hcs.out]; exact info_node) (by rw [hcs.out]; rfl) (by simpa using hone) ?_; refine list_at (NodS w2 _) hst.out ?_; intro w3 hI3; have hb3 := hb2.out.below hI3.bel hlt; have hrg3 := (hRf.out w3 hb3).1; have g33 := (hRf.out w3 hb3).2; replace hb3 := Lib.hid hb3; replace hI3 := Lib.hid hI3)
            | (refine wpList_mid_g (by rfl) 24 _ rfl w.heap.size 1 rfl (bv d) _ hrg3 Try.underlying24 rfl (by rw [bv_length, hd]; exact info_digest) ?_))
          go_ret
          exact ⟨ret_bool (by rw [hrt.out, Bool.eq_iff_iff]; simp [hz.out, hl.out]), hbw.out.trans (hI3.out.bel.mono hbw.out.size)⟩
        · have hl' : ¬ (b.length : Int) < 32 := by omega
          replace hl := Lib.hid hl
          go_wp2_with (first
            | (refine wpList_store_row rfl 29 _ _ rfl w2.heap.size cs.toArray rfl rfl _ _ (Blk.new w2 29 noZ) (by rw [hcs.out]; exact info_node) (by rw [hcs.out]; rfl) (by simpa using hone) ?_; refine list_at (NodS w2 _) hst.out ?_; intro w3 hI3; have hb3 := hb2.out.below hI3.bel hlt; have hrg3 := (hRf.out w3 hb3).1; have g33 := (hRf.out w3 hb3).2; replace hb3 := Lib.hid hb3; replace hI3 := Lib.hid hI3)
            | (refine wpList_mid_g (by rfl) 24 _ rfl w.heap.size 1 rfl (bv d) _ hrg3 Try.underlying24 rfl (by rw [bv_length, hd]; exact info_digest) ?_))
          go_ret
          exact ⟨ret_bool (by rw [hrt.out, Bool.eq_iff_iff]; simp [hz.out, hl.out]), hbw.out.trans (hI3.out.bel.mono hbw.out.size)⟩
      · rw [decide_eq_false hz] at heq
        replace hz := Lib.hid hz
        by_cases hl : b.length < 32
        · have hl' :  (b.length : Int) < 32 := by omega
          replace hl := Lib.hid hl
          go_wp2_with (first
            | (refine wpList_store_row rfl 29 _ _ rfl w2.heap.size cs.toArray rfl rfl _ _ (Blk.new w2 29 noZ) (by rw [hcs.out]; exact info_node) (by rw [hcs.out]; rfl) (by simpa using hone) ?_; refine list_at (NodS w2 _) hst.out ?_; intro w3 hI3; have hb3 := hb2.out.below hI3.bel hlt; have hrg3 := (hRf.out w3 hb3).1; have g33 := (hRf.out w3 hb3).2; replace hb3 := Lib.hid hb3; replace hI3 := Lib.hid hI3)
            | (refine wpList_mid_g (by rfl) 24 _ rfl w.heap.size 1 rfl (bv d) _ hrg3 Try.underlying24 rfl (by rw [bv_length, hd]; exact info_digest) ?_))
          go_ret
          exact ⟨ret_bool (by rw [hrt.out, Bool.eq_iff_iff]; simp [hz.out, hl.out]), hbw.out.trans (hI3.out.bel.mono hbw.out.size)⟩
        · have hl' : ¬ (b.length : Int) < 32 := by omega
          replace hl := Lib.hid hl
          go_wp2_with (first
            | (refine wpList_store_row rfl 29 _ _ rfl w2.heap.size cs.toArray rfl rfl _ _ (Blk.new w2 29 noZ) (by rw [hcs.out]; exact info_node) (by rw [hcs.out]; rfl) (by simpa using hone) ?_; refine list_at (NodS w2 _) hst.out ?_; intro w3 hI3; have hb3 := hb2.out.below hI3.bel hlt; have hrg3 := (hRf.out w3 hb3).1; have g33 := (hRf.out w3 hb3).2; replace hb3 := Lib.hid hb3; replace hI3 := Lib.hid hI3)
            | (refine wpList_mid_g (by rfl) 24 _ rfl w.heap.size 1 rfl (bv d) _ hrg3 Try.underlying24 rfl (by rw [bv_length, hd]; exact info_digest) ?_))
          go_ret
          exact ⟨ret_bool (by rw [hrt.out, Bool.eq_iff_iff]; simp [hz.out, hl.out]), hbw.out.trans (hI3.out.bel.mono hbw.out.size)⟩
    | true =>
      rw [hsome] at hrt
      replace hrt := Lib.hid hrt
      clear hsome
      by_cases hz : d = Nd.z32
      · rw [decide_eq_true hz] at heq
        replace hz := Lib.hid hz
        by_cases hl : b.length < 32
        · have hl' :  (b.length : Int) < 32 := by omega
          replace hl := Lib.hid hl
          go_wp2_with (first
            | (refine wpList_store_row rfl 29 _ _ rfl w2.heap.size cs.toArray rfl rfl _ _ (Blk.new w2 29 noZ) (by rw [hcs.out]; exact info_node) (by rw [hcs.out]; rfl) (by simpa using hone) ?_; refine list_at (NodS w2 _) hst.out ?_; intro w3 hI3; have hb3 := hb2.out.below hI3.bel hlt; have hrg3 := (hRf.out w3 hb3).1; have g33 := (hRf.out w3 hb3).2; replace hb3 := Lib.hid hb3; replace hI3 := Lib.hid hI3)
            | (refine wpList_mid_g (by rfl) 24 _ rfl w.heap.size 1 rfl (bv d) _ hrg3 Try.underlying24 rfl (by rw [bv_length, hd]; exact info_digest) ?_))
          go_ret
          exact ⟨ret_bool (by rw [hrt.out, Bool.eq_iff_iff]; simp [hz.out, hl.out]), hbw.out.trans (hI3.out.bel.mono hbw.out.size)⟩
        · have hl' : ¬ (b.length : Int) < 32 := by omega
          replace hl := Lib.hid hl
          go_wp2_with (first
            | (refine wpList_store_row rfl 29 _ _ rfl w2.heap.size cs.toArray rfl rfl _ _ (Blk.new w2 29 noZ) (by rw [hcs.out]; exact info_node) (by rw [hcs.out]; rfl) (by simpa using hone) ?_; refine list_at (NodS w2 _) hst.out ?_; intro w3 hI3; have hb3 := hb2.out.below hI3.bel hlt; have hrg3 := (hRf.out w3 hb3).1; have g33 := (hRf.out w3 hb3).2; replace hb3 := Lib.hid hb3; replace hI3 := Lib.hid hI3)
            | (refine wpList_mid_g (by rfl) 24 _ rfl w.heap.size 1 rfl (bv d) _ hrg3 Try.underlying24 rfl (by rw [bv_length, hd]; exact info_digest) ?_))
          go_ret
          exact ⟨ret_bool (by rw [hrt.out, Bool.eq_iff_iff]; simp [hz.out, hl.out]), hbw.out.trans (hI3.out.bel.mono hbw.out.size)⟩
      · rw [decide_eq_false hz] at heq
        replace hz := Lib.hid hz
        by_cases hl : b.length < 32
        · have hl' :  (b.length : Int) < 32 := by omega
          replace hl := Lib.hid hl
          go_wp2_with (first
            | (refine wpList_store_row rfl 29 _ _ rfl w2.heap.size cs.toArray rfl rfl _ _ (Blk.new w2 29 noZ) (by rw [hcs.out]; exact info_node) (by rw [hcs.out]; rfl) (by simpa using hone) ?_; refine list_at (NodS w2 _) hst.out ?_; intro w3 hI3; have hb3 := hb2.out.below hI3.bel hlt; have hrg3 := (hRf.out w3 hb3).1; have g33 := (hRf.out w3 hb3).2; replace hb3 := Lib.hid hb3; replace hI3 := Lib.hid hI3)
            | (refine wpList_mid_g (by rfl) 24 _ rfl w.heap.size 1 rfl (bv d) _ hrg3 Try.underlying24 rfl (by rw [bv_length, hd]; exact info_digest) ?_))
          go_ret
          exact ⟨ret_bool (by rw [hrt.out, Bool.eq_iff_iff]; simp [hz.out, hl.out]), hbw.out.trans (hI3.out.bel.mono hbw.out.size)⟩
        · have hl' : ¬ (b.length : Int) < 32 := by omega
          replace hl := Lib.hid hl
          go_wp2_with (first
            | (refine wpList_store_row rfl 29 _ _ rfl w2.heap.size cs.toArray rfl rfl _ _ (Blk.new w2 29 noZ) (by rw [hcs.out]; exact info_node) (by rw [hcs.out]; rfl) (by simpa using hone) ?_; refine list_at (NodS w2 _) hst.out ?_; intro w3 hI3; have hb3 := hb2.out.below hI3.bel hlt; have hrg3 := (hRf.out w3 hb3).1; have g33 := (hRf.out w3 hb3).2; replace hb3 := Lib.hid hb3; replace hI3 := Lib.hid hI3)
            | (refine wpList_mid_g (by rfl) 24 _ rfl w.heap.size 1 rfl (bv d) _ hrg3 Try.underlying24 rfl (by rw [bv_length, hd]; exact info_digest) ?_))
          go_ret
          exact ⟨ret_bool (by rw [hrt.out, Bool.eq_iff_iff]; simp [hz.out, hl.out]), hbw.out.trans (hI3.out.bel.mono hbw.out.size)⟩
  · rw [if_neg hk0, if_neg hk2, if_neg hk1] at hrt
    replace hrt := Lib.hid hrt
    clear hC
    go_enter Try.func16, Try.ntmps16
    go_wp2_with fail
    go_ret
    exact ⟨ret_bool hrt.out.symm, hbe.out⟩
set_option maxHeartbeats 1000000 in
set_option maxRecDepth 100000 in
theorem node_branchOf (k : Int) (d b : List UInt8) (A : Option Addr) (n c : Nat) (w : World) (hd : d.length = 32) (h : Bytes w w.heap.size A n c b) (hC : k = 1 → NodC b) :
    Calls Try.prog 17 #[.agg (refRow k d A n c)] w fun e w' => e = .returned (.bool (Nd.branchOf Nd.dec ⟨k, d, b⟩)) ∧ Below w.heap.size w w' := by
  have hlen := h.len
  have hb := Blk.new w 26 (refRow k d A n c)
  have hbe := (Below.refl w.heap.size w).alloc (Nat.le_refl _) (.cells (refRow k d A n c) 26)
  have g0 : (w.alloc (.cells (refRow k d A n c) 26)).cell? ⟨w.heap.size, 0, none⟩ = some (.int .i64 k) := (hb.cell 0).trans refRow_zero
  have g33 : (w.alloc (.cells (refRow k d A n c) 26)).cell? ⟨w.heap.size, 33, none⟩ = some (.slice A n c) := (hb.cell 33).trans (refRow_last hd)
  have h1 := h.alloc (Nat.le_refl _) (.cells (refRow k d A n c) 26)
  have hs0 : (w.alloc (.cells (refRow k d A n c) 26)).heap.size = w.heap.size + 1 := by simp
  have hrt : Nd.branchOf Nd.dec ⟨k, d, b⟩ = if k = 1 then decide (((Nd.dec b).getD Nd.no0).kind = 3) else decide (k = 2) := rfl
  generalize Nd.branchOf Nd.dec ⟨k, d, b⟩ = X at *
  generalize refRow k d A n c = R at *
  subst hlen
  replace hb := Lib.hid hb
  replace hbe := Lib.hid hbe
  replace h := Lib.hid h
  replace hs0 := Lib.hid hs0
  replace h1 := Lib.hid h1
  by_cases hk1 : k = 1
  · rw [if_pos hk1] at hrt
    have hcall := hC hk1 A b.length c _ (h1.out.more (by rw [hs0.out]; omega))
    subst hk1
    clear hC
    go_enter Try.func17, Try.ntmps17
    go_wp2_with fail
    refine hcall.mono ?_
    intro e w2 hq
    obtain ⟨cs, rfl, hcl, hone, hc0, hbe2⟩ := hq.rows
    have hbw := hbe.out.trans (hbe2.mono (by have := hs0.out; omega))
    have hst := node_stored (wr := w2) cs.toArray
    have hcs := Lib.hid (show cs.toArray.size = 38 by simp [hcl])
    clear hcall hq hbe2 g0 g33
    replace hst := Lib.hid hst
    replace hbw := Lib.hid hbw
    generalize ((Nd.dec b).getD Nd.no0).kind = kk at *
    generalize (if (Nd.dec b).isSome = true then (0 : Int) else 50) = code at *
    replace hrt := Lib.hid hrt
    replace hc0 := Lib.hid hc0
    go_wp2_with (refine wpList_store_row rfl 29 _ _ rfl w2.heap.size cs.toArray rfl rfl _ _ (Blk.new w2 29 noZ) (by rw [hcs.out]; exact info_node) (by rw [hcs.out]; rfl) (by simpa using hone) ?_; refine list_at (NodS w2 _) hst.out ?_; intro w3 hI3; have k0 : w3.cell? ⟨w2.heap.size, 0, none⟩ = some (.int .i64 kk) := (hI3.it.cell 0).trans (by rw [List.getElem?_toArray]; exact hc0.out); replace hI3 := Lib.hid hI3)
    go_ret
    exact ⟨ret_bool (by rw [hrt.out, Bool.eq_iff_iff]; simp), hbw.out.trans (hI3.out.bel.mono hbw.out.size)⟩
  · rw [if_neg hk1] at hrt
    replace hrt := Lib.hid hrt
    clear hC
    go_enter Try.func17, Try.ntmps17
    go_wp2_with fail
    go_ret
    exact ⟨ret_bool (by rw [hrt.out, Bool.eq_iff_iff]; simp), hbe.out⟩
end Go.Proofs.YtahaaeenbahknaaRRRR
