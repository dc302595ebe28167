/-
  The laws of chapter 18 that take bytes: ReceiptDecodes, ReceiptOnly.
-/
import Derived.Test.YtcpnfllekpekgaaLaw18
import Derived.Test.YtcpnfllekpekgaaWrap
namespace Go.Proofs.Ytcpnfllekpekgaa
open Go.RowKit

theorem rcOut_form (x : Option Rc) : ∃ (s : Int) (g r m : Nat) (k : Int), rcOut x = .tuple #[.agg #[.int .i64 s, .int .u64 g, .int .u64 r, .int .u64 m], .int .i64 k] := by
  cases x with
  | none => exact ⟨0, 0, 0, 0, 180, rfl⟩
  | some x => exact ⟨x.s, x.g, x.r, x.m, 0, rfl⟩
set_option maxHeartbeats 1000000 in
set_option maxRecDepth 100000 in
theorem law_ReceiptDecodes (A : Option Addr) (n c : Nat) (l : List UInt8) (w : World) (h : Bytes w w.heap.size A n c l) : Calls Try.prog 4 #[.slice A n c] w (PostT w) := by
  have h1 := receipt_Decode A n c l w h
  obtain ⟨s, g, r, m, k, hv⟩ := rcOut_form (Rc.dec l)
  have h2 := fun w' (hb : Below w.heap.size w w') => ref_Decode18 A n c l w' ((h.below hb).more hb.size)
  rw [Rc.ref_dec, hv] at h2
  rw [hv] at h1
  clear hv h
  replace h2 := Lib.hid h2
  go_enter Try.func4, Try.ntmps4
  go_wp2_with fail
  refine h1.mono ?_
  rintro e w1 ⟨rfl, hb1⟩
  have hst := gas_stored (wr := w1) #[.int .i64 s, .int .u64 g, .int .u64 r, .int .u64 m]
  clear h1
  replace hst := Lib.hid hst
  replace hb1 := Lib.hid hb1
  go_wp2_with (first
    | (refine wpList_store_row rfl 24 _ _ rfl w1.heap.size #[.int .i64 s, .int .u64 g, .int .u64 r, .int .u64 m] rfl rfl _ _ (Blk.new w1 24 rcZ) info_receipt rfl (by simp [Value.oneCell']) ?_; refine list_at (GasI w1 _) hst.out ?_; intro w2 hI2; replace hI2 := Lib.hid hI2)
    | fail)
  have hb2 := hb1.out.trans (hI2.out.bel.mono hb1.out.size)
  refine (h2.out w2 hb2).mono ?_
  rintro e w3 ⟨rfl, hb3⟩
  have hX3 := hI2.out.it.below hb3 hI2.out.it.lt
  have hb3w := hb2.trans (hb3.mono hb2.size)
  have hst3 := gas_stored (wr := w3) #[.int .i64 s, .int .u64 g, .int .u64 r, .int .u64 m]
  have hlt3 : w1.heap.size < w3.heap.size := hX3.lt
  clear h2 hst hI2 hb2 hb3 hb1
  replace hst3 := Lib.hid hst3
  replace hX3 := Lib.hid hX3
  replace hb3w := Lib.hid hb3w
  go_wp2_with (first
    | (refine wpList_store_row rfl 24 _ _ rfl w3.heap.size #[.int .i64 s, .int .u64 g, .int .u64 r, .int .u64 m] rfl rfl _ _ (Blk.new w3 24 rcZ) info_receipt rfl (by simp [Value.oneCell']) ?_; refine list_at (GasI w3 _) hst3.out ?_; intro w4 hI4; replace hI4 := Lib.hid hI4)
    | fail)
  have hX4 := hX3.out.below hI4.out.bel hlt3
  have hb4 := hb3w.out.trans (hI4.out.bel.mono hb3w.out.size)
  refine (law_alive w4).mono ?_
  rintro e w5 ⟨rfl, hb5⟩
  have hX5 := hX4.below hb5 hX4.lt
  have hY5 := hI4.out.it.below hb5 hI4.out.it.lt
  have hb5w := hb4.trans (hb5.mono hb4.size)
  clear hX4 hb4 hb5 hI4 hst3 hX3 hb3w
  have c0 : w5.cell? ⟨w1.heap.size, 0, none⟩ = some (.int .i64 s) := hX5.cell 0
  have c1 : w5.cell? ⟨w1.heap.size, 1, none⟩ = some (.int .u64 g) := hX5.cell 1
  have c2 : w5.cell? ⟨w1.heap.size, 2, none⟩ = some (.int .u64 r) := hX5.cell 2
  have c3 : w5.cell? ⟨w1.heap.size, 3, none⟩ = some (.int .u64 m) := hX5.cell 3
  have d0 : w5.cell? ⟨w3.heap.size, 0, none⟩ = some (.int .i64 s) := hY5.cell 0
  have d1 : w5.cell? ⟨w3.heap.size, 1, none⟩ = some (.int .u64 g) := hY5.cell 1
  have d2 : w5.cell? ⟨w3.heap.size, 2, none⟩ = some (.int .u64 r) := hY5.cell 2
  have d3 : w5.cell? ⟨w3.heap.size, 3, none⟩ = some (.int .u64 m) := hY5.cell 3
  replace hX5 := Lib.hid hX5
  replace hY5 := Lib.hid hY5
  replace hb5w := Lib.hid hb5w
  go_wp2_with fail
  go_ret
  exact ⟨ret_bool (by simp), hb5w.out⟩
set_option maxHeartbeats 1000000 in
set_option maxRecDepth 100000 in
theorem law_ReceiptOnly (A : Option Addr) (n c : Nat) (l : List UInt8) (w : World) (h : Bytes w w.heap.size A n c l) : Calls Try.prog 6 #[.slice A n c] w (PostT w) := by
  have h1 := receipt_Decode A n c l w h
  cases hdec : Rc.dec l with
  | none =>
    rw [hdec] at h1
    unfold rcOut rcZ at h1
    clear hdec h
    go_enter Try.func6, Try.ntmps6
    go_wp2_with fail
    refine h1.mono ?_
    rintro e w1 ⟨rfl, hb1⟩
    have hst := gas_stored (wr := w1) #[.int .i64 0, .int .u64 0, .int .u64 0, .int .u64 0]
    clear h1
    replace hst := Lib.hid hst
    replace hb1 := Lib.hid hb1
    go_wp2_with (first
      | (refine wpList_store_row rfl 24 _ _ rfl w1.heap.size #[.int .i64 0, .int .u64 0, .int .u64 0, .int .u64 0] rfl rfl _ _ (Blk.new w1 24 rcZ) info_receipt rfl (by simp [Value.oneCell']) ?_; refine list_at (GasI w1 _) hst.out ?_; intro w2 hI2; replace hI2 := Lib.hid hI2)
      | fail)
    refine (law_alive w2).mono ?_
    rintro e w5 ⟨rfl, hb5⟩
    have hX5 := hI2.out.it.below hb5 hI2.out.it.lt
    have hb2 := hb1.out.trans (hI2.out.bel.mono hb1.out.size)
    have hb5w := hb2.trans (hb5.mono hb2.size)
    clear hb2 hb5 hI2 hst hb1
    have c0 : w5.cell? ⟨w1.heap.size, 0, none⟩ = some (.int .i64 0) := hX5.cell 0
    have c1 : w5.cell? ⟨w1.heap.size, 1, none⟩ = some (.int .u64 0) := hX5.cell 1
    have c2 : w5.cell? ⟨w1.heap.size, 2, none⟩ = some (.int .u64 0) := hX5.cell 2
    have c3 : w5.cell? ⟨w1.heap.size, 3, none⟩ = some (.int .u64 0) := hX5.cell 3
    replace hX5 := Lib.hid hX5
    replace hb5w := Lib.hid hb5w
    go_wp2_with fail
    go_ret
    exact ⟨ret_bool (by simp), hb5w.out⟩
  | some x =>
    obtain ⟨hreal, hr, hbx⟩ := Rc.dec_some hdec
    rw [hdec] at h1
    unfold rcOut Rc.row at h1
    have hE := receipt_Encode x hreal
    have hRt := receipt_Right x
    rw [hr] at hRt
    obtain ⟨s, g, r, m⟩ := x
    unfold Rc.val at hE hRt
    have hE2 : ∀ w', Calls Try.prog 7 #[.agg #[.int .i64 s, .int .u64 g, .int .u64 r, .int .u64 m]] w' (PostBe w' l 0) := by
      intro w'
      have := hE w'
      rw [if_pos hr, hbx] at this
      exact this
    clear hdec hreal hr hbx hE
    replace hE2 := Lib.hid hE2
    replace hRt := Lib.hid hRt
    replace h := Lib.hid h
    simp only at h1
    go_enter Try.func6, Try.ntmps6
    go_wp2_with fail
    refine h1.mono ?_
    rintro e w1 ⟨rfl, hb1⟩
    have hst := gas_stored (wr := w1) #[.int .i64 s, .int .u64 g, .int .u64 r, .int .u64 m]
    clear h1
    replace hst := Lib.hid hst
    replace hb1 := Lib.hid hb1
    go_wp2_with (first
      | (refine wpList_store_row rfl 24 _ _ rfl w1.heap.size #[.int .i64 s, .int .u64 g, .int .u64 r, .int .u64 m] rfl rfl _ _ (Blk.new w1 24 rcZ) info_receipt rfl (by simp [Value.oneCell']) ?_; refine list_at (GasI w1 _) hst.out ?_; intro w2 hI2; replace hI2 := Lib.hid hI2)
      | (refine wpList_load_row rfl 24 _ rfl w1.heap.size rfl _ _ _ _ hI2.out.it Try.underlying24 rfl info_receipt ?_)
      | fail)
    refine (hE2.out w2).mono ?_
    rintro e w3 ⟨A3, n3, c3, rfl, hN3⟩
    have hb2 := hb1.out.trans (hI2.out.bel.mono hb1.out.size)
    have hX3 := hI2.out.it.below hN3.2.2 hI2.out.it.lt
    have hb3 := hb2.trans (hN3.2.2.mono hb2.size)
    have hby3 := hN3.bytes
    clear hE2 hN3 hI2 hst hb1 hb2
    replace hX3 := Lib.hid hX3
    replace hb3 := Lib.hid hb3
    replace hby3 := Lib.hid hby3
    go_wp2_with fail
    refine (law_alive w3).mono ?_
    rintro e w4 ⟨rfl, hb4⟩
    have hX4 := hX3.out.below hb4 hX3.out.lt
    have hb4w := hb3.out.trans (hb4.mono hb3.out.size)
    have hby4 := hby3.out.below hb4
    have hh4 := h.out.below hb4w
    have hsm := law_same l l A A3 n n3 c c3 _ _ w4 hh4 hby4
    rw [decide_eq_true (rfl : l = l)] at hsm
    have c0 : w4.cell? ⟨w1.heap.size, 0, none⟩ = some (.int .i64 s) := hX4.cell 0
    have c1 : w4.cell? ⟨w1.heap.size, 1, none⟩ = some (.int .u64 g) := hX4.cell 1
    have c2 : w4.cell? ⟨w1.heap.size, 2, none⟩ = some (.int .u64 r) := hX4.cell 2
    have c3' : w4.cell? ⟨w1.heap.size, 3, none⟩ = some (.int .u64 m) := hX4.cell 3
    clear hX3 hb3 hby3 hb4 hby4 hh4
    replace hX4 := Lib.hid hX4
    replace hb4w := Lib.hid hb4w
    go_wp2_with fail
    refine hsm.mono ?_
    rintro e w5 ⟨rfl, rfl⟩
    clear hsm
    go_wp2_with fail
    refine (hRt.out w4).mono ?_
    rintro e w6 ⟨rfl, hb6⟩
    have hb6w := Lib.hid (hb4w.out.trans (hb6.mono hb4w.out.size))
    clear hb6
    go_wp2_with fail
    go_ret
    exact ⟨rfl, hb6w.out⟩
end Go.Proofs.Ytcpnfllekpekgaa
