/-
  The law's own functions of chapter 18: same, alive.
-/
import Derived.Test.YtcpnfllekpekgaaRe2
import Derived.Test.YtcpnfllekpekgaaGa1
namespace Go.Proofs.Ytcpnfllekpekgaa
open Go.RowKit

theorem law_same (p q : List UInt8) (A A' : Option Addr) (n n' c c' B B' : Nat) (w : World) (h : Bytes w B A n c p) (h' : Bytes w B' A' n' c' q) :
    Calls Try.prog 10 #[.slice A n c, .slice A' n' c'] w fun e w' => e = .returned (.bool (decide (p = q))) ∧ w = w' := by
  have h1 := h.toStr (P := Try.prog) Try.underlying25 Try.underlying5 9 Try.underlying9
  have h2 := h'.toStr (P := Try.prog) Try.underlying25 Try.underlying5 9 Try.underlying9
  go_enter Try.func10, Try.ntmps10
  go_wp2
  go_ret
  exact ⟨ret_bool (by rw [Bool.eq_iff_iff]; simp [ByteArray.ext_iff]), rfl⟩
theorem alive_bytes : (Rc.mk 1 300 1 0).bytes = [198, 1, 130, 1, 44, 1, 128] := by kernel_rfl
theorem alive_dec : Rc.dec [196, 128, 100, 128, 128] = some ⟨0, 100, 0, 0⟩ := by kernel_rfl
theorem alive_gas : gasOf [⟨0, 100, 0, 0⟩, ⟨0, 100, 0, 0⟩] 0 = some 200 := by kernel_rfl
set_option maxHeartbeats 1000000 in
set_option maxRecDepth 100000 in
theorem law_alive (w : World) : Calls Try.prog 9 #[] w fun e w' => e = .returned (.bool true) ∧ Below w.heap.size w w' := by
  have h1 := receipt_Encode ⟨1, 300, 1, 0⟩ ⟨by decide, by decide, by decide⟩ w
  rw [if_pos (by rfl), alive_bytes] at h1
  unfold Rc.val at h1
  go_enter Try.func9, Try.ntmps9
  go_wp2_with fail
  refine h1.mono ?_
  rintro e w1 ⟨A1, n1, c1, rfl, hN1⟩
  have hlit := Bytes.lit w1 #[.int .u8 196, .int .u8 128, .int .u8 100, .int .u8 128, .int .u8 128] [196, 128, 100, 128, 128] 5 (by rfl) (by simp [maxLen]) (n := 5) rfl
  have h2 := receipt_Decode _ 5 5 _ (w1.alloc (.cells #[.int .u8 196, .int .u8 128, .int .u8 100, .int .u8 128, .int .u8 128] 5)) (hlit.more (by simp))
  rw [alive_dec] at h2
  unfold rcOut Rc.row at h2
  have hb1 := hN1.2.2.alloc hN1.2.2.size (.cells #[.int .u8 196, .int .u8 128, .int .u8 100, .int .u8 128, .int .u8 128] 5)
  have hby := hN1.bytes
  have hby2 := (hby.alloc (Nat.le_refl _) (.cells #[.int .u8 196, .int .u8 128, .int .u8 100, .int .u8 128, .int .u8 128] 5)).more (show w1.heap.size ≤ (w1.alloc (.cells #[.int .u8 196, .int .u8 128, .int .u8 100, .int .u8 128, .int .u8 128] 5)).heap.size by simp)
  clear h1 hN1 hlit hby
  replace hb1 := Lib.hid hb1
  replace hby2 := Lib.hid hby2
  go_wp2_with fail
  refine h2.mono ?_
  rintro e w2 ⟨rfl, hbe2⟩
  have hb2 := hb1.out.trans (hbe2.mono hb1.out.size)
  have hby3 := hby2.out.step hbe2
  have hst := gas_stored (wr := w2) #[.int .i64 0, .int .u64 100, .int .u64 0, .int .u64 0]
  clear h2 hbe2 hb1 hby2
  replace hb2 := Lib.hid hb2
  replace hby3 := Lib.hid hby3
  replace hst := Lib.hid hst
  go_wp2_with (first
    | (refine wpList_store_row rfl 24 _ _ rfl w2.heap.size #[.int .i64 0, .int .u64 100, .int .u64 0, .int .u64 0] rfl rfl _ _ (Blk.new w2 24 rcZ) info_receipt rfl (by simp [Value.oneCell']) ?_; refine list_at (GasI w2 _) hst.out ?_; intro w3 hI3; replace hI3 := Lib.hid hI3)
    | (refine wpList_load_row rfl 24 _ rfl w2.heap.size rfl _ _ _ _ hI3.out.it Try.underlying24 rfl info_receipt ?_)
    | fail)
  have hrd : Reads (w3.alloc (.cells #[.int .i64 0, .int .u64 100, .int .u64 0, .int .u64 0, .int .i64 0, .int .u64 100, .int .u64 0, .int .u64 0] 24)) (w3.heap.size + 1) 4 (some ⟨w3.heap.size, 0, none⟩) 2 (rcv [⟨0, 100, 0, 0⟩, ⟨0, 100, 0, 0⟩]) :=
    ⟨rfl, fun _ => ⟨w3.heap.size, 0, rfl, by omega, fun j u hu => by rw [Nat.zero_add, cell_of_row _ _ j #[.int .i64 0, .int .u64 100, .int .u64 0, .int .u64 0, .int .i64 0, .int .u64 100, .int .u64 0, .int .u64 0] 24 (0, 0) (heap_alloc_new w3 _), ← Array.getElem?_toList]; exact hu⟩⟩
  have h3 := receipt_Gas _ 2 2 _ [⟨0, 100, 0, 0⟩, ⟨0, 100, 0, 0⟩] _ hrd (by simp) rfl (by unfold maxLen; omega) (by
    intro r hr
    simp only [List.mem_cons, List.not_mem_nil, or_false, or_self] at hr
    subst hr
    exact ⟨by decide, by decide, by decide⟩)
  rw [alive_gas] at h3
  unfold gasV at h3
  have hl3 : w2.heap.size < w3.heap.size := hI3.out.it.lt
  have hb3 := (hb2.out.trans (hI3.out.bel.mono hb2.out.size)).alloc (by have := hb2.out.size; omega) (.cells #[.int .i64 0, .int .u64 100, .int .u64 0, .int .u64 0, .int .i64 0, .int .u64 100, .int .u64 0, .int .u64 0] 24)
  have hX3 := hI3.out.it.alloc (.cells #[.int .i64 0, .int .u64 100, .int .u64 0, .int .u64 0, .int .i64 0, .int .u64 100, .int .u64 0, .int .u64 0] 24)
  have hby4 := ((hby3.out.step hI3.out.bel).alloc (Nat.le_refl _) (.cells #[.int .i64 0, .int .u64 100, .int .u64 0, .int .u64 0, .int .i64 0, .int .u64 100, .int .u64 0, .int .u64 0] 24)).more (show w3.heap.size ≤ (w3.alloc (.cells #[.int .i64 0, .int .u64 100, .int .u64 0, .int .u64 0, .int .i64 0, .int .u64 100, .int .u64 0, .int .u64 0] 24)).heap.size by simp)
  clear hrd hst
  replace hb3 := Lib.hid hb3
  replace hX3 := Lib.hid hX3
  replace hby4 := Lib.hid hby4
  refine h3.mono ?_
  rintro e w5 ⟨rfl, hbe5⟩
  have hb5 := hb3.out.trans (hbe5.mono hb3.out.size)
  have hX5 := hX3.out.below hbe5 hX3.out.lt
  have hby5 := hby4.out.step hbe5
  have hstr := hby5.toStr (P := Try.prog) Try.underlying25 Try.underlying5 9 Try.underlying9
  clear h3 hbe5 hX3 hby4 hby5
  replace hb5 := Lib.hid hb5
  have c0 : w5.cell? ⟨w2.heap.size, 0, none⟩ = some (.int .i64 0) := hX5.cell 0
  have c1 : w5.cell? ⟨w2.heap.size, 1, none⟩ = some (.int .u64 100) := hX5.cell 1
  have c2 : w5.cell? ⟨w2.heap.size, 2, none⟩ = some (.int .u64 0) := hX5.cell 2
  have c3 : w5.cell? ⟨w2.heap.size, 3, none⟩ = some (.int .u64 0) := hX5.cell 3
  replace hX5 := Lib.hid hX5
  go_wp2_with fail
  go_ret
  exact ⟨rfl, hb5.out⟩
end Go.Proofs.Ytcpnfllekpekgaa
