import Derived.Test.YtioanppnkhiokaaDig5
namespace Go.Proofs.Ytioanppnkhiokaa
open Go.RowKit

/-- a cell for a digest is there -/
def DigCell (w : World) (B : Nat) (A : Option Addr) (n c : Nat) (l : List UInt8) (wr : World) : Prop := Blk wr B 30 (row32 zero32) ∧ Bytes wr w.heap.size A n c l ∧ Below w.heap.size w wr
set_option maxRecDepth 100000 in
set_option maxHeartbeats 1000000 in
theorem dig_Of (l : List UInt8) (A : Option Addr) (n c : Nat) (w : World) (h : Bytes w w.heap.size A n c l) (hl : l.length ≤ 140737488355328) :
    Calls Try.prog 27 #[.slice A n c] w fun e w' => e = .returned (digV (Dig.of l)) ∧ Below w.heap.size w w' := by
  have hr := Dig.of_rest l
  replace hr := Lib.hid hr
  replace h := Lib.hid h
  go_enter Try.func27, Try.ntmps27
  go_wp2_with fail
  refine calls_at (DigCell w w.heap.size A n c l) ⟨Blk.zeros _ _ _ rfl, h.out.alloc (Nat.le_refl _) _, (Below.refl _ _).alloc (Nat.le_refl _) _⟩ ?_
  rintro w0 ⟨hd, hb, hB⟩
  clear h
  refine (dig_New _).mono ?_
  rintro e w1 ⟨H, rfl, hHs, hH, hb1⟩
  have hd0 := hd.lt
  replace hd := Lib.hid (hd.below hb1 hd0)
  replace hb := Lib.hid (hb.below (hb1.mono (by omega)))
  replace hB := Lib.hid (hB.trans (hb1.mono (by omega)))
  clear hb1
  replace hH := Lib.hid hH
  go_wp2_with fail
  refine (dig_Write l A n c w.heap.size H _ hb.out (by omega) hH.out hl).mono ?_
  rintro e w2 ⟨A', m', c', rfl, hH2, ho2, hb2⟩
  have hHs1 := hH.out.lt
  have hs2 := hb2.size
  have hm' : m' = (l.drop (32 * (l.length / 32))).length := by have := ho2.len; rwa [bv_length, Nat.mul_one, eq_comm] at this
  have hbr : Bytes w2 w2.heap.size A' m' c' (l.drop (32 * (l.length / 32))) := ⟨hm', ho2.cap, ho2.lim, ho2.reads⟩
  replace hm' := Lib.hid hm'
  replace hd := Lib.hid (hd.out.below hb2 (by omega))
  replace hB := Lib.hid (hB.out.trans (hb2.mono (by omega)))
  clear hb2 ho2
  replace hbr := Lib.hid hbr
  replace hH2 := Lib.hid hH2
  clear hb hH
  go_wp2_with fail
  refine (dig_Sum _ _ A' m' c' l.length H _ hH2.out hbr.out (by rw [List.length_drop]; omega) hl).mono ?_
  rintro e w3 ⟨rfl, hb3⟩
  rw [← hr.out]
  have ho := Dig.of_length l
  generalize hDD : Dig.of l = D at *
  have HD := Lib.hid hDD
  clear hDD
  have hdl := hd.out.lt
  replace hd := Lib.hid (hd.out.below hb3 hdl)
  replace hB := Lib.hid (hB.out.trans (hb3.mono (by omega)))
  clear hb3 hr hH2 hbr
  have ho' := row32_size ho
  go_wp2_with (refine wpList_store_row rfl 30 _ _ rfl w.heap.size (row32 D) rfl rfl _ _ hd.out (by rw [ho']; exact info_digest) (by rw [ho']; rfl) (row32_one _) ?_)
  exact bodyPost_ret (v := digV D) (results_cell_row rfl _ _ w.heap.size _ (row32 D) _ _ rfl (hd.out.row _) Try.underlying30 rfl (by rw [ho']; exact info_digest)) rfl ⟨by rw [HD.out], below_row hB.out (Nat.le_refl _) _⟩
end Go.Proofs.Ytioanppnkhiokaa
