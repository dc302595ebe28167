import Derived.Test.YtjnbbgnecahgeaaRNib3
import Derived.Test.YtjnbbgnecahgeaaWrap
namespace Go.Proofs.Ytjnbbgnecahgeaa
open Go.RowKit

set_option maxHeartbeats 1000000 in
theorem law_alive (w : World) : Calls Try.prog 14 #[] w (PostT w) := by
  have e1 : Nib.unpackB [0, 18] = false := by decide
  have e2 : Nib.unpackE [0, 18] = 0 := by decide
  have e3 : Nib.packE [1, 2, 3] = 0 := by decide
  have E4 := Lib.hid (show Nib.unpackL [0, 18] = [1, 2] by decide)
  have E5 := Lib.hid (show (Nib.pack [1, 2, 3] true).getD [] = [49, 35] by decide)
  go_enter Try.func14, Try.ntmps14
  go_wp2_with (first
    | (go_at_call 10; refine (nib_Pack [1, 2, 3] true _ 3 3 (w.heap.size + 1) _ (Bytes.lit w _ [1, 2, 3] _ (by rfl) (by simp [maxLen]) rfl) (by simp) (by simp)).mono ?_; rw [E5.out]; rintro e w1 ⟨A1, m1, c1, rfl, hn1⟩; have HN1 := Lib.hid hn1; have hb1 := Below.trans ((Below.refl w.heap.size w).alloc (Nat.le_refl _) _) (hn1.2.2.mono (by simp)); clear hn1)
    | (go_at_call 12; refine (nib_Unpack [0, 18] _ 2 2 (w1.heap.size + 1) _ (Bytes.lit w1 _ [0, 18] _ (by rfl) (by simp [maxLen]) rfl) (by simp) (by simp)).mono ?_; rw [E4.out]; rintro e w2 ⟨A2, m2, c2, rfl, hn2⟩; have HN2 := Lib.hid hn2; have hb2 := Below.trans ((Below.refl w1.heap.size w1).alloc (Nat.le_refl _) _) (hn2.2.2.mono (by simp)); clear hn2)
    | (go_at_call_of 15 A1; refine (law_same [49, 35] [49, 35] A1 _ m1 2 c1 2 w1.heap.size (w2.heap.size + 1) _ ((HN1.out.bytes.below hb2).alloc hb2.size _) (Bytes.lit w2 _ [49, 35] _ (by rfl) (by simp [maxLen]) rfl)).mono ?_; rintro e w' ⟨rfl, rfl⟩)
    | (go_at_call_of 15 A2; refine (law_same [1, 2] [1, 2] A2 _ m2 2 c2 2 w2.heap.size (w2.heap.size + 1 + 1) _ ((HN2.out.bytes.alloc (Nat.le_refl _) _).alloc (by simp) _) (Bytes.lit' (w2.alloc _) _ [1, 2] _ (by simp) (by rfl) (by simp [maxLen]) rfl)).mono ?_; rintro e w' ⟨rfl, rfl⟩)
    | (go_at_call 24; refine (nib_Right [1, 2] A2 m2 c2 w2.heap.size _ ((HN2.out.bytes.alloc (Nat.le_refl _) _).alloc (by simp) _)).mono ?_; rintro e w' ⟨rfl, rfl⟩)
    | (go_at_call 18; refine (nib_Common [1, 2] [1, 3] A2 _ m2 2 c2 2 (w2.heap.size + 1 + 1 + 1) _ ((((HN2.out.bytes.alloc (Nat.le_refl _) _).alloc (by simp) _).alloc (by simp; omega) _).more (by omega)) (Bytes.lit' ((w2.alloc _).alloc _) _ [1, 3] _ (by simp) (by rfl) (by simp [maxLen]) rfl)).mono ?_; rintro e w' ⟨rfl, d, rfl⟩))
  go_ret
  have hs1 := hb1.size
  have hs2 := hb2.size
  refine ⟨ret_bool (by decide), below_drewN ((((hb1.trans (hb2.mono hs1)).alloc (by omega) _).alloc (by simp; omega) _).alloc (by simp; omega) _) _⟩

end Go.Proofs.Ytjnbbgnecahgeaa
