import Derived.Test.YtahaaeenbahknaaRRRRNib
namespace Go.Proofs.YtahaaeenbahknaaRRRR
open Go.RowKit

namespace Nib
/-- the nibbles ahead of a packed path -/
def head (n : Nat) (leaf : Bool) : List UInt8 := if n % 2 = 1 then [if leaf then 3 else 1] else [if leaf then 2 else 0, 0]
def pack (p : List UInt8) (leaf : Bool) : Option (List UInt8) := if right p = true then some (join (head p.length leaf ++ p)) else none
def packE (p : List UInt8) : Int := if right p = true then 0 else 40
theorem right_append (a b : List UInt8) : right (a ++ b) = (right a && right b) := by simp [right]
theorem head_right (n : Nat) (leaf : Bool) : right (head n leaf) = true := by
  unfold head; split <;> cases leaf <;> decide
theorem head_length (n : Nat) (leaf : Bool) : (head n leaf).length = 2 - n % 2 := by
  unfold head; split <;> simp <;> omega
end Nib

set_option maxHeartbeats 1000000 in
theorem nib_Pack (l : List UInt8) (leaf : Bool) (A : Option Addr) (n c B : Nat) (w : World) (h : Bytes w B A n c l) (hB : B ≤ w.heap.size) (hl : l.length + 2 ≤ 140737488355328) :
    Calls Try.prog 19 #[.slice A n c, .bool leaf] w (PostBe w ((Nib.pack l leaf).getD []) (Nib.packE l)) := by
  have hlen := h.len
  subst hlen
  have hm : l.length ≤ 9223372036854775807 := by omega
  by_cases hr : Nib.right l = true
  · have H := Lib.hid hr
    have HK := Lib.hid (show Nib.pack l leaf = some (Nib.join (Nib.head l.length leaf ++ l)) by simp [Nib.pack, hr])
    by_cases hp : l.length % 2 = 1
    · have hp1 : (l.length : Int) % 2 = 1 := by omega
      cases leaf
      · have HD := Lib.hid (show Nib.head l.length false = [1] by simp [Nib.head, hp])
        have HR := Lib.hid (show Nib.right ([1] ++ l) = true by rw [Nib.right_append, hr]; rfl)
        clear hp hr
        go_enter Try.func19, Try.ntmps19
        go_wp2_with (first
          | (go_at_call 14; refine (nib_Right l A l.length c B w h).mono ?_; rintro e w' ⟨rfl, rfl⟩; rw [H.out])
          | (at_builtin; refine wpList_append_u8 rfl _ _ rfl w.heap.size _ 1 [1] rfl (own_lit w _ [1] _ rfl (by simp [maxLen]) (Nat.le_refl _) rfl) B A l.length c l rfl (h.alloc hB _) (by omega) (by simp) ?_; intro A' c' w1 hown1 hb1)
          | (go_at_call 28; refine (nib_joined ([1] ++ l) A' _ c' w1.heap.size w1 ⟨by simp; omega, (Own.of_row hown1).cap, (Own.of_row hown1).lim, Reads.of_own hown1⟩ (Nat.le_refl _) (by simp; omega) HR.out).mono ?_; rintro e w2 ⟨g, rfl, hown2, hb2⟩))
        go_ret2
        rw [HK.out, HD.out]
        exact ⟨_, _, _, ret_pair rfl (by simp [Nib.packE, H.out]), new_of rfl (by simp [Nib.join_length]) (((Below.refl _ _).alloc (Nat.le_refl _) _).trans hb1) hown2 hb2⟩
      · have HD := Lib.hid (show Nib.head l.length true = [3] by simp [Nib.head, hp])
        have HR := Lib.hid (show Nib.right ([3] ++ l) = true by rw [Nib.right_append, hr]; rfl)
        clear hp hr
        go_enter Try.func19, Try.ntmps19
        go_wp2_with (first
          | (go_at_call 14; refine (nib_Right l A l.length c B w h).mono ?_; rintro e w' ⟨rfl, rfl⟩; rw [H.out])
          | (at_builtin; refine wpList_append_u8 rfl _ _ rfl w.heap.size _ 1 [3] rfl (own_lit w _ [3] _ rfl (by simp [maxLen]) (Nat.le_refl _) rfl) B A l.length c l rfl (h.alloc hB _) (by omega) (by simp) ?_; intro A' c' w1 hown1 hb1)
          | (go_at_call 28; refine (nib_joined ([3] ++ l) A' _ c' w1.heap.size w1 ⟨by simp; omega, (Own.of_row hown1).cap, (Own.of_row hown1).lim, Reads.of_own hown1⟩ (Nat.le_refl _) (by simp; omega) HR.out).mono ?_; rintro e w2 ⟨g, rfl, hown2, hb2⟩))
        go_ret2
        rw [HK.out, HD.out]
        exact ⟨_, _, _, ret_pair rfl (by simp [Nib.packE, H.out]), new_of rfl (by simp [Nib.join_length]) (((Below.refl _ _).alloc (Nat.le_refl _) _).trans hb1) hown2 hb2⟩
    · have hp0 : (l.length : Int) % 2 = 0 := by omega
      cases leaf
      · have HD := Lib.hid (show Nib.head l.length false = [0, 0] by simp [Nib.head, hp])
        have HR := Lib.hid (show Nib.right ([0] ++ [0] ++ l) = true by rw [Nib.right_append, hr]; rfl)
        clear hp hr
        go_enter Try.func19, Try.ntmps19
        go_wp2_with (first
          | (go_at_call 14; refine (nib_Right l A l.length c B w h).mono ?_; rintro e w' ⟨rfl, rfl⟩; rw [H.out])
          | (at_builtin; refine wpList_append1_u8 rfl _ _ rfl w.heap.size _ 1 [0] rfl (own_lit w _ [0] _ rfl (by simp [maxLen]) (Nat.le_refl _) rfl) 0 0 rfl _ rfl (by simp) (by omega) (by simp) ?_; intro g1 c1 w1 hown1 hg1 hb1 hs1)
          | (at_builtin; refine wpList_append_u8 rfl _ _ rfl w.heap.size _ 2 ([0] ++ [0]) rfl hown1 B A l.length c l rfl ((h.alloc hB _).below ((hb1.mono hB))) (by omega) (by omega) ?_; intro A' c' w2 hown2 hb2)
          | (go_at_call 28; refine (nib_joined ([0] ++ [0] ++ l) A' _ c' w2.heap.size w2 ⟨by simp; omega, (Own.of_row hown2).cap, (Own.of_row hown2).lim, Reads.of_own hown2⟩ (Nat.le_refl _) (by simp; omega) HR.out).mono ?_; rintro e w3 ⟨g, rfl, hown3, hb3⟩))
        go_ret2
        rw [HK.out, HD.out]
        exact ⟨_, _, _, ret_pair rfl (by simp [Nib.packE, H.out]), new_of rfl (by simp [Nib.join_length]) (((Below.refl _ _).alloc (Nat.le_refl _) _).trans (hb1.trans hb2)) hown3 hb3⟩
      · have HD := Lib.hid (show Nib.head l.length true = [2, 0] by simp [Nib.head, hp])
        have HR := Lib.hid (show Nib.right ([2] ++ [0] ++ l) = true by rw [Nib.right_append, hr]; rfl)
        clear hp hr
        go_enter Try.func19, Try.ntmps19
        go_wp2_with (first
          | (go_at_call 14; refine (nib_Right l A l.length c B w h).mono ?_; rintro e w' ⟨rfl, rfl⟩; rw [H.out])
          | (at_builtin; refine wpList_append1_u8 rfl _ _ rfl w.heap.size _ 1 [0] rfl (own_lit w _ [0] _ rfl (by simp [maxLen]) (Nat.le_refl _) rfl) 0 0 rfl _ rfl (by simp) (by omega) (by simp) ?_; intro g1 c1 w1 hown1 hg1 hb1 hs1; have hc1 : w1.cell? ⟨g1, 0, none⟩ = some (.int .u8 0) := hown1.cellAt 0 (by omega); have hf1 := hown1.frozenAt 0; have HO := Lib.hid (show (w1.setCell ⟨g1, 0, none⟩ (.int .u8 (bits BinOp.or IntKind.u8 0 2))).ownsRow w.heap.size 5 1 (.slice (some ⟨g1, 0, none⟩) 2 c1) 2 (bv ([2] ++ [0])) from (hown1.stored 0 (.int .u8 (bits BinOp.or IntKind.u8 0 2))).1); clear hown1)
          | (at_builtin; refine wpList_append_u8 rfl _ _ rfl w.heap.size _ 2 ([2] ++ [0]) rfl HO.out B A l.length c l rfl (((h.alloc hB _).below (hb1.mono hB)).setCell (by show B ≤ g1; omega) _) (by omega) (by rw [size_set]; omega) ?_; intro A' c' w2 hown2 hb2)
          | (go_at_call 28; refine (nib_joined ([2] ++ [0] ++ l) A' _ c' w2.heap.size w2 ⟨by simp; omega, (Own.of_row hown2).cap, (Own.of_row hown2).lim, Reads.of_own hown2⟩ (Nat.le_refl _) (by simp; omega) HR.out).mono ?_; rintro e w3 ⟨g, rfl, hown3, hb3⟩))
        go_ret2
        rw [HK.out, HD.out]
        exact ⟨_, _, _, ret_pair rfl (by simp [Nib.packE, H.out]), new_of rfl (by simp [Nib.join_length]) (((Below.refl _ _).alloc (Nat.le_refl _) _).trans ((hb1.setCell hg1 _).trans hb2)) hown3 hb3⟩
  · have hk : Nib.pack l leaf = none := by simp [Nib.pack, hr]
    have H := Lib.hid (Bool.not_eq_true _ ▸ hr : Nib.right l = false)
    clear hr
    go_enter Try.func19, Try.ntmps19
    go_wp2_with (first | (go_at_call 14; refine (nib_Right l A l.length c B w h).mono ?_; rintro e w' ⟨rfl, rfl⟩; rw [H.out]))
    go_ret2
    rw [hk]
    exact ⟨none, 0, 0, by simp [Nib.packE, H.out], NewB.none_ w⟩

end Go.Proofs.YtahaaeenbahknaaRRRR
