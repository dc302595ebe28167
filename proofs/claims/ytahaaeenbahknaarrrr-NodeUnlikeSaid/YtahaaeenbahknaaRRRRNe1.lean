/-
  Package nest, what writes: Text, plain, number.
-/
import Derived.Test.YtahaaeenbahknaaRRRRRd2
namespace Go.Proofs.YtahaaeenbahknaaRRRR
open Go.RowKit

/-- what Text answers -/
def TextQ (l : List UInt8) (w : World) (e : Ending) (w' : World) : Prop := ∃ A m c, e = .returned (txV A m c) ∧ NewB w w' A m c l
set_option maxHeartbeats 1000000 in
theorem nest_Text (A : Option Addr) (n c : Nat) (l : List UInt8) (w : World) (h : Bytes w w.heap.size A n c l) (hl : l.length ≤ 140737488355328) :
    Calls Try.prog 20 #[.slice A n c] w (TextQ l w) := by
  have hb0 : Blk (w.alloc (.cells rowZ 46)) w.heap.size 46 rowZ := Blk.new w _ _
  have hf := clone_bytes A n c _ l _ ((h.alloc (Nat.le_refl _) (.cells rowZ 46)).more (show w.heap.size ≤ (w.alloc (.cells rowZ 46)).heap.size by simp)) (Nat.le_refl _) hl
  have hbe : Below w.heap.size w (w.alloc (.cells rowZ 46)) := (Below.refl _ _).alloc (Nat.le_refl _) _
  have hs0 : (w.alloc (.cells rowZ 46)).heap.size = w.heap.size + 1 := by simp
  clear h
  go_enter Try.func20, Try.ntmps20
  go_wp2_with fail
  refine hf.mono ?_
  rintro e w1 ⟨A1, m1, c1, rfl, hm, hown, hbel⟩
  have hb1 := hb0.below hbel (by omega)
  have hs1 := hbel.size
  clear hf hb0
  replace hm := Lib.hid hm
  go_wp2_with (refine wpList_store_row rfl 46 _ _ rfl w.heap.size #[.bool false, .slice A1 m1 c1, .slice none 0 0] rfl rfl _ _ hb1 info_item3 rfl (by simp [Value.oneCell']) ?_)
  refine bodyPost_ret (v := txV A1 m1 c1) (results_cell_row rfl _ _ w.heap.size _ #[.bool false, .slice A1 m1 c1, .slice none 0 0] _ _ rfl (hb1.row _) Try.underlying46 rfl info_item3) rfl ?_
  refine ⟨_, _, _, rfl, hm.out, ?_, below_row (hbe.trans (hbel.mono (by omega))) (Nat.le_refl _) _⟩
  obtain ⟨h1, h2⟩ := hown
  refine ⟨h1, ?_⟩
  rcases h2 with h2 | ⟨g, cap, cur, hv, hg, hh, r⟩
  · exact .inl h2
  · exact .inr ⟨g, cap, cur, hv, by omega, (setRow_other w1 _ g _ (by omega)).trans hh, r⟩

set_option maxHeartbeats 1000000 in
theorem plain_text (A : Option Addr) (n c B : Nat) (l : List UInt8) (w : World) (h : Bytes w B A n c l) :
    Calls Try.prog 41 #[txV A n c] w fun e w' => e = .returned (.bool (decide (l.length = 1 ∧ Ns.encT.rd1 l < 128))) ∧ Below w.heap.size w w' := by
  have hlen := h.len
  subst hlen
  unfold txV
  by_cases h1 : l.length = 1
  · obtain ⟨c0, rfl⟩ : ∃ c0, l = [c0] := by
      cases l with
      | nil => simp at h1
      | cons c0 t => exact ⟨c0, by rw [List.eq_nil_of_length_eq_zero (by simpa using h1 : t.length = 0)]⟩
    obtain ⟨g, o, u, rfl, hg, hx, hc⟩ := h.reads.at_ (k := 0) (by simp)
    have hx' : u = .int .u8 (c0.toNat : Int) := by simpa [bv] using hx.symm
    subst hx'
    rw [Nat.add_zero] at hc
    have hlt : g < w.heap.size := by
      rcases Nat.lt_or_ge g w.heap.size with hh | hh
      · exact hh
      · simp [World.cell?, Array.getElem?_eq_none hh] at hc
    clear hx h h1
    by_cases hy : c0.toNat < 128
    · have hy' : (c0.toNat : Int) < 128 := by omega
      go_enter Try.func41, Try.ntmps41
      go_wp2
      go_ret
      exact ⟨ret_bool (by simp [Ns.encT.rd1, hy]), by repeat (first | exact Below.refl _ _ | refine Below.alloc ?_ (by simp) _)⟩
    · have hy' : ¬ (c0.toNat : Int) < 128 := by omega
      go_enter Try.func41, Try.ntmps41
      go_wp2
      go_ret
      exact ⟨ret_bool (by simp [Ns.encT.rd1, hy]), by repeat (first | exact Below.refl _ _ | refine Below.alloc ?_ (by simp) _)⟩
  · have h1' : ¬ (l.length : Int) = 1 := by omega
    clear h
    go_enter Try.func41, Try.ntmps41
    go_wp2
    go_ret
    exact ⟨ret_bool (by simp [h1]), by repeat (first | exact Below.refl _ _ | refine Below.alloc ?_ (by simp) _)⟩
theorem plain_list (A : Option Addr) (n c : Nat) (w : World) : Calls Try.prog 41 #[lsV A n c] w fun e w' => e = .returned (.bool false) ∧ Below w.heap.size w w' := by
  unfold lsV
  go_enter Try.func41, Try.ntmps41
  go_wp2
  go_ret
  exact ⟨rfl, by repeat (first | exact Below.refl _ _ | refine Below.alloc ?_ (by simp) _)⟩
/-- so many bytes has a number -/
def Ns.num : Nat → Nat → Nat
  | 0, _ => 0
  | k + 1, n => if n = 0 then 0 else Ns.num k (n / 256) + 1
theorem Ns.num_be : ∀ (k n : Nat), Ns.num k n = (Wd.be k n).length
  | 0, _ => rfl
  | k + 1, n => by
    unfold Ns.num Wd.be
    split
    · rfl
    · rw [List.length_append, Ns.num_be k]; rfl
set_option maxHeartbeats 1000000 in
theorem nest_number (n : Nat) (w : World) (hn : n < 4611686018427387904) : Calls Try.prog 42 #[.int .i64 n] w fun e w' => e = .returned (.int .i64 ((Wd.be 8 n).length : Nat)) ∧ w = w' := by
  rw [← Ns.num_be]
  go_enter Try.func42, Try.ntmps42
  go_wp2
  go_loop [0, 3] (fun x v => ∃ (y k j : Nat), x = .int .i64 y ∧ v = .int .i64 j ∧ y < 256 ^ k ∧ k + j ≤ 8 ∧ y ≤ n ∧ Ns.num 8 n = Ns.num k y + j) (fun x _ => (intOf x).toNat)
  case atStart => exact ⟨n, 8, 0, rfl, rfl, by omega, by omega, Nat.le_refl _, rfl⟩
  case round =>
    obtain ⟨y, k, j, rfl, rfl, hy, hk, hyn, he⟩ := hrel
    by_cases h0 : y = 0
    · subst h0
      have hz : Ns.num k 0 = 0 := by cases k <;> simp [Ns.num]
      rw [hz, Nat.zero_add] at he
      replace he := Lib.hid he
      clear hy hz
      go_wp2
      go_ret
      exact ⟨by rw [he.out]; rfl, rfl⟩
    · have h0' : (0 : Int) < (y : Int) := by omega
      obtain ⟨k, rfl⟩ : ∃ j, k = j + 1 := by
        cases k with
        | zero => simp at hy; omega
        | succ k => exact ⟨k, rfl⟩
      have hy2 : y / 256 < 256 ^ k := by rw [Nat.div_lt_iff_lt_mul (by omega)]; rwa [Nat.pow_succ] at hy
      have he2 : Ns.num 8 n = Ns.num k (y / 256) + (j + 1) := by rw [he, show Ns.num (k + 1) y = Ns.num k (y / 256) + 1 from if_neg h0]; omega
      replace he2 := Lib.hid he2
      clear he hy
      go_wp2
      refine ⟨⟨y / 256, k, j + 1, by simp, by simp, hy2, by omega, by omega, he2.out⟩, ?_⟩
      simp [intOf]; omega
end Go.Proofs.YtahaaeenbahknaaRRRR
