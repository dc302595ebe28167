/-
  Package nest: List (slices.Clone of items).
-/
import Derived.Test.YtahaaeenbahknaaRRRREn1
namespace Go.Proofs.YtahaaeenbahknaaRRRR
open Go.RowKit

theorem flat_one_cell {α : Type} {R : Value → α → Prop} {vs : List Value} {xs : List α} (h : All2 R vs xs) (hR : ∀ v x, R v x → ∀ u ∈ v.cells.toList, u.oneCell' = true) : ∀ u ∈ flat vs, u.oneCell' = true := by
  intro u hu
  obtain ⟨v, hv, hu⟩ := List.mem_flatMap.1 hu
  obtain ⟨i, hi, rfl⟩ := List.mem_iff_getElem.1 hv
  obtain ⟨v', hv', hr⟩ := h.2 i (xs[i]'(by rw [← h.1]; exact hi)) (List.getElem?_eq_getElem _)
  rw [List.getElem?_eq_getElem hi] at hv'
  cases hv'
  exact hR _ _ hr u hu
theorem clone_items (A : Option Addr) (n c B : Nat) (xs : List Value) (w : World) (h : Reads w B 3 A n xs) (hc : n ≤ c) (hcm : c ≤ maxLen) (hB : B ≤ w.heap.size) (h1 : ∀ u ∈ xs, u.oneCell' = true) (hl : n ≤ 16777216) :
    Calls Try.prog 33 #[.slice A n c] w fun e w' => ∃ A' c', e = .returned (.slice A' n c') ∧ n ≤ c' ∧ c' ≤ maxLen ∧ InS (fun q => w.heap.size ≤ q) w' 3 A' n xs ∧ Below w.heap.size w w' := by
  rcases A with _ | a
  · have hn : n = 0 := by
      rcases Nat.eq_zero_or_pos n with h0 | h0
      · exact h0
      · obtain ⟨g, o, e, _⟩ := h.2 h0
        cases e
    subst hn
    have hx : xs = [] := List.eq_nil_of_length_eq_zero (by have := h.1; omega)
    subst hx
    have hq := Lib.run_eql_slice_nil w 43 46 none 0 c 0 0 Try.underlying43
    go_enter Try.func33, Try.ntmps33
    go_wp2
    go_ret
    exact ⟨_, _, rfl, Nat.le_refl _, by unfold maxLen; omega, ⟨rfl, fun h => by omega⟩, Below.refl _ _⟩
  · go_enter Try.func33, Try.ntmps33
    have hq := Lib.run_eql_slice_nil w 43 46 (some a) n c 0 0 Try.underlying43
    have ho : (w.alloc (.cells #[] 46)).ownsRow w.heap.size 46 3 (.slice (some ⟨w.heap.size, 0, none⟩) 0 0) 0 [] :=
      ⟨rfl, .inr ⟨w.heap.size, 0, #[], rfl, Nat.le_refl _, heap_alloc_new w _, by simp, by simp [maxLen], by simp, by simp⟩⟩
    obtain ⟨i0, hi, hz0, hz1, hz2⟩ := info_parts info_item
    go_wp2_with (at_builtin; refine wpList_append_any _ rfl _ _ 43 rfl w.heap.size 46 i0 itemZ 3 56 Try.underlying43 hi hz0 hz1 hz2 rfl (by omega) _ 0 [] rfl ho B _ n c xs rfl (h.alloc hB _) h1 (by unfold maxLen at *; omega) (by omega) (by simp) ?_; intro v1 w1 hown1 hg1 hob)
    rw [List.nil_append, Nat.zero_add] at hown1
    obtain ⟨A1, c1, rfl⟩ : ∃ A1 c1, v1 = .slice A1 n c1 := by
      rcases hown1.2 with ⟨rfl, h0⟩ | ⟨g, cap, cur, rfl, _⟩
      · rw [h0]; exact ⟨_, _, rfl⟩
      · exact ⟨_, _, rfl⟩
    have hO := Own.of_row hown1
    go_ret
    refine ⟨A1, c1, rfl, hO.cap, hO.lim, InS.of_own hO, ?_⟩
    refine ((Below.refl w.heap.size w).alloc (Nat.le_refl _) (.cells #[] 46)).trans ⟨hg1.os, hg1.tape, hg1.output, hg1.size, fun k hk => hg1.block k (by simp; omega) (fun e => by have := (ho.lt _ e.symm).1; omega)⟩
theorem InS.or {S S' : Nat → Prop} {w : World} {size n : Nat} {A : Option Addr} {xs : List Value} (h : InS S w size A n xs) (hS : ∀ q, S q → q < w.heap.size → S' q) : InS S' w size A n xs := h.move (fun q h1 h2 => ⟨hS q h1 h2, rfl⟩) (Nat.le_refl _)
set_option maxHeartbeats 1000000 in
theorem nest_List (d : Nat) (S : Nat → Prop) (A : Option Addr) (n c : Nat) (vs : List Value) (xs : List (Ns.It d)) (w : World) (hS : ∀ q, S q → q < w.heap.size) (hn : n = xs.length) (hc : n ≤ c) (hm : c ≤ maxLen) (hin : InS S w 3 A n (flat vs)) (hall : All2 (Sits S w d) vs xs) (hl : n ≤ 16777216) :
    Calls Try.prog 23 #[.slice A n c] w fun e w' => ∃ v, e = .returned v ∧ Sits (fun q => S q ∨ w.heap.size ≤ q) w' (d + 1) v (.inr xs) ∧ Below w.heap.size w w' := by
  have hb0 : Blk (w.alloc (.cells rowZ 46)) w.heap.size 46 rowZ := Blk.new w _ _
  have hbe : Below w.heap.size w (w.alloc (.cells rowZ 46)) := (Below.refl _ _).alloc (Nat.le_refl _) _
  have hs0 : (w.alloc (.cells rowZ 46)).heap.size = w.heap.size + 1 := by simp
  have hin0 := hin.reads (B := w.heap.size) (fun g _ h => h)
  have hf := clone_items A n c w.heap.size (flat vs) (w.alloc (.cells rowZ 46)) (hin0.alloc (Nat.le_refl _) _) hc hm (by simp) (flat_one_cell hall fun v x hx u hu => by
    obtain ⟨a, b, c, _, h2, h3⟩ := hx.cells
    rw [h2] at hu
    exact h3 u hu) hl
  replace hin := Lib.hid hin
  replace hall := Lib.hid hall
  replace hn := Lib.hid hn
  replace hS := Lib.hid hS
  clear hc hm hin0
  go_enter Try.func23, Try.ntmps23
  go_wp2_with fail
  refine hf.mono ?_
  rintro e w1 ⟨A1, c1, rfl, hc1, hm1, hin1, hbel⟩
  have hb1 := hb0.below hbel (by omega)
  have hs1 := hbel.size
  clear hf hb0
  replace hin1 := Lib.hid hin1
  replace hbel := Lib.hid hbel
  replace hbe := Lib.hid hbe
  replace hc1 := Lib.hid hc1
  replace hm1 := Lib.hid hm1
  go_wp2_with (refine wpList_store_row rfl 46 _ _ rfl w.heap.size #[.bool true, .slice none 0 0, .slice A1 n c1] rfl rfl _ _ hb1 info_item3 rfl (by simp [Value.oneCell']) ?_)
  refine bodyPost_ret (v := lsV A1 n c1) (results_cell_row rfl _ _ w.heap.size _ #[.bool true, .slice none 0 0, .slice A1 n c1] _ _ rfl (hb1.row _) Try.underlying46 rfl info_item3) rfl ?_
  have hB1 : Below w.heap.size w w1 := hbe.out.trans (hbel.out.mono (by omega))
  refine ⟨_, rfl, ⟨A1, n, c1, vs, rfl, hn.out, hc1.out, hm1.out, ?_, ?_⟩, below_row hB1 (Nat.le_refl _) _⟩
  · exact hin1.out.move (fun q h1 h2 => ⟨.inr (by rw [hs0] at h1; omega), setRow_other w1 _ q _ (by rw [hs0] at h1; omega)⟩) (by simp)
  · exact hall.out.imp fun v x hx => hx.move _ _ _ (fun q h1 h2 => ⟨.inl h1, (setRow_other w1 _ q _ (by omega)).trans (hB1.block q h2)⟩) (by simp; have := hB1.size; omega)
end Go.Proofs.YtahaaeenbahknaaRRRR
