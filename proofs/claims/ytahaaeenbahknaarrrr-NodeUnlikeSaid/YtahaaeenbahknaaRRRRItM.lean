/-
  Items in memory: a value that is an item, over blocks that meet S.
-/
import Derived.Test.YtahaaeenbahknaaRRRRMid
import Derived.Test.YtahaaeenbahknaaRRRRNestP
import Derived.Test.YtahaaeenbahknaaRRRRBlk
namespace Go.Proofs.YtahaaeenbahknaaRRRR
open Go.RowKit

/-- cells over a block that meets S -/
def InS (S : Nat → Prop) (w : World) (size : Nat) (A : Option Addr) (n : Nat) (xs : List Value) : Prop :=
  xs.length = n * size ∧ (0 < n → ∃ g o, A = some ⟨g, o, none⟩ ∧ S g ∧ g < w.heap.size ∧ ∀ j u, xs[j]? = some u → w.cell? ⟨g, o + j, none⟩ = some u)
def flat (vs : List Value) : List Value := vs.flatMap fun v => v.cells.toList
def All2 {α : Type} (R : Value → α → Prop) (vs : List Value) (xs : List α) : Prop := vs.length = xs.length ∧ ∀ (i : Nat) (x : α), xs[i]? = some x → ∃ v, vs[i]? = some v ∧ R v x
/-- a text's row; a list's -/
def txV (A : Option Addr) (n c : Nat) : Value := .agg #[.bool false, .slice A n c, .slice none 0 0]
def lsV (A : Option Addr) (n c : Nat) : Value := .agg #[.bool true, .slice none 0 0, .slice A n c]
def itemZ : Value := .agg #[.bool false, .slice none 0 0, .slice none 0 0]
def Sits (S : Nat → Prop) (w : World) : (d : Nat) → Value → Ns.It d → Prop
  | 0, _, x => nomatch x
  | _ + 1, v, .inl b => ∃ A n c, v = txV A n c ∧ n = b.length ∧ n ≤ c ∧ c ≤ maxLen ∧ InS S w 1 A n (bv b)
  | d + 1, v, .inr xs => ∃ A n c vs, v = lsV A n c ∧ n = xs.length ∧ n ≤ c ∧ c ≤ maxLen ∧ InS S w 3 A n (flat vs) ∧ All2 (Sits S w d) vs xs

section
variable {w w' : World} {S S' : Nat → Prop}
theorem InS.move {size n : Nat} {A : Option Addr} {xs : List Value} (h : InS S w size A n xs) (hS : ∀ g, S g → g < w.heap.size → S' g ∧ w'.heap[g]? = w.heap[g]?) (hs : w.heap.size ≤ w'.heap.size) : InS S' w' size A n xs :=
  ⟨h.1, fun hn => by
    obtain ⟨g, o, e, h1, h2, hc⟩ := h.2 hn
    obtain ⟨h3, h4⟩ := hS g h1 h2
    exact ⟨g, o, e, h3, by omega, fun j u hu => (World.cell?_of_block (a := ⟨g, o + j, none⟩) h4).trans (hc j u hu)⟩⟩
theorem InS.reads {B size n : Nat} {A : Option Addr} {xs : List Value} (h : InS S w size A n xs) (hS : ∀ g, S g → g < w.heap.size → g < B) : Reads w B size A n xs :=
  ⟨h.1, fun hn => by
    obtain ⟨g, o, e, h1, h2, hc⟩ := h.2 hn
    exact ⟨g, o, e, hS g h1 h2, hc⟩⟩
theorem InS.of_reads {B size n : Nat} {A : Option Addr} {xs : List Value} (h : Reads w B size A n xs) (hS : ∀ g, g < B → S g ∧ g < w.heap.size) : InS S w size A n xs :=
  ⟨h.1, fun hn => by
    obtain ⟨g, o, e, h1, hc⟩ := h.2 hn
    exact ⟨g, o, e, (hS g h1).1, (hS g h1).2, hc⟩⟩
theorem InS.of_own {B size n c : Nat} {e : TypeId} {A : Option Addr} {xs : List Value} (h : Own w B e size A n c xs) : InS (fun g => B ≤ g) w size A n xs := by
  refine ⟨h.len, fun hn => ?_⟩
  obtain ⟨g, off, cur, rfl, hb, hg, hsz, ht⟩ := h.blk (by have := h.cap; omega)
  have hlt : g < w.heap.size := (Array.getElem?_eq_some_iff.1 hg).1
  refine ⟨g, off, rfl, hb, hlt, fun j u hu => ?_⟩
  rw [cell_of_row w g (off + j) cur e (0, 0) hg]
  rw [← ht, List.getElem?_take] at hu
  split at hu
  · rw [List.getElem?_drop] at hu; simpa using hu
  · cases hu
theorem All2.imp {α : Type} {R R' : Value → α → Prop} {vs : List Value} {xs : List α} (h : All2 R vs xs) (hR : ∀ v x, R v x → R' v x) : All2 R' vs xs :=
  ⟨h.1, fun i x hx => by
    obtain ⟨v, hv, hr⟩ := h.2 i x hx
    exact ⟨v, hv, hR v x hr⟩⟩
theorem All2.nil {α : Type} {R : Value → α → Prop} : All2 R [] ([] : List α) := ⟨rfl, fun i x hx => by simp at hx⟩
theorem All2.snoc {α : Type} {R : Value → α → Prop} {vs : List Value} {xs : List α} {v : Value} {x : α} (h : All2 R vs xs) (hv : R v x) : All2 R (vs ++ [v]) (xs ++ [x]) := by
  refine ⟨by simp [h.1], fun i y hy => ?_⟩
  rcases Nat.lt_or_ge i xs.length with hi | hi
  · rw [List.getElem?_append_left hi] at hy
    rw [List.getElem?_append_left (by rw [h.1]; exact hi)]
    exact h.2 i y hy
  · rw [List.getElem?_append_right hi] at hy
    rw [List.getElem?_append_right (by rw [h.1]; exact hi), h.1]
    rcases Nat.eq_zero_or_pos (i - xs.length) with h0 | h0
    · rw [h0] at hy ⊢
      simp at hy; subst hy
      exact ⟨v, by simp, hv⟩
    · rw [List.getElem?_eq_none (by simp; omega)] at hy; cases hy
theorem Sits.move : ∀ (d : Nat) (v : Value) (x : Ns.It d), Sits S w d v x → (∀ g, S g → g < w.heap.size → S' g ∧ w'.heap[g]? = w.heap[g]?) → w.heap.size ≤ w'.heap.size → Sits S' w' d v x
  | 0, _, x, _, _, _ => nomatch x
  | _ + 1, v, .inl b, h, hS, hs => by
    obtain ⟨A, n, c, h1, h2, h3, h4, h5⟩ := h
    exact ⟨A, n, c, h1, h2, h3, h4, h5.move hS hs⟩
  | d + 1, v, .inr xs, h, hS, hs => by
    obtain ⟨A, n, c, vs, h1, h2, h3, h4, h5, h6⟩ := h
    exact ⟨A, n, c, vs, h1, h2, h3, h4, h5.move hS hs, h6.imp fun v x hx => Sits.move d v x hx hS hs⟩
/-- an item's value has three cells, one value each -/
theorem Sits.cells : ∀ (d : Nat) (v : Value) (x : Ns.It d), Sits S w d v x → ∃ a b c, v = .agg #[a, b, c] ∧ v.cells.toList = [a, b, c] ∧ ∀ u ∈ [a, b, c], u.oneCell' = true
  | 0, _, x, _ => nomatch x
  | _ + 1, v, .inl b, h => by
    obtain ⟨A, n, c, rfl, _⟩ := h
    exact ⟨_, _, _, rfl, rfl, by simp [Value.oneCell']⟩
  | d + 1, v, .inr xs, h => by
    obtain ⟨A, n, c, vs, rfl, _⟩ := h
    exact ⟨_, _, _, rfl, rfl, by simp [Value.oneCell']⟩
end
theorem flat_append (a b : List Value) : flat (a ++ b) = flat a ++ flat b := by simp [flat]
theorem flat_one (v : Value) : flat [v] = v.cells.toList := by simp [flat]
theorem info_item : (Try.prog.info? 46).map (fun i => (i.zero, i.size, i.bytes)) = some (some itemZ, 3, 56) := by kernel_rfl
end Go.Proofs.YtahaaeenbahknaaRRRR
