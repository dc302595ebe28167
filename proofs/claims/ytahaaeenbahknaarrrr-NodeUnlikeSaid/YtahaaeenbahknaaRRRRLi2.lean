/-
  Lists of items that a function appends to; package receipt: list.
-/
import Derived.Test.YtahaaeenbahknaaRRRRLi1
import Derived.Test.YtahaaeenbahknaaRRRRWo2
namespace Go.Proofs.YtahaaeenbahknaaRRRR
open Go.RowKit

/-- where an item's memory may lie: at S, or at B and behind; not in the list's own block -/
def Apart (S : Nat → Prop) (B : Nat) (v : Value) (q : Nat) : Prop := (S q ∨ B ≤ q) ∧ v.ownBlock ≠ some q
structure ItL (S : Nat → Prop) (B : Nat) (w : World) (d : Nat) (A : Option Addr) (m c : Nat) (vs : List Value) (xs : List (Ns.It d)) : Prop where
  own : w.ownsRow B 46 3 (.slice A m c) m (flat vs)
  len : m = xs.length
  all : All2 (Sits (Apart S B (.slice A m c)) w d) vs xs
section
variable {S : Nat → Prop} {B d m c : Nat} {w w' : World} {A : Option Addr} {vs : List Value} {xs : List (Ns.It d)}
theorem ItL.start : ItL S B w d none 0 0 [] [] := ⟨World.ownsRow_nil _ _ _ _, rfl, All2.nil⟩
theorem ItL.below (h : ItL S B w d A m c vs xs) (hb : Below w.heap.size w w') : ItL S B w' d A m c vs xs := by
  refine ⟨h.own.kept (row := none) ⟨hb.os, hb.tape, hb.output, hb.size, fun k hk _ => hb.block k hk⟩ ?_, h.len, h.all.imp fun v x hx => hx.move _ _ _ (fun q h1 h2 => ⟨h1, hb.block q h2⟩) hb.size⟩
  cases e : (Value.slice A m c).ownBlock with
  | none => exact .inl rfl
  | some q => exact .inr (by simp)
theorem ItL.snoc {A' : Option Addr} {c' : Nat} {v : Value} {x : Ns.It d} (h : ItL S B w d A m c vs xs) (hS : ∀ q, S q → q < w.heap.size) (hv : Sits (Apart S B (.slice A m c)) w d v x)
    (hown : w'.ownsRow B 46 3 (.slice A' (m + 1) c') (m + 1) (flat vs ++ v.cells.toList)) (hg : w.grownBy w' (Value.slice A m c).ownBlock)
    (hob : (Value.slice A' (m + 1) c').ownBlock = (Value.slice A m c).ownBlock ∨ (∃ q, (Value.slice A' (m + 1) c').ownBlock = some q ∧ w.heap.size ≤ q)) : ItL S B w' d A' (m + 1) c' (vs ++ [v]) (xs ++ [x]) := by
  have hmv : ∀ q, Apart S B (.slice A m c) q → q < w.heap.size → Apart S B (.slice A' (m + 1) c') q ∧ w'.heap[q]? = w.heap[q]? := by
    intro q ⟨h1, h2⟩ h3
    refine ⟨⟨h1, ?_⟩, hg.block q h3 (fun e => h2 e.symm)⟩
    rcases hob with e | ⟨g, e, hg⟩
    · rw [e]; exact h2
    · rw [e]; intro e2; injection e2 with e2; omega
  refine ⟨?_, ?_, (h.all.imp fun v x hx => hx.move _ _ _ hmv hg.size).snoc (hv.move _ _ _ hmv hg.size)⟩
  · rw [flat_append, flat_one]; exact hown
  · rw [List.length_append, h.len]; rfl
/-- 'x = append(x, one)' -/
theorem wpList_append_it {ops : Array Oper} {rest : List Oper} {o : Oper} {a : Act} {Q : Exit → Act → World → Prop} {gx : Nat} {v : Value} {x : Ns.It d} (hgd : o.guard = none) (s y : Operand)
    (ho : o.op = .call { callee := .builtin .append, args := #[s, y], argTypes := #[43, 43] })
    (h : ItL S B w d A m c vs xs) (hS : ∀ q, S q → q < w.heap.size) (hB : B ≤ w.heap.size) (hs : a.eval s = .slice A m c) (hx : a.eval y = .slice (some ⟨gx, 0, none⟩) 1 1) (hgx : gx < w.heap.size) (hb : Blk w gx 46 v.cells) (hv : Sits (Apart S B (.slice A m c)) w d v x)
    (hlim : m < 16777216)
    (H : ∀ A' c' w', ItL S B w' d A' (m + 1) c' (vs ++ [v]) (xs ++ [x]) → w.grownBy w' (Value.slice A m c).ownBlock → wpList Try.prog ops Q rest (a.put o.dst (.slice A' (m + 1) c')) w') : wpList Try.prog ops Q (o :: rest) a w := by
  obtain ⟨i0, hi, hz0, hz1, hz2⟩ := info_parts info_item
  obtain ⟨p, q, r, rfl, hc, h1⟩ := hv.cells
  have hr : Reads w (gx + 1) 3 (some ⟨gx, 0, none⟩) 1 [p, q, r] := ⟨rfl, fun _ => ⟨gx, 0, rfl, by omega, fun j u hu => by
    rw [Nat.zero_add, hb.cell j, ← Array.getElem?_toList, hc]; exact hu⟩⟩
  refine wpList_append_any w hgd s y 43 ho B 46 i0 itemZ 3 56 Try.underlying43 hi hz0 hz1 hz2 rfl (by omega) (.slice A m c) m (flat vs) hs h.own (gx + 1) _ 1 1 [p, q, r] hx hr h1 (by unfold maxLen; omega) (by omega) hB ?_
  intro v' w' hown hg hob
  obtain ⟨A', c', rfl⟩ : ∃ A' c', v' = .slice A' (m + 1) c' := by
    rcases hown.2 with ⟨rfl, h0⟩ | ⟨g, cap, cur, rfl, _⟩
    · omega
    · exact ⟨_, _, rfl⟩
  exact H A' c' w' (h.snoc hS hv (by rw [hc]; exact hown) hg (hob.imp id fun e => ⟨_, e, Nat.le_refl _⟩)) hg
end
/-- words in memory -/
def u64v (ns : List Nat) : List Value := ns.map fun (k : Nat) => .int .u64 (k : Int)
theorem u64v_at (ns : List Nat) (k : Nat) (hk : k < ns.length) : (u64v ns)[k]? = some (.int .u64 ((ns[k] : Nat) : Int)) := by simp [u64v, hk]
/-- a receipt's words as items -/
def wordsI (ns : List Nat) : List (Ns.It 8) := ns.map fun n => Ns.tx (Wd.be 8 n)
end Go.Proofs.YtahaaeenbahknaaRRRR
