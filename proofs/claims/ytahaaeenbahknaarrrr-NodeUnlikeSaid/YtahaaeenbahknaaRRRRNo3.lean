/-
  Lists of references that a function appends to; package node: many.
-/
import Derived.Test.YtahaaeenbahknaaRRRRNo2
import Derived.Test.YtahaaeenbahknaaRRRRLi2
import Derived.Great.BuildSlice
namespace Go.Proofs.YtahaaeenbahknaaRRRR
open Go.RowKit

theorem info_ref4 : (Try.prog.info? 26).map (fun i => (i.zero, i.size, i.bytes)) = some (some (.agg refZ), 34, 64) := by kernel_rfl
/-- a list of references that is being appended to -/
structure RfL (B : Nat) (w : World) (A : Option Addr) (m c : Nat) (vs : List Value) (rs : List Nd.Rf) : Prop where
  own : w.ownsRow B 26 34 (.slice A m c) m (flat vs)
  len : m = rs.length
  all : All2 (RefIn (Apart (fun _ => False) B (.slice A m c)) w) vs rs
section
variable {B m c : Nat} {w w' : World} {A : Option Addr} {vs : List Value} {rs : List Nd.Rf}
theorem RfL.start : RfL B w none 0 0 [] [] := ⟨World.ownsRow_nil _ _ _ _, rfl, All2.nil⟩
theorem RfL.below (h : RfL B w A m c vs rs) (hb : Below w.heap.size w w') : RfL B w' A m c vs rs := by
  refine ⟨h.own.kept (row := none) ⟨hb.os, hb.tape, hb.output, hb.size, fun k hk _ => hb.block k hk⟩ ?_, h.len, h.all.imp fun v x hx => hx.move (fun q h1 h2 => ⟨h1, hb.block q h2⟩) hb.size⟩
  cases e : (Value.slice A m c).ownBlock with
  | none => exact .inl rfl
  | some q => exact .inr (by simp)
theorem RfL.snoc {A' : Option Addr} {c' : Nat} {v : Value} {x : Nd.Rf} (h : RfL B w A m c vs rs) (hv : RefIn (Apart (fun _ => False) B (.slice A m c)) w v x)
    (hown : w'.ownsRow B 26 34 (.slice A' (m + 1) c') (m + 1) (flat vs ++ v.cells.toList)) (hg : w.grownBy w' (Value.slice A m c).ownBlock)
    (hob : (Value.slice A' (m + 1) c').ownBlock = (Value.slice A m c).ownBlock ∨ (∃ q, (Value.slice A' (m + 1) c').ownBlock = some q ∧ w.heap.size ≤ q)) : RfL B w' A' (m + 1) c' (vs ++ [v]) (rs ++ [x]) := by
  have hmv : ∀ q, Apart (fun _ => False) B (.slice A m c) q → q < w.heap.size → Apart (fun _ => False) B (.slice A' (m + 1) c') q ∧ w'.heap[q]? = w.heap[q]? := by
    intro q ⟨h1, h2⟩ h3
    refine ⟨⟨h1, ?_⟩, hg.block q h3 (fun e => h2 e.symm)⟩
    rcases hob with e | ⟨g, e, hg⟩
    · rw [e]; exact h2
    · rw [e]; intro e2; injection e2 with e2; omega
  refine ⟨?_, ?_, (h.all.imp fun v x hx => hx.move hmv hg.size).snoc (hv.move hmv hg.size)⟩
  · rw [flat_append, flat_one]; exact hown
  · rw [List.length_append, h.len]; rfl
/-- '[]api.Ref{r}' -/
theorem wpList_build_ref {ops : Array Oper} {rest : List Oper} {o : Oper} {a : Act} {Q : Exit → Act → World → Prop} (hg : o.guard = none) (parts : Array (Nat × Operand)) (ho : o.op = .buildSlice 27 1 parts)
    (k : Int) (d : List UInt8) (n : Nat) (hd : d.length = 32) (hp : parts.toList.map (fun (i, x) => (i, a.eval x)) = [(0, .agg (refRow k d A n c))])
    (h : wpList Try.prog ops Q rest (a.put o.dst (.slice (some ⟨w.heap.size, 0, none⟩) 1 1)) (w.alloc (.cells (refRow k d A n c) 26))) : wpList Try.prog ops Q (o :: rest) a w := by
  obtain ⟨i0, hi, hz0, hz1, hz2⟩ := info_parts info_ref4
  refine wpList_buildSlice hg 27 26 1 parts ho (refRow k d A n c) i0 (.agg refZ) Try.underlying27 hi hz0 (by rw [hz1]; decide) (by rw [hz1]; decide) ?_ h
  rw [Array.toList_map, hp, hz1]
  have hl : (refCells k d A n c).length = 34 := refCells_length hd
  have hc0 : ((Array.range (1 * 34)).map ((Value.agg refZ).cells[· % (Value.agg refZ).cells.size]!)).size = 34 := by simp
  generalize (Array.range (1 * 34)).map ((Value.agg refZ).cells[· % (Value.agg refZ).cells.size]!) = cs0 at *
  have hf := fold_set (.agg (refRow k d A n c)) (refCells k d A n c) rfl 0 cs0 (by rw [hl, hc0]; omega)
  unfold Instr.fill
  rw [show (some (0 * 34, 34) : Option (Nat × Nat)) = some (0, 34) from rfl]
  simp only
  rw [if_neg (by
    show ¬ ((decide ((refRow k d A n c).size ≠ 34) || decide (0 + (refRow k d A n c).size > cs0.size)) = true)
    rw [refRow_size hd, hc0]; decide)]
  unfold Instr.fill
  rw [hf]
  congr 1
  have : cs0.toList.drop (0 + 34) = [] := List.drop_eq_nil_of_le (by rw [Array.length_toList, hc0]; omega)
  rw [hl, this]
  simp [refRow]
/-- 'x = append(x, r)' -/
theorem wpList_append_ref {ops : Array Oper} {rest : List Oper} {o : Oper} {a : Act} {Q : Exit → Act → World → Prop} {gx : Nat} {k : Int} {d : List UInt8} {A1 : Option Addr} {n1 c1 : Nat} {x : Nd.Rf} (hgd : o.guard = none) (s y : Operand)
    (ho : o.op = .call { callee := .builtin .append, args := #[s, y], argTypes := #[27, 27] })
    (h : RfL B w A m c vs rs) (hB : B ≤ w.heap.size) (hs : a.eval s = .slice A m c) (hx : a.eval y = .slice (some ⟨gx, 0, none⟩) 1 1) (hgx : gx < w.heap.size) (hd : d.length = 32) (hb : Blk w gx 26 (refRow k d A1 n1 c1)) (hv : RefIn (Apart (fun _ => False) B (.slice A m c)) w (.agg (refRow k d A1 n1 c1)) x)
    (hlim : m < 16777216)
    (H : ∀ A' c' w', RfL B w' A' (m + 1) c' (vs ++ [.agg (refRow k d A1 n1 c1)]) (rs ++ [x]) → w.grownBy w' (Value.slice A m c).ownBlock → wpList Try.prog ops Q rest (a.put o.dst (.slice A' (m + 1) c')) w') : wpList Try.prog ops Q (o :: rest) a w := by
  obtain ⟨i0, hi, hz0, hz1, hz2⟩ := info_parts info_ref4
  have hl : (refCells k d A1 n1 c1).length = 34 := refCells_length hd
  have hr : Reads w (gx + 1) 34 (some ⟨gx, 0, none⟩) 1 (refCells k d A1 n1 c1) := ⟨by rw [hl], fun _ => ⟨gx, 0, rfl, by omega, fun j u hu => by
    rw [Nat.zero_add, hb.cell j, ← Array.getElem?_toList]; exact hu⟩⟩
  refine wpList_append_any w hgd s y 27 ho B 26 i0 (.agg refZ) 34 64 Try.underlying27 hi hz0 hz1 hz2 rfl (by omega) (.slice A m c) m (flat vs) hs h.own (gx + 1) _ 1 1 (refCells k d A1 n1 c1) hx hr (refCells_one _ _ _ _ _) (by unfold maxLen; omega) (by omega) hB ?_
  intro v' w' hown hg hob
  obtain ⟨A', c', rfl⟩ : ∃ A' c', v' = .slice A' (m + 1) c' := by
    rcases hown.2 with ⟨rfl, h0⟩ | ⟨g, cap, cur, rfl, _⟩
    · omega
    · exact ⟨_, _, rfl⟩
  exact H A' c' w' (h.snoc hv hown hg (hob.imp id fun e => ⟨_, e, Nat.le_refl _⟩)) hg
end
end Go.Proofs.YtahaaeenbahknaaRRRR
