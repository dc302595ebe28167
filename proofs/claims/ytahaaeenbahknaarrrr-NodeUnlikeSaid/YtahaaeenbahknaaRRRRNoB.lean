/-
  Nodes built of parts.
-/
import Derived.Test.YtahaaeenbahknaaRRRRNoF
namespace Go.Proofs.YtahaaeenbahknaaRRRR
open Go.RowKit

theorem list_fold_set (off : Nat) : ∀ (l : List Value) (k : Nat) (cs : Array Value), off + k + l.length ≤ cs.size →
    (l.zipIdx k).foldl (fun (cs : Array Value) (p : Value × Nat) => cs.setIfInBounds (off + p.2) p.1) cs = (cs.toList.take (off + k) ++ l ++ cs.toList.drop (off + k + l.length)).toArray
  | [], k, cs, _ => by simp
  | v :: l, k, cs, h => by
    rw [List.zipIdx_cons, List.foldl_cons, list_fold_set off l (k + 1) _ (by simp at h ⊢; omega)]
    simp only [List.length_cons] at h
    apply Array.ext'
    simp only [Array.toList_setIfInBounds]
    apply List.ext_getElem?
    intro i
    simp only [List.append_assoc, List.getElem?_append, List.getElem?_drop, List.getElem?_take, List.length_append, List.length_take, List.length_set, List.getElem?_set, List.length_cons, List.getElem?_cons, Array.length_toList]
    have hk : min (off + (k + 1)) cs.size = off + k + 1 := by omega
    have hk2 : min (off + k) cs.size = off + k := by omega
    rw [hk, hk2]
    by_cases h1 : i < off + k
    · rw [if_pos (by omega), if_pos (by omega), if_pos h1, if_pos h1]
      rw [if_neg (by omega)]
    · by_cases h2 : i = off + k
      · subst h2
        rw [if_pos (by omega), if_pos (by omega), if_neg h1]
        simp
        omega
      · rw [if_neg (by omega), if_neg h1]
        by_cases h3 : i < off + k + 1 + l.length
        · rw [if_pos (by omega), if_pos (by omega), if_neg (by omega)]
          congr 1 <;> omega
        · rw [if_neg (by omega), if_neg (by omega), if_neg (by omega)]
          congr 1 <;> omega
theorem fold_set (v : Value) (l : List Value) (hv : v.cells.toList = l) (off : Nat) (cs : Array Value) (h : off + l.length ≤ cs.size) :
    (v.cells.zipIdx.foldl (fun (cs : Array Value) (p : Value × Nat) => cs.setIfInBounds (off + p.2) p.1) cs) = (cs.toList.take off ++ l ++ cs.toList.drop (off + l.length)).toArray := by
  rw [← Array.foldl_toList, Array.toList_zipIdx, hv]
  exact list_fold_set off l 0 cs (by simpa using h)
def nodPlaces : Array (Nat × Nat) := #[(0, 1), (1, 1), (2, 1), (3, 34), (37, 1)]
theorem built_node (parts : List (Nat × Value)) : Try.prog.built 29 parts = Instr.fill (nodPlaces[·]?) noZ parts := by kernel_rfl
theorem wpList_built {P : Program} {ops : Array Oper} {rest : List Oper} {o : Oper} {a : Act} {w : World} {Q : Exit → Act → World → Prop} (hg : o.guard = none) (t : TypeId) (parts : Array (Nat × Operand)) (ho : o.op = .build t parts) (cells : Array Value)
    (hb : P.built t (parts.map fun (i, x) => (i, a.eval x)).toList = some cells)
    (h : wpList P ops Q rest (a.put o.dst (.agg cells)) w) : wpList P ops Q (o :: rest) a w :=
  wpList_build hg t parts ho (by rw [hb]; rfl) (by rw [hb]; exact h)
theorem built_ext (k : Int) (A : Option Addr) (n c : Nat) (rk : Int) (rd : List UInt8) (hd : rd.length = 32) (A' : Option Addr) (n' c' : Nat) :
    Try.prog.built 29 [(0, .int .i64 k), (1, .slice A n c), (3, .agg (refRow rk rd A' n' c'))] = some (nodRow k A n c none 0 0 rk rd A' n' c' none 0 0) := by
  rw [built_node]
  have hs : (refRow rk rd A' n' c').size = 34 := refRow_size hd
  have e1 : Instr.fill (nodPlaces[·]?) noZ [(0, .int .i64 k), (1, .slice A n c), (3, .agg (refRow rk rd A' n' c'))] = Instr.fill (nodPlaces[·]?) (nodRow k A n c none 0 0 0 Nd.z32 none 0 0 none 0 0) [(3, .agg (refRow rk rd A' n' c'))] := by rfl
  rw [e1]
  have hz : (nodRow k A n c none 0 0 0 Nd.z32 none 0 0 none 0 0).size = 38 := nodRow_size rfl
  have hl : (refCells rk rd A' n' c').length = 34 := refCells_length hd
  have hf := fold_set (.agg (refRow rk rd A' n' c')) (refCells rk rd A' n' c') rfl 3 (nodRow k A n c none 0 0 0 Nd.z32 none 0 0 none 0 0) (by rw [hl, hz]; omega)
  unfold Instr.fill
  have hp : nodPlaces[3]? = some (3, 34) := rfl
  simp only [hp]
  rw [if_neg (by
    show ¬ ((decide ((refRow rk rd A' n' c').size ≠ 34) || decide (3 + (refRow rk rd A' n' c').size > (nodRow k A n c none 0 0 0 Nd.z32 none 0 0 none 0 0).size)) = true)
    rw [hs, hz]; decide)]
  unfold Instr.fill
  rw [hf]
  congr 1
  rw [hl]
  rfl
end Go.Proofs.YtahaaeenbahknaaRRRR
