/-
  References and nodes in memory; package node: none.
-/
import Derived.Test.YtahaaeenbahknaaRRRRNodP
import Derived.Test.YtahaaeenbahknaaRRRRDgK
import Derived.Test.YtahaaeenbahknaaRRRRRd4
namespace Go.Proofs.YtahaaeenbahknaaRRRR
open Go.RowKit

/-- a reference's cells -/
def refCells (k : Int) (d : List UInt8) (A : Option Addr) (n c : Nat) : List Value := .int .i64 k :: (bv d ++ [.slice A n c])
def refRow (k : Int) (d : List UInt8) (A : Option Addr) (n c : Nat) : Array Value := (refCells k d A n c).toArray
theorem refCells_length {k : Int} {d : List UInt8} {A : Option Addr} {n c : Nat} (h : d.length = 32) : (refCells k d A n c).length = 34 := by simp [refCells, bv_length, h]
theorem refRow_zero {k : Int} {d : List UInt8} {A : Option Addr} {n c : Nat} : (refRow k d A n c)[0]? = some (.int .i64 k) := by simp [refRow, refCells]
theorem refRow_last {k : Int} {d : List UInt8} {A : Option Addr} {n c : Nat} (h : d.length = 32) : (refRow k d A n c)[33]? = some (.slice A n c) := by
  simp only [refRow, refCells, List.getElem?_toArray, List.getElem?_cons_succ]
  rw [List.getElem?_append_right (by rw [bv_length]; omega), bv_length, h]
  rfl
theorem info_ref : (Try.prog.info? 26).map (·.size) = some 34 := by kernel_rfl
theorem refRow_size {k : Int} {d : List UInt8} {A : Option Addr} {n c : Nat} (h : d.length = 32) : (refRow k d A n c).size = 34 := by simp [refRow, refCells_length h]
theorem refCells_one (k : Int) (d : List UInt8) (A : Option Addr) (n c : Nat) : ∀ u ∈ refCells k d A n c, u.oneCell' = true := by
  intro u hu
  simp only [refCells, List.mem_cons, List.mem_append, List.not_mem_nil, or_false] at hu
  rcases hu with rfl | hu | rfl
  · rfl
  · exact bv_one d u hu
  · rfl
theorem Blk.dig {w : World} {g : Nat} {k : Int} {d : List UInt8} {A : Option Addr} {n c : Nat} (h : Blk w g 26 (refRow k d A n c)) : w.rangeAt g 1 (bv d) := by
  intro j u hu
  have hj := (List.getElem?_eq_some_iff.1 hu).1
  rw [h.cell (1 + j)]
  simp only [refRow, refCells, List.getElem?_toArray]
  rw [Nat.add_comm 1 j, List.getElem?_cons_succ, List.getElem?_append_left hj]
  exact hu
/-- a reference in memory -/
def RefIn (S : Nat → Prop) (w : World) (v : Value) (r : Nd.Rf) : Prop := ∃ A n c, v = .agg (refRow r.kind r.dig A n c) ∧ r.dig.length = 32 ∧ n = r.inl.length ∧ n ≤ c ∧ c ≤ maxLen ∧ InS S w 1 A n (bv r.inl)
/-- an operation that is wanted, guarded or not -/
theorem wpList_wanted {P : Program} {ops : Array Oper} {Q : Exit → Act → World → Prop} {a : Act} {w : World} {rest : List Oper} {o : Oper} (hw : Region.wanted o (yielded ops a.tmps) = true)
    (h : ∀ K : Act → World → Prop, (∀ a w, wpList P ops Q rest a w → K a w) → o.wp P a w K Q) : wpList P ops Q (o :: rest) a w :=
  wpList_step fun K hK => by rw [if_pos hw]; exact h K hK
theorem wpList_mid_g {P : Program} {ops : Array Oper} {rest : List Oper} {op : Oper} {a : Act} {w : World} {Q : Exit → Act → World → Prop} (hw : Region.wanted op (yielded ops a.tmps) = true) (ty : TypeId) (x : Operand) (ho : op.op = .load ty x)
    (b o : Nat) (hx : a.eval x = .pointer (some ⟨b, o, none⟩)) (cs : List Value) (d : TypeDesc) (hc : w.rangeAt b o cs)
    (hu : P.underlying ty = some d) (hd : d.isRow = true) (hi : (P.info? ty).map (·.size) = some cs.length)
    (h : wpList P ops Q rest (a.put op.dst (.agg cs.toArray)) w) : wpList P ops Q (op :: rest) a w :=
  wpList_wanted hw fun _ hK => wp_load_mid ty x ho b o hx cs d hc hu hd hi (hK _ _ h)
/-- the zero digest written out -/
def digZ : Array Value := #[.int .u8 0, .int .u8 0, .int .u8 0, .int .u8 0, .int .u8 0, .int .u8 0, .int .u8 0, .int .u8 0, .int .u8 0, .int .u8 0, .int .u8 0, .int .u8 0, .int .u8 0, .int .u8 0, .int .u8 0, .int .u8 0, .int .u8 0, .int .u8 0, .int .u8 0, .int .u8 0, .int .u8 0, .int .u8 0, .int .u8 0, .int .u8 0, .int .u8 0, .int .u8 0, .int .u8 0, .int .u8 0, .int .u8 0, .int .u8 0, .int .u8 0, .int .u8 0]
theorem run_eql_zero (d : List UInt8) (hd : d.length = 32) (w : World) : (binOp .eql 24 (.agg (bv d).toArray) (.agg #[.int .u8 0, .int .u8 0, .int .u8 0, .int .u8 0, .int .u8 0, .int .u8 0, .int .u8 0, .int .u8 0, .int .u8 0, .int .u8 0, .int .u8 0, .int .u8 0, .int .u8 0, .int .u8 0, .int .u8 0, .int .u8 0, .int .u8 0, .int .u8 0, .int .u8 0, .int .u8 0, .int .u8 0, .int .u8 0, .int .u8 0, .int .u8 0, .int .u8 0, .int .u8 0, .int .u8 0, .int .u8 0, .int .u8 0, .int .u8 0, .int .u8 0, .int .u8 0])).run Try.prog w = .ok (.bool (decide (d = Nd.z32))) w :=
  run_eql_dig d Nd.z32 hd rfl w
/-- a node's cells -/
def nodCells (k : Int) (Ap : Option Addr) (np cp : Nat) (Av : Option Addr) (nv cv : Nat) (ck : Int) (cd : List UInt8) (Ac : Option Addr) (nc cc : Nat) (Ak : Option Addr) (nk kk : Nat) : List Value :=
  .int .i64 k :: .slice Ap np cp :: .slice Av nv cv :: (refCells ck cd Ac nc cc ++ [.slice Ak nk kk])
theorem nodCells_length {k ck : Int} {Ap Av Ac Ak : Option Addr} {np cp nv cv nc cc nk kk : Nat} {cd : List UInt8} (h : cd.length = 32) : (nodCells k Ap np cp Av nv cv ck cd Ac nc cc Ak nk kk).length = 38 := by
  simp [nodCells, refCells_length h]
theorem nodCells_one (k ck : Int) (Ap Av Ac Ak : Option Addr) (np cp nv cv nc cc nk kk : Nat) (cd : List UInt8) : ∀ u ∈ nodCells k Ap np cp Av nv cv ck cd Ac nc cc Ak nk kk, u.oneCell' = true := by
  intro u hu
  simp only [nodCells, List.mem_cons, List.mem_append, List.not_mem_nil, or_false] at hu
  rcases hu with rfl | rfl | rfl | hu | rfl
  · rfl
  · rfl
  · rfl
  · exact refCells_one _ _ _ _ _ u hu
  · rfl
theorem info_node : (Try.prog.info? 29).map (·.size) = some 38 := by kernel_rfl
/-- a node in memory -/
def NodIn (S : Nat → Prop) (w : World) (v : Value) (x : Nd.No) : Prop := ∃ (Ap : Option Addr) (np cp : Nat) (Av : Option Addr) (nv cv : Nat) (Ac : Option Addr) (nc cc : Nat) (Ak : Option Addr) (nk kk : Nat) (vs : List Value),
  v = .agg (nodCells x.kind Ap np cp Av nv cv x.child.kind x.child.dig Ac nc cc Ak nk kk).toArray ∧ x.child.dig.length = 32 ∧
  (np = x.path.length ∧ np ≤ cp ∧ cp ≤ maxLen ∧ InS S w 1 Ap np (bv x.path)) ∧ (nv = x.value.length ∧ nv ≤ cv ∧ cv ≤ maxLen ∧ InS S w 1 Av nv (bv x.value)) ∧
  (nc = x.child.inl.length ∧ nc ≤ cc ∧ cc ≤ maxLen ∧ InS S w 1 Ac nc (bv x.child.inl)) ∧ nk = x.kids.length ∧ nk ≤ kk ∧ kk ≤ maxLen ∧ InS S w 34 Ak nk (flat vs) ∧ All2 (RefIn S w) vs x.kids
theorem NodIn.row {S : Nat → Prop} {w : World} {v : Value} {x : Nd.No} (h : NodIn S w v x) : ∃ cs : List Value, v = .agg cs.toArray ∧ cs.length = 38 ∧ (∀ u ∈ cs, u.oneCell' = true) ∧ cs[0]? = some (.int .i64 x.kind) := by
  obtain ⟨Ap, np, cp, Av, nv, cv, Ac, nc, cc, Ak, nk, kk, vs, rfl, hd, _⟩ := h
  exact ⟨_, rfl, nodCells_length hd, nodCells_one _ _ _ _ _ _ _ _ _ _ _ _ _ _ _, rfl⟩
def noZ : Array Value := #[.int .i64 0, .slice none 0 0, .slice none 0 0, .int .i64 0, .int .u8 0, .int .u8 0, .int .u8 0, .int .u8 0, .int .u8 0, .int .u8 0, .int .u8 0, .int .u8 0, .int .u8 0, .int .u8 0, .int .u8 0, .int .u8 0, .int .u8 0, .int .u8 0, .int .u8 0, .int .u8 0, .int .u8 0, .int .u8 0, .int .u8 0, .int .u8 0, .int .u8 0, .int .u8 0, .int .u8 0, .int .u8 0, .int .u8 0, .int .u8 0, .int .u8 0, .int .u8 0, .int .u8 0, .int .u8 0, .int .u8 0, .int .u8 0, .slice none 0 0, .slice none 0 0]
/-- what node.Decode answers -/
def NodQ (b : List UInt8) (w : World) (e : Ending) (w' : World) : Prop := Below w.heap.size w w' ∧ match Nd.dec b with
  | some x => ∃ v, e = .returned (.tuple #[v, .int .i64 0]) ∧ NodIn (fun q => w.heap.size ≤ q) w' v x
  | none => e = .returned (.tuple #[.agg noZ, .int .i64 50])
/-- the contract of node.Decode at these bytes -/
def NodC (b : List UInt8) : Prop := ∀ (A : Option Addr) (n c : Nat) (w : World), Bytes w w.heap.size A n c b → Calls Try.prog 10 #[.slice A n c] w (NodQ b w)
/-- what is stored of Decode's answer: a row, and its kind -/
theorem NodQ.rows {b : List UInt8} {w w' : World} {e : Ending} (h : NodQ b w e w') : ∃ (cs : List Value), e = .returned (.tuple #[.agg cs.toArray, .int .i64 (if (Nd.dec b).isSome = true then 0 else 50)]) ∧ cs.length = 38 ∧ (∀ u ∈ cs, u.oneCell' = true) ∧ cs[0]? = some (.int .i64 ((Nd.dec b).getD Nd.no0).kind) ∧ Below w.heap.size w w' := by
  obtain ⟨hb, h⟩ := h
  cases hd : Nd.dec b with
  | none =>
    rw [hd] at h
    subst h
    refine ⟨noZ.toList, rfl, rfl, ?_, rfl, hb⟩
    have : noZ.toList.all (·.oneCell') = true := by kernel_rfl
    exact fun u hu => List.all_eq_true.1 this u hu
  | some x =>
    rw [hd] at h
    obtain ⟨v, rfl, hv⟩ := h
    obtain ⟨cs, rfl, h1, h2, h3⟩ := hv.row
    exact ⟨cs, rfl, h1, h2, h3, hb⟩
set_option maxHeartbeats 1000000 in
set_option maxRecDepth 100000 in
theorem node_none (k : Int) (d : List UInt8) (A : Option Addr) (n c : Nat) (w : World) (hd : d.length = 32) :
    Calls Try.prog 15 #[.agg (refRow k d A n c)] w fun e w' => e = .returned (.bool (decide (k = 0 ∧ d = Nd.z32 ∧ n = 0))) ∧ Below w.heap.size w w' := by
  have hb := Blk.new w 26 (refRow k d A n c)
  have hbe := (Below.refl w.heap.size w).alloc (Nat.le_refl _) (.cells (refRow k d A n c) 26)
  have hrg := hb.dig
  have hsz := refRow_size (k := k) (A := A) (n := n) (c := c) hd
  have g0 : (w.alloc (.cells (refRow k d A n c) 26)).cell? ⟨w.heap.size, 0, none⟩ = some (.int .i64 k) := (hb.cell 0).trans refRow_zero
  have g33 : (w.alloc (.cells (refRow k d A n c) 26)).cell? ⟨w.heap.size, 33, none⟩ = some (.slice A n c) := (hb.cell 33).trans (refRow_last hd)
  have heq := run_eql_zero d hd
  replace hb := Lib.hid hb
  replace hbe := Lib.hid hbe
  replace hsz := Lib.hid hsz
  generalize refRow k d A n c = R at *
  go_enter Try.func15, Try.ntmps15
  by_cases hk : k = 0
  · subst hk
    by_cases hz : d = Nd.z32
    · rw [decide_eq_true hz] at heq
      replace hz := Lib.hid hz
      go_wp2_with (refine wpList_mid_g (by rfl) 24 _ rfl w.heap.size 1 rfl (bv d) _ hrg Try.underlying24 rfl (by rw [bv_length, hd]; exact info_digest) ?_)
      go_ret
      exact ⟨ret_bool (by rw [Bool.eq_iff_iff]; simp [hz.out]; try omega), hbe.out⟩
    · rw [decide_eq_false hz] at heq
      replace hz := Lib.hid hz
      go_wp2_with (refine wpList_mid_g (by rfl) 24 _ rfl w.heap.size 1 rfl (bv d) _ hrg Try.underlying24 rfl (by rw [bv_length, hd]; exact info_digest) ?_)
      go_ret
      exact ⟨ret_bool (by rw [Bool.eq_iff_iff]; simp [hz.out]; try omega), hbe.out⟩
  · go_wp2_with fail
    go_ret
    exact ⟨ret_bool (by simp [hk]), hbe.out⟩
end Go.Proofs.YtahaaeenbahknaaRRRR
