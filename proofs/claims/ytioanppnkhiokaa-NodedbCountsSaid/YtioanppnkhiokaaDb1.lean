/-
  The store's functions: New, Len, Get, Put, Drop.
-/
import Derived.Test.YtioanppnkhiokaaDbM
import Derived.Carry
import Derived.Lib.ConvBytes
namespace Go.Proofs.Ytioanppnkhiokaa
open Go.RowKit

def held (t : ByteArray) (n : Int) : Value := .agg #[.string t, .int .i64 n]
structure StoreIs (w : World) (S b : Nat) (most : Int) (m : Assoc) : Prop where
  cells : Blk w S 77 #[.int .i64 most, .map (some b)]
  map : MapIs w b m
  ne : S ≠ b
section
variable {w w' : World} {S b : Nat} {most : Int} {m : Assoc}
theorem StoreIs.below {B : Nat} (h : StoreIs w S b most m) (hb : Below B w w') (h1 : S < B) (h2 : b < B) : StoreIs w' S b most m := ⟨h.cells.below hb h1, h.map.below hb h2, h.ne⟩
theorem StoreIs.step (h : StoreIs w S b most m) (hb : Below w.heap.size w w') : StoreIs w' S b most m := h.below hb h.cells.lt h.map.lt
theorem StoreIs.alloc (h : StoreIs w S b most m) (o : Obj) : StoreIs (w.alloc o) S b most m := ⟨h.cells.alloc o, h.map.alloc o, h.ne⟩
theorem StoreIs.drew (h : StoreIs w S b most m) : StoreIs w.drew S b most m := ⟨h.cells.drew, h.map.drew, h.ne⟩
theorem StoreIs.grown {g : Nat} (h : StoreIs w S b most m) (hg : w.grownBy w' (some g)) (h1 : S ≠ g) (h2 : b ≠ g) : StoreIs w' S b most m := ⟨h.cells.grown hg h1, h.map.grown hg h2, h.ne⟩
end
/-- reads of whole rows, in a region that draws -/
theorem wpStill_load_row {P : Program} {ops : Array Oper} {w : World} {Q : Act → Prop} {o : Oper} {rest : List Oper} {a : Act} (hgd : o.guard = none) (ty : TypeId) (x : Operand) (ho : o.op = .load ty x)
    (g : Nat) (hx : a.eval x = .pointer (some ⟨g, 0, none⟩)) (t : TypeId) (cs : Array Value) (fr : Nat × Nat) (d : TypeDesc) (hg : w.heap[g]? = some (.cells cs t fr))
    (hu : P.underlying ty = some d) (hd : (match d with | .struct _ | .array _ _ => true | _ => false) = true) (hi : (P.info? ty).map (·.size) = some cs.size)
    (h : wpStill P ops w Q rest (a.put o.dst (.agg cs))) : wpStill P ops w Q (o :: rest) a := by
  refine wpStill_step fun K hK => ?_
  have hw : Region.wanted o (yielded ops a.tmps) = true := by simp [Region.wanted, hgd]
  rw [if_pos hw]
  unfold Oper.still execOp
  simp only [ho, hx, Instr.loadAt, Instr.sureAddr, Sem.run_bind, Sem.run_pure, Result.andThen_ok, run_loadVar_row w g t ty cs fr d hg hu hd hi]
  exact ⟨rfl, hK _ h⟩
section
variable {w : World} {ops : Array Oper} {rest : List Oper} {o : Oper} {a : Act} {Q : Exit → Act → World → Prop}
theorem run_len_map {b : Nat} {m : Assoc} {k e : TypeId} {t ty : TypeId} (ht : Try.prog.underlying t = some (.map k e)) (h : MapIs w b m) : (Builtin.len_ #[t] ty #[.map (some b)]).run Try.prog w = .ok (.int .i64 m.length) w := by
  obtain ⟨es, clock, hb, hs⟩ := h.size
  simp [Builtin.len_, run_underlying ht, MapKept.run_getObj_map hb, goInt, hs]
theorem wpList_len_map (hg : o.guard = none) (x : Operand) (t : TypeId) (hop : o.op = Op.call { callee := Callee.builtin Builtin.len, args := #[x], argTypes := #[t] })
    (k e : TypeId) (ht : Try.prog.underlying t = some (.map k e)) (b : Nat) (m : Assoc) (hm : a.eval x = .map (some b)) (h : MapIs w b m)
    (hK : wpList Try.prog ops Q rest (a.put o.dst (.int .i64 m.length)) w) : wpList Try.prog ops Q (o :: rest) a w := by
  refine wpList_plain hg fun K' hK' => ?_
  unfold Oper.wp
  simp [execOp, hop, resolve, invoke, builtin, hm, run_len_map ht h, Result.andThen]
  exact hK' _ _ hK
theorem wp_update_map {K : Act → World → Prop} (mm x v : Operand) (t : TypeId) (hop : o.op = Op.mapUpdate t mm x v)
    (e : TypeId) (ht : Try.prog.underlying t = some (.map 30 e)) (b : Nat) (m : Assoc) (hm : a.eval mm = .map (some b)) (h : MapIs w b m)
    (d : List UInt8) (hd : d.length = 32) (val : Value) (hx : a.eval x = .agg (row32 d)) (hv : a.eval v = val)
    (hK : ∀ w', MapIs w' b (m.put d val) → w.grownBy w' (some b) → K (a.put o.dst undef) w') : o.wp Try.prog a w K Q := by
  obtain ⟨w', hrun, r1, r2⟩ := h.update ht d hd val
  unfold Oper.wp
  simp [execOp, hop, hm, hx, hv, hrun, Result.andThen]
  exact hK w' r1 r2
theorem wp_delete_map {K : Act → World → Prop} (mm x : Operand) (t : TypeId) (hop : o.op = Op.call { callee := Callee.builtin Builtin.delete, args := #[mm, x], argTypes := #[t, 30] })
    (e : TypeId) (ht : Try.prog.underlying t = some (.map 30 e)) (b : Nat) (m : Assoc) (hm : a.eval mm = .map (some b)) (h : MapIs w b m)
    (d : List UInt8) (hd : d.length = 32) (hx : a.eval x = .agg (row32 d))
    (hK : ∀ w', MapIs w' b (m.del d) → w.grownBy w' (some b) → K (a.put o.dst (.tuple #[])) w') : o.wp Try.prog a w K Q := by
  obtain ⟨w', hrun, r1, r2⟩ := h.delete (ty := o.type) ht d hd
  unfold Oper.wp
  simp [execOp, hop, resolve, invoke, builtin, hm, hx, hrun, Result.andThen]
  exact hK w' r1 r2
theorem wpList_update_map (hg : o.guard = none) (mm x v : Operand) (t : TypeId) (hop : o.op = Op.mapUpdate t mm x v)
    (e : TypeId) (ht : Try.prog.underlying t = some (.map 30 e)) (b : Nat) (m : Assoc) (hm : a.eval mm = .map (some b)) (h : MapIs w b m)
    (d : List UInt8) (hd : d.length = 32) (val : Value) (hx : a.eval x = .agg (row32 d)) (hv : a.eval v = val)
    (hK : ∀ w', MapIs w' b (m.put d val) → w.grownBy w' (some b) → wpList Try.prog ops Q rest (a.put o.dst undef) w') : wpList Try.prog ops Q (o :: rest) a w := by
  refine wpList_plain hg fun K' hK' => ?_
  obtain ⟨w', hrun, r1, r2⟩ := h.update ht d hd val
  unfold Oper.wp
  simp [execOp, hop, hm, hx, hv, hrun, Result.andThen]
  exact hK' _ _ (hK w' r1 r2)
theorem wpList_delete_map (hg : o.guard = none) (mm x : Operand) (t : TypeId) (hop : o.op = Op.call { callee := Callee.builtin Builtin.delete, args := #[mm, x], argTypes := #[t, 30] })
    (e : TypeId) (ht : Try.prog.underlying t = some (.map 30 e)) (b : Nat) (m : Assoc) (hm : a.eval mm = .map (some b)) (h : MapIs w b m)
    (d : List UInt8) (hd : d.length = 32) (hx : a.eval x = .agg (row32 d))
    (hK : ∀ w', MapIs w' b (m.del d) → w.grownBy w' (some b) → wpList Try.prog ops Q rest (a.put o.dst (.tuple #[])) w') : wpList Try.prog ops Q (o :: rest) a w := by
  refine wpList_plain hg fun K' hK' => ?_
  obtain ⟨w', hrun, r1, r2⟩ := h.delete (ty := o.type) ht d hd
  unfold Oper.wp
  simp [execOp, hop, resolve, invoke, builtin, hm, hx, hrun, Result.andThen]
  exact hK' _ _ (hK w' r1 r2)
end
theorem db_New (most : Int) (w : World) : Calls Try.prog 16 #[.int .i64 most] w fun e w' => ∃ S b, e = .returned (.pointer (some ⟨S, 0, none⟩)) ∧
    w.heap.size ≤ b ∧ b < S ∧ StoreIs w' S b most [] ∧ Below w.heap.size w w' := by
  have hmm := @run_makeMap Try.prog
  go_enter Try.func16, Try.ntmps16
  go_wp2
  go_ret
  exact ⟨_, _, rfl, Nat.le_refl _, Nat.lt_succ_self _, ⟨Blk.new' (by simp), (MapIs.new w).alloc _, by simp⟩, ((Below.refl _ _).alloc (Nat.le_refl _) _).alloc (by simp) _⟩
/-- two results, the first of them a whole row -/
theorem results_row_tmp {P : Program} {fn : Func} {p q : Tmp} {ty : TypeId} (h : fn.results = #[.cell p ty, .tmp q]) (tmps : Array Value) (w : World) (g : Nat) (t : TypeId) (cs : Array Value) (fr : Nat × Nat) (d : TypeDesc) (v : Value)
    (hp : tmps.getD p undef = .pointer (some ⟨g, 0, none⟩)) (hq : tmps.getD q undef = v) (hg : w.heap[g]? = some (.cells cs t fr))
    (hu : P.underlying ty = some d) (hd : (match d with | .struct _ | .array _ _ => true | _ => false) = true) (hi : (P.info? ty).map (·.size) = some cs.size) :
    (results fn tmps).run P w = .ok (.tuple #[.agg cs, v]) w := by
  have hp' : tmps[p]?.getD undef = .pointer (some ⟨g, 0, none⟩) := by simpa using hp
  have hq' : tmps[q]?.getD undef = v := by simpa using hq
  simp [results, h, hp', hq', asAddr, run_loadVar_row w g t ty cs fr d hg hu hd hi]
set_option maxRecDepth 100000 in
theorem db_Len (S b : Nat) (most : Int) (m : Assoc) (w : World) (h : StoreIs w S b most m) :
    Calls Try.prog 15 #[.pointer (some ⟨S, 0, none⟩)] w fun e w' => e = .returned (.int .i64 m.length) ∧ w = w' := by
  have g1 : w.cell? ⟨S, 1, none⟩ = some (.map (some b)) := h.cells.cell 1
  have H := Lib.hid h.map
  clear h
  go_enter Try.func15, Try.ntmps15
  go_wp2_with (refine wpList_len_map rfl _ 75 rfl _ _ Try.underlying75 b m rfl H.out ?_)
  go_ret
  exact ⟨rfl, rfl⟩
/-- a text's bytes, made anew -/
def PostR (w : World) (l : List UInt8) (e : Ending) (w' : World) : Prop := ∃ g c, e = .returned (.slice (some ⟨g, 0, none⟩) l.length c) ∧ w.heap.size ≤ g ∧
  Bytes w' w'.heap.size (some ⟨g, 0, none⟩) l.length c l ∧ (∀ j, j < l.length → w'.frozen? ⟨g, j, none⟩ = false) ∧ Below w.heap.size w w'
theorem conv_post (t : ByteArray) (w : World) (e : TypeId) (ht : t.size ≤ 140737488355328) : Bytes (Lib.bytesWorld w e t) (Lib.bytesWorld w e t).heap.size (some ⟨w.heap.size, 0, none⟩) t.size (grownCap w t.size 0 e) t.data.toList ∧
    (∀ j, j < t.data.toList.length → (Lib.bytesWorld w e t).frozen? ⟨w.heap.size, j, none⟩ = false) ∧ Below w.heap.size w (Lib.bytesWorld w e t) := by
  have hsz : t.data.toList.length = t.size := Array.length_toList
  refine ⟨⟨hsz.symm, grownCap_ge w t.size 0 e, grownCap_le_maxLen w t.size 0 e (by unfold maxLen; omega), ?_⟩, ?_, ⟨rfl, rfl, rfl, ?_, fun k hk => Lib.bytesWorld_at_old w e t k hk⟩⟩
  · refine ⟨by rw [bv_length, hsz, Nat.mul_one], fun _ => ⟨w.heap.size, 0, rfl, by rw [Lib.bytesWorld_size]; omega, fun j u hu => ?_⟩⟩
    have hj : j < t.data.toList.length := by have := (List.getElem?_eq_some_iff.1 hu).1; rwa [bv_length] at this
    rw [bv_at _ _ hj] at hu
    rw [Nat.zero_add, Lib.bytesWorld_cell w e t j (by omega), ← hu]
    have hj' : j < t.data.size := by rwa [Array.length_toList] at hj
    have e : t.data[j]? = some t.data[j] := Array.getElem?_eq_getElem hj'
    simp [List.getD, e]
  · intro j hj
    have hc : j < (Lib.bytesCells w e t).size := by simp [Lib.bytesCells]; have : t.data.size = t.size := rfl; omega
    simp [World.frozen?, Lib.bytesWorld_at_new]
    omega
  · rw [Lib.bytesWorld_size]; omega
set_option maxRecDepth 100000 in
theorem db_Bytes (t : ByteArray) (w : World) (ht : t.size ≤ 140737488355328) : Calls Try.prog 10 #[.string t] w (PostR w t.data.toList) := by
  have hcv := Lib.run_convert_string_bytes (P := Try.prog) w 25 26 5 t Try.underlying25 Try.underlying26 Try.underlying5
  have HP := Lib.hid (conv_post t w 5 ht)
  clear ht
  go_enter Try.func10, Try.ntmps10
  go_wp2
  go_ret
  have hsz : t.data.toList.length = t.size := Array.length_toList
  exact ⟨w.heap.size, grownCap w t.size 0 5, by rw [hsz]; rfl, Nat.le_refl _, by rw [hsz]; exact HP.out.1, HP.out.2⟩
end Go.Proofs.Ytioanppnkhiokaa
