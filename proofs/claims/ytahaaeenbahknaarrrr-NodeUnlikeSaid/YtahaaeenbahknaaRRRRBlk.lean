/-
  Blocks known whole; worlds that have grown; small steps of walks. No function of the program.
-/
import Derived.Test.YtahaaeenbahknaaRRRRMid
import Derived.Test.YtahaaeenbahknaaRRRRReg
import Derived.WalkMore
import Derived.Still
namespace Go.Proofs.YtahaaeenbahknaaRRRR
open Go.RowKit

/-- block g is just these cells -/
def Blk (w : World) (g : Nat) (t : TypeId) (cs : Array Value) : Prop := w.heap[g]? = some (.cells cs t (0, 0))
section
variable {w w' : World} {g : Nat} {t : TypeId} {cs : Array Value}
theorem Blk.lt (h : Blk w g t cs) : g < w.heap.size := (Array.getElem?_eq_some_iff.1 h).1
theorem Blk.cell (h : Blk w g t cs) (i : Nat) : w.cell? ⟨g, i, none⟩ = cs[i]? := cell_of_row w g i cs t (0, 0) h
theorem Blk.frozen (h : Blk w g t cs) (i : Nat) : w.frozen? ⟨g, i, none⟩ = false := by
  unfold Blk at h
  simp [World.frozen?, h]
theorem Blk.new (w : World) (t : TypeId) (cs : Array Value) : Blk (w.alloc (.cells cs t)) w.heap.size t cs := heap_alloc_new w _
theorem Blk.new' {w : World} {g : Nat} {t : TypeId} {cs : Array Value} (hg : g = w.heap.size) : Blk (w.alloc (.cells cs t)) g t cs := by subst hg; exact heap_alloc_new w _
theorem Blk.drew (h : Blk w g t cs) : Blk w.drew g t cs := h
theorem Blk.alloc (h : Blk w g t cs) (o : Obj) : Blk (w.alloc o) g t cs := (Below.heap_alloc w o g h.lt).trans h
theorem Blk.set_ (h : Blk w g t cs) (i : Nat) (u : Value) : Blk (w.setCell ⟨g, i, none⟩ u) g t (cs.setIfInBounds i u) := by
  unfold Blk at h ⊢
  simp [World.setCell, Array.getElem?_modify, h]
theorem Blk.far (h : Blk w g t cs) {p : Addr} (hp : g ≠ p.block) (u : Value) : Blk (w.setCell p u) g t cs := (Below.heap_setCell w p u g hp).trans h
theorem Blk.below {B : Nat} (h : Blk w g t cs) (hb : Below B w w') (hg : g < B) : Blk w' g t cs := (hb.block g hg).trans h
theorem Blk.eq {cs' : Array Value} (h : Blk w g t cs) (e : cs = cs') : Blk w g t cs' := e ▸ h
end
theorem Blk.row {w : World} {g : Nat} {t : TypeId} {cs : Array Value} (h : Blk w g t cs) (cs' : Array Value) : Blk (w.setRow g cs') g t cs' := setRow_heap w g cs cs' t _ h
theorem Blk.row_far {w : World} {g g' : Nat} {t : TypeId} {cs : Array Value} (h : Blk w g t cs) (cs' : Array Value) (hg : g ≠ g') : Blk (w.setRow g' cs') g t cs := (setRow_other w g' g cs' hg).trans h
theorem below_row {a w : World} {B g : Nat} (h : Below B a w) (hg : B ≤ g) (cs : Array Value) : Below B a (w.setRow g cs) :=
  h.trans ⟨rfl, rfl, rfl, by simp, fun k hk => setRow_other w g k cs (by omega)⟩
theorem calls_at {P : Program} {f : FuncId} {args : Array Value} {w : World} {post : Ending → World → Prop} (I : World → Prop) (hI : I w) (h : ∀ w2, I w2 → Calls P f args w2 post) : Calls P f args w post := h w hI
theorem grown_set {w wr : World} {g i : Nat} {u : Value} (h : w.grownBy wr (some g)) : w.grownBy (wr.setCell ⟨g, i, none⟩ u) (some g) :=
  ⟨h.os, h.tape, h.output, by rw [size_set]; exact h.size, fun k hk hne => by
    rw [Below.heap_setCell _ _ _ _ (fun e => hne (by rw [e]))]; exact h.block k hk hne⟩
theorem own_block {w : World} {base n c g : Nat} {e : TypeId} {xs : List Value} (h : w.ownsRow base e 1 (.slice (some ⟨g, 0, none⟩) n c) n xs) : ∃ cur, Blk w g e cur ∧ cur.size = c ∧ cur.toList.take n = xs ∧ n ≤ c ∧ c ≤ maxLen := by
  rcases h.2 with ⟨h, _⟩ | ⟨g0, cap, cur, hv, hbg, hg, hnc, hcm, hcs, htake⟩
  · cases h
  · simp only [Value.slice.injEq, Option.some.injEq, Addr.mk.injEq] at hv
    obtain ⟨⟨rfl, _⟩, _, rfl⟩ := hv
    exact ⟨cur, hg, by omega, by simpa using htake, hnc, hcm⟩
theorem Bytes.of_blk {w : World} {g n c : Nat} {t : TypeId} {cs : Array Value} {l : List UInt8} (h : Blk w g t cs) (ht : cs.toList.take n = bv l) (hn : n = l.length) (hc : n ≤ c) (hm : c ≤ maxLen) :
    Bytes w (g + 1) (some ⟨g, 0, none⟩) n c l := by
  refine ⟨hn, hc, hm, by rw [bv_length]; omega, fun _ => ⟨g, 0, rfl, Nat.lt_succ_self g, fun j u hu => ?_⟩⟩
  rw [Nat.zero_add, h.cell j, ← Array.getElem?_toList]
  rw [← ht, List.getElem?_take] at hu
  split at hu
  · exact hu
  · cases hu
theorem below_grown {B g : Nat} {a w w' : World} (h : Below B a w) (hg : w.grownBy w' (some g)) (hB : B ≤ g) (hs : B ≤ w.heap.size) : Below B a w' :=
  h.trans ⟨hg.os, hg.tape, hg.output, hg.size, fun k hk => hg.block k (by omega) (by simp; omega)⟩
theorem Blk.grown {w w' : World} {g g' : Nat} {t : TypeId} {cs : Array Value} (h : Blk w g t cs) (hg : w.grownBy w' (some g')) (hne : g ≠ g') : Blk w' g t cs := (hg.block g h.lt (by simp; omega)).trans h
theorem code_at {P : Program} {c : Code} {w : World} {a : Act} {Q : Exit → Act → World → Prop} (I : World → Prop) (hI : I w) (h : ∀ w2, I w2 → Code.wp P c Q a w2) : Code.wp P c Q a w := h w hI
/-- reads of whole rows, in a region that draws -/
theorem wpStill_load_row {P : Program} {ops : Array Oper} {w : World} {Q : Act → Prop} {o : Oper} {rest : List Oper} {a : Act} (hgd : o.guard = none) (ty : TypeId) (x : Operand) (ho : o.op = .load ty x)
    (g : Nat) (hx : a.eval x = .pointer (some ⟨g, 0, none⟩)) (t : TypeId) (cs : Array Value) (fr : Nat × Nat) (d : TypeDesc) (hg : w.heap[g]? = some (.cells cs t fr))
    (hu : P.underlying ty = some d) (hd : (match d with | .struct _ | .array _ _ => true | _ => false) = true) (hi : (P.info? ty).map (·.size) = some cs.size)
    (h : wpStill P ops w Q rest (a.put o.dst (.agg cs))) : wpStill P ops w Q (o :: rest) a := by
  refine wpStill_step fun K hK => ?_
  have hw : Region.wanted o (yielded ops a.tmps) = true := by simp [Region.wanted, hgd]
  rw [if_pos hw]
  unfold Oper.still execOp
  simp only [ho, hx, Instr.loadAt, Instr.sureAddr, Sem.run_bind, Sem.run_pure, Result.andThen_ok, run_loadVar_row w g t ty cs fr d hg hu hd hi]
  exact ⟨rfl, hK _ h⟩
/-- two results, the first of them a whole row -/
theorem results_row_tmp {P : Program} {fn : Func} {p q : Tmp} {ty : TypeId} (h : fn.results = #[.cell p ty, .tmp q]) (tmps : Array Value) (w : World) (g : Nat) (t : TypeId) (cs : Array Value) (fr : Nat × Nat) (d : TypeDesc) (v : Value)
    (hp : tmps.getD p undef = .pointer (some ⟨g, 0, none⟩)) (hq : tmps.getD q undef = v) (hg : w.heap[g]? = some (.cells cs t fr))
    (hu : P.underlying ty = some d) (hd : (match d with | .struct _ | .array _ _ => true | _ => false) = true) (hi : (P.info? ty).map (·.size) = some cs.size) :
    (results fn tmps).run P w = .ok (.tuple #[.agg cs, v]) w := by
  have hp' : tmps[p]?.getD undef = .pointer (some ⟨g, 0, none⟩) := by simpa using hp
  have hq' : tmps[q]?.getD undef = v := by simpa using hq
  simp [results, h, hp', hq', asAddr, run_loadVar_row w g t ty cs fr d hg hu hd hi]
theorem grown_below {w w' : World} {b : Nat} (h : Below w.heap.size w w') : w.grownBy w' (some b) := ⟨h.os, h.tape, h.output, h.size, fun k hk _ => h.block k hk⟩
theorem grown_trans {w w1 w2 : World} {b : Nat} (h : Below w.heap.size w w1) (hg : w1.grownBy w2 (some b)) : w.grownBy w2 (some b) :=
  ⟨hg.os.trans h.os, hg.tape.trans h.tape, hg.output.trans h.output, Nat.le_trans h.size hg.size, fun k hk hne => (hg.block k (Nat.lt_of_lt_of_le hk h.size) hne).trans (h.block k hk)⟩
theorem grown_row {w w1 : World} {b g : Nat} (h : w.grownBy w1 (some b)) (hg : w.heap.size ≤ g) (cs : Array Value) : w.grownBy (w1.setRow g cs) (some b) :=
  ⟨h.os, h.tape, h.output, by simp; exact h.size, fun k hk hne => (setRow_other w1 g k cs (by omega)).trans (h.block k hk hne)⟩
theorem bytes_ext {a b : ByteArray} (h : a.data.toList = b.data.toList) : a = b := by
  cases a; cases b
  simp only at h
  congr 1
  exact Array.ext' h
section
variable {w w1 : World} {g : Nat}
theorem grown_alloc (h : w.grownBy w1 (some g)) (o : Obj) : w.grownBy (w1.alloc o) (some g) :=
  ⟨h.os, h.tape, h.output, by simp; have := h.size; omega, fun k hk hne => (Below.heap_alloc w1 o k (Nat.lt_of_lt_of_le hk h.size)).trans (h.block k hk hne)⟩
theorem grown_drew (h : w.grownBy w1 (some g)) : w.grownBy w1.drew (some g) := ⟨h.os, h.tape, h.output, h.size, h.block⟩
theorem grown_far (h : w.grownBy w1 (some g)) {p : Addr} (hp : w.heap.size ≤ p.block) (u : Value) : w.grownBy (w1.setCell p u) (some g) :=
  ⟨h.os, h.tape, h.output, by rw [size_set]; exact h.size, fun k hk hne => (Below.heap_setCell w1 p u k (by omega)).trans (h.block k hk hne)⟩
theorem grown_step {w2 : World} (h : w.grownBy w1 (some g)) (hb : Below w1.heap.size w1 w2) : w.grownBy w2 (some g) :=
  ⟨hb.os.trans h.os, hb.tape.trans h.tape, hb.output.trans h.output, Nat.le_trans h.size hb.size, fun k hk hne => (hb.block k (Nat.lt_of_lt_of_le hk h.size)).trans (h.block k hk hne)⟩
end
theorem Bytes.cutIf {w : World} {B n c k : Nat} {A : Option Addr} {l : List UInt8} (h : Bytes w B A n c l) (hk : k ≤ n) : Bytes w B (if c = k then A else A.map (·.add k)) (n - k) (c - k) (l.drop k) := by
  have := h.reads.cut hk h.cap
  simp only [Nat.mul_one] at this
  exact ⟨by rw [List.length_drop, h.len], by have := h.cap; omega, by have := h.lim; omega, by rw [bv, List.map_drop]; exact this⟩
theorem Bytes.takeN {w : World} {B n c k : Nat} {A : Option Addr} {l : List UInt8} (h : Bytes w B A n c l) (hk : k ≤ n) : Bytes w B A k c (l.take k) := by
  have := h.reads.take hk
  rw [Nat.mul_one] at this
  exact ⟨by rw [List.length_take, ← h.len]; omega, by have := h.cap; omega, h.lim, by rw [bv, List.map_take]; exact this⟩
theorem Bytes.grown {w w1 : World} {g B n c : Nat} {A : Option Addr} {l : List UInt8} (h : Bytes w B A n c l) (hg : w.grownBy w1 (some g)) (hB : B ≤ g) (hs : B ≤ w.heap.size) : Bytes w1 B A n c l :=
  ⟨h.len, h.cap, h.lim, h.reads.keep fun p hp => World.cell?_of_block (hg.block p.block (by omega) (by simp; omega))⟩
end Go.Proofs.YtahaaeenbahknaaRRRR
