/-
  Package nest, what writes: a slice that is written to, beside a box that stays.
-/
import Derived.Test.YtahaaeenbahknaaRRRRNe2
namespace Go.Proofs.YtahaaeenbahknaaRRRR
open Go.RowKit

/-- in the midst of write: b0 is the block of the slice that came in; block bx (the first new one) holds a row that stays; the slice at hand lies in b0, or behind bx -/
structure WrI (w : World) (b0 : Option Nat) (B bx : Nat) (row : Array Value) (wr : World) (A : Option Addr) (m c : Nat) (l : List UInt8) : Prop where
  own : wr.ownsRow B 5 1 (.slice A m c) m (bv l)
  len : m = l.length
  gr : w.grownBy wr b0
  box : Blk wr bx 46 row
  at_ : (Value.slice A m c).ownBlock = b0 ∨ (∃ q, (Value.slice A m c).ownBlock = some q ∧ bx < q) ∨ (Value.slice A m c).ownBlock = none
section
variable {w wr w' : World} {b0 : Option Nat} {B bx m c : Nat} {row : Array Value} {A : Option Addr} {l : List UInt8}
theorem WrI.alloc (h : WrI w b0 B bx row wr A m c l) (o : Obj) : WrI w b0 B bx row (wr.alloc o) A m c l :=
  ⟨h.own.alloc o, h.len, ⟨h.gr.os, h.gr.tape, h.gr.output, by have := h.gr.size; simp; omega, fun k hk hne => (Below.heap_alloc wr o k (Nat.lt_of_lt_of_le hk h.gr.size)).trans (h.gr.block k hk hne)⟩, h.box.alloc o, h.at_⟩
/-- a callee that leaves all that was there -/
theorem WrI.below (h : WrI w b0 B bx row wr A m c l) (hb : Below wr.heap.size wr w') : WrI w b0 B bx row w' A m c l := by
  have hg : wr.grownBy w' none := ⟨hb.os, hb.tape, hb.output, hb.size, fun k hk _ => hb.block k hk⟩
  refine ⟨h.own.kept hg ?_, h.len, World.grownBy.andThen h.gr hg (fun j hj => by cases hj), h.box.below hb h.box.lt, h.at_⟩
  cases e : (Value.slice A m c).ownBlock with
  | none => exact .inl rfl
  | some q => exact .inr (by simp)
theorem WrI.bel (h : WrI w b0 B bx row wr A m c l) (hB : B ≤ w.heap.size) (hb : ∀ q, b0 = some q → B ≤ q) : Below B w wr :=
  ⟨h.gr.os, h.gr.tape, h.gr.output, h.gr.size, fun k hk => h.gr.block k (Nat.lt_of_lt_of_le hk hB) (fun e => by have := hb k e.symm; omega)⟩
/-- what an append leaves -/
theorem WrI.app {A' : Option Addr} {n c' : Nat} {t : List UInt8} (h : WrI w b0 B bx row wr A m c l) (hbx : w.heap.size = bx) (h0 : ∀ q, b0 = some q → q < w.heap.size) (hown : w'.ownsRow B 5 1 (.slice A' n c') n (bv (l ++ t))) (hn : n = (l ++ t).length)
    (hg : wr.grownBy w' (Value.slice A m c).ownBlock) (hob : (Value.slice A' n c').ownBlock = (Value.slice A m c).ownBlock ∨ (∃ q, (Value.slice A' n c').ownBlock = some q ∧ wr.heap.size ≤ q)) : WrI w b0 B bx row w' A' n c' (l ++ t) := by
  have hlt := h.box.lt
  have hne : (Value.slice A m c).ownBlock ≠ some bx := by
    intro e
    rcases h.at_ with h1 | ⟨q, h1, h2⟩ | h1
    · rw [h1] at e
      have := h0 _ e
      omega
    · rw [h1] at e; injection e with e; omega
    · rw [h1] at e; cases e
  refine ⟨hown, hn, World.grownBy.andThen h.gr hg (fun j hj => ?_), (hg.block bx hlt (fun e => hne e.symm)).trans h.box, ?_⟩
  · rcases h.at_ with h1 | ⟨q, h1, h2⟩ | h1
    · rw [h1] at hj; exact .inr hj
    · rw [h1] at hj; injection hj with hj; exact .inl (by omega)
    · rw [h1] at hj; cases hj
  · rcases hob with h1 | ⟨q, h1, h2⟩
    · rw [h1]; exact h.at_
    · exact .inr (.inl ⟨q, h1, by omega⟩)
theorem wpList_append_wr {ops : Array Oper} {rest : List Oper} {o : Oper} {a : Act} {Q : Exit → Act → World → Prop} (hgd : o.guard = none) (s x : Operand)
    (ho : o.op = .call { callee := .builtin .append, args := #[s, x], argTypes := #[22, 22] })
    (hI : WrI w b0 B bx row wr A m c l) (hbx : w.heap.size = bx) (h0 : ∀ q, b0 = some q → q < w.heap.size) (hB : B ≤ w.heap.size) (hs : a.eval s = .slice A m c)
    (B2 : Nat) (A2 : Option Addr) (k c2 : Nat) (t : List UInt8) (hx : a.eval x = .slice A2 k c2) (hr : Bytes wr B2 A2 k c2 t) (hlim : m + k ≤ 140737488355328)
    (h : ∀ A' c' w', WrI w b0 B bx row w' A' (m + k) c' (l ++ t) → wr.heap.size ≤ w'.heap.size → wpList Try.prog ops Q rest (a.put o.dst (.slice A' (m + k) c')) w') : wpList Try.prog ops Q (o :: rest) a wr := by
  obtain ⟨i0, hi, hz0, hz1, hz2⟩ := info_parts info_u8
  have hgs := hI.gr.size
  refine wpList_append_any wr hgd s x 22 ho B 5 i0 (.int .u8 0) 1 1 Try.underlying22 hi hz0 hz1 hz2 rfl (by omega) (.slice A m c) m (bv l) hs hI.own B2 A2 k c2 (bv t) hx hr.reads (bv_one _) (by unfold maxLen; omega) (by omega) (by omega) ?_
  intro v' w' h1 h2 h3
  rw [← bv_append] at h1
  obtain ⟨A', c', rfl⟩ : ∃ A' c', v' = .slice A' (m + k) c' := by
    rcases h1.2 with ⟨rfl, h0⟩ | ⟨g, cap, cur, rfl, _⟩
    · rw [h0]; exact ⟨_, _, rfl⟩
    · exact ⟨_, _, rfl⟩
  exact h A' c' w' (hI.app hbx h0 h1 (by rw [List.length_append, ← hI.len, ← hr.len]) h2 (h3.imp id fun e => ⟨_, e, Nat.le_refl _⟩)) h2.size
end
/-- what write answers -/
def WrQ (w : World) (B : Nat) (v : Value) (l : List UInt8) (e : Ending) (w' : World) : Prop := ∃ A m c, e = .returned (.slice A m c) ∧ w'.ownsRow B 5 1 (.slice A m c) m (bv l) ∧ m = l.length ∧ w.grownBy w' v.ownBlock ∧
  ((Value.slice A m c).ownBlock = v.ownBlock ∨ (∃ q, (Value.slice A m c).ownBlock = some q ∧ w.heap.size ≤ q) ∨ (Value.slice A m c).ownBlock = none)
theorem WrI.out {w wr : World} {v : Value} {B m c : Nat} {row : Array Value} {A : Option Addr} {l : List UInt8} (h : WrI w v.ownBlock B w.heap.size row wr A m c l) : WrQ w B v l (.returned (.slice A m c)) wr :=
  ⟨A, m, c, rfl, h.own, h.len, h.gr, h.at_.imp id (Or.imp (fun ⟨q, h1, h2⟩ => ⟨q, h1, Nat.le_of_lt h2⟩) id)⟩
theorem WrI.start {w : World} {B m c : Nat} {row : Array Value} {A : Option Addr} {l : List UInt8} (hown : w.ownsRow B 5 1 (.slice A m c) m (bv l)) (hm : m = l.length) :
    WrI w (Value.slice A m c).ownBlock B w.heap.size row (w.alloc (.cells row 46)) A m c l :=
  ⟨hown.alloc _, hm, ⟨rfl, rfl, rfl, by simp, fun k hk _ => Below.heap_alloc w _ k hk⟩, Blk.new w _ _, .inl rfl⟩
set_option maxHeartbeats 1000000 in
set_option maxRecDepth 100000 in
theorem write_plain (A : Option Addr) (m c B : Nat) (l : List UInt8) (A2 : Option Addr) (n c2 : Nat) (b : List UInt8) (w : World) (hown : w.ownsRow B 5 1 (.slice A m c) m (bv l)) (hm : m = l.length) (hB : B ≤ w.heap.size)
    (hb : Bytes w w.heap.size A2 n c2 b) (hpl : b.length = 1 ∧ Ns.encT.rd1 b < 128) (hlim : m + n ≤ 140737488355328) :
    Calls Try.prog 32 #[.slice A m c, txV A2 n c2] w (WrQ w B (.slice A m c) (l ++ b)) := by
  have hI := WrI.start (row := #[.bool false, .slice A2 n c2, .slice none 0 0]) hown hm
  have h0 : ∀ q, (Value.slice A m c).ownBlock = some q → q < w.heap.size := fun q e => (hown.lt q e).2
  have hb1 := hb.alloc (Nat.le_refl _) (.cells #[.bool false, .slice A2 n c2, .slice none 0 0] 46)
  have hp := plain_text A2 n c2 _ b _ hb1
  rw [decide_eq_true hpl] at hp
  replace hI := Lib.hid hI
  replace hb1 := Lib.hid hb1
  replace h0 := Lib.hid h0
  clear hown hb hm
  unfold txV at hp ⊢
  go_enter Try.func32, Try.ntmps32
  go_wp2_with fail
  refine hp.mono ?_
  rintro e w1 ⟨rfl, hbe⟩
  have hI1 := Lib.hid (hI.out.below hbe)
  have g1 : w1.cell? ⟨w.heap.size, 1, none⟩ = some (.slice A2 n c2) := hI1.out.box.cell 1
  have hb2 := Lib.hid (hb1.out.below (hbe.mono (by simp)))
  clear hp hbe hI hb1
  go_wp2_with (at_builtin; refine wpList_append_wr rfl _ _ rfl hI1.out rfl h0.out hB rfl _ _ _ _ b rfl hb2.out hlim ?_; intro A3 c3 w3 hI3 hs3)
  go_ret
  exact hI3.out
set_option maxHeartbeats 1000000 in
set_option maxRecDepth 100000 in
theorem write_text (A : Option Addr) (m c B : Nat) (l : List UInt8) (A2 : Option Addr) (n c2 : Nat) (b : List UInt8) (w : World) (hown : w.ownsRow B 5 1 (.slice A m c) m (bv l)) (hm : m = l.length) (hB : B ≤ w.heap.size)
    (hb : Bytes w B A2 n c2 b) (hpl : ¬ (b.length = 1 ∧ Ns.encT.rd1 b < 128)) (h55 : n ≤ 55) (hlim : m + n + 1 ≤ 140737488355328) :
    Calls Try.prog 32 #[.slice A m c, txV A2 n c2] w (WrQ w B (.slice A m c) (l ++ [UInt8.ofNat (128 + n)] ++ b)) := by
  have hI := WrI.start (row := #[.bool false, .slice A2 n c2, .slice none 0 0]) hown hm
  have hbq : ∀ q, (Value.slice A m c).ownBlock = some q → B ≤ q := fun q e => (hown.lt q e).1
  replace hbq := Lib.hid hbq
  have h0 : ∀ q, (Value.slice A m c).ownBlock = some q → q < w.heap.size := fun q e => (hown.lt q e).2
  have hb1 := hb.alloc hB (.cells #[.bool false, .slice A2 n c2, .slice none 0 0] 46)
  have hp := plain_text A2 n c2 _ b _ hb1
  rw [decide_eq_false hpl] at hp
  have hbd := body_text A2 n c2
  replace hI := Lib.hid hI
  replace hb1 := Lib.hid hb1
  replace h0 := Lib.hid h0
  have h55' : (n : Int) ≤ 55 := by omega
  clear hown hm hpl
  replace hb := Lib.hid hb
  unfold txV at hp hbd ⊢
  go_enter Try.func32, Try.ntmps32
  go_wp2_with fail
  refine hp.mono ?_
  rintro e w1 ⟨rfl, hbe⟩
  have hI1 := Lib.hid (hI.out.below hbe)
  have k1 := Lib.hid hI1.out.box
  have g1 : w1.cell? ⟨w.heap.size, 1, none⟩ = some (.slice A2 n c2) := hI1.out.box.cell 1
  have g0 : w1.cell? ⟨w.heap.size, 0, none⟩ = some (.bool false) := hI1.out.box.cell 0
  have hb2 := Lib.hid (hb1.out.below (hbe.mono (by simp; omega)))
  clear hp hbe hI hb1
  go_wp2_with (refine wpList_load_row rfl 46 _ rfl w.heap.size rfl _ _ _ _ k1.out Try.underlying46 rfl info_item3 ?_)
  refine (hbd w1 (by unfold maxLen; omega)).mono ?_
  rintro e w2 ⟨rfl, hbe2⟩
  have hI2 := Lib.hid (hI1.out.below hbe2)
  have hsz2 := hI1.out.gr.size
  have hb3 := Lib.hid (hb2.out.below (hbe2.mono (Nat.le_trans hB hsz2)))
  clear hbd g0 g1 k1 hI1 hb2 hbe2
  have hlit := hI2.out.alloc (.cells #[.int .u8 (128 + (n : Int))] 5)
  have e8 : IntKind.u8.wrap (128 + (n : Int)) = 128 + (n : Int) := by rw [IntKind.wrap_u8]; omega
  have e64 : IntKind.i64.wrap (128 + (n : Int)) = 128 + (n : Int) := by rw [IntKind.wrap_i64]; omega
  have hsrc := Bytes.lit1 (w := w2) (t := 5) (z := 128 + (n : Int)) (y := UInt8.ofNat (128 + n)) (by simp; omega)
  replace hlit := Lib.hid hlit
  go_wp2_with (first | (at_builtin; refine wpList_append_wr rfl _ _ rfl hlit.out rfl h0.out hB rfl _ _ _ _ [UInt8.ofNat (128 + n)] rfl hsrc (by omega) ?_; intro A3 c3 w3 hI3 hs3; have hb4 := Lib.hid (hb.out.below (hI3.bel hB hbq.out)); have g1 := hI3.box.cell 1; have g2 := hI3.box.cell 2; simp at g1 g2; clear hlit hsrc; replace hI3 := Lib.hid hI3) | (at_builtin; refine wpList_append_wr rfl _ _ rfl hI3.out rfl h0.out hB rfl _ _ _ _ b rfl hb4.out (by omega) ?_; intro A4 c4 w4 hI4 hs4; clear g1 g2; have g2 := hI4.box.cell 2; simp at g2; replace hI4 := Lib.hid hI4))
  refine wp_loop_rounds 1 ?_
  rw [rounds_succ]; go_wp2_with fail
  go_ret
  exact hI4.out.out
end Go.Proofs.YtahaaeenbahknaaRRRR
