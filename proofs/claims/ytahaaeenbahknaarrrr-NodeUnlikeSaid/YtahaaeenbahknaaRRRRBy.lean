/-
  Slices of bytes: what a call makes, hands back and appends to.
-/
import Derived.Test.YtahaaeenbahknaaRRRRMem
import Derived.Test.YtahaaeenbahknaaRRRRRows
import Derived.WalkKit
import Derived.WalkSpells
import Derived.Deep.RegionHeld3
namespace Go.Proofs.YtahaaeenbahknaaRRRR
open Go.RowKit

theorem info_u8 : (Try.prog.info? 5).map (fun i => (i.zero, i.size, i.bytes)) = some (some (.int .u8 0), 1, 1) := by kernel_rfl

/-- a call that hands back new bytes: what was there is as it was -/
def NewB (w w' : World) (A : Option Addr) (m c : Nat) (l : List UInt8) : Prop :=
  m = l.length ∧ w'.ownsRow w.heap.size 5 1 (.slice A m c) m (bv l) ∧ Below w.heap.size w w'
theorem NewB.bytes {w w' : World} {A : Option Addr} {m c : Nat} {l : List UInt8} (h : NewB w w' A m c l) : Bytes w' w'.heap.size A m c l :=
  ⟨h.1, (Own.of_row h.2.1).cap, (Own.of_row h.2.1).lim, Reads.of_own h.2.1⟩
theorem NewB.none_ (w : World) : NewB w w none 0 0 [] := ⟨rfl, World.ownsRow_nil _ _ _ _, Below.refl _ _⟩
theorem Bytes.none_ (w : World) (B c : Nat) (hc : c ≤ maxLen) : Bytes w B none 0 c [] := ⟨rfl, Nat.zero_le _, hc, Reads.none_⟩
theorem Bytes.alloc {w : World} {B n c : Nat} {A : Option Addr} {l : List UInt8} (h : Bytes w B A n c l) (hB : B ≤ w.heap.size) (o : Obj) : Bytes (w.alloc o) B A n c l :=
  ⟨h.len, h.cap, h.lim, h.reads.alloc hB o⟩
theorem Bytes.drew {w : World} {B n c : Nat} {A : Option Addr} {l : List UInt8} (h : Bytes w B A n c l) : Bytes w.drew B A n c l := ⟨h.len, h.cap, h.lim, h.reads⟩
theorem Bytes.drewN {w : World} {B n c : Nat} {A : Option Addr} {l : List UInt8} (h : Bytes w B A n c l) (k : Nat) : Bytes (w.drewN k) B A n c l := ⟨h.len, h.cap, h.lim, h.reads⟩
theorem size_set (w : World) (a : Addr) (v : Value) : (w.setCell a v).heap.size = w.heap.size := by simp [World.setCell]
theorem Bytes.setCell {w : World} {B n c : Nat} {A : Option Addr} {l : List UInt8} (h : Bytes w B A n c l) {p : Addr} (hB : B ≤ p.block) (u : Value) : Bytes (w.setCell p u) B A n c l :=
  ⟨h.len, h.cap, h.lim, h.reads.setCell hB u⟩
theorem Bytes.step {w w' : World} {n c : Nat} {A : Option Addr} {l : List UInt8} (h : Bytes w w.heap.size A n c l) (hb : Below w.heap.size w w') : Bytes w' w'.heap.size A n c l :=
  (h.below hb).more hb.size
/-- a literal of bytes -/
theorem Bytes.lit {n : Nat} (w : World) (cs : Array Value) (l : List UInt8) (t : TypeId) (h : cs.toList = bv l) (hm : l.length ≤ maxLen) (hn : n = l.length) :
    Bytes (w.alloc (.cells cs t)) (w.heap.size + 1) (some ⟨w.heap.size, 0, none⟩) n n l := by
  subst hn
  refine ⟨rfl, Nat.le_refl _, hm, ⟨by simp [bv], fun _ => ⟨w.heap.size, 0, rfl, Nat.lt_succ_self _, fun j u hu => ?_⟩⟩⟩
  rw [Nat.zero_add, cell_of_row (w.alloc (.cells cs t)) w.heap.size j cs t (0, 0) (heap_alloc_new w _)]
  rw [← h] at hu
  simpa using hu
theorem Bytes.lit' {n g : Nat} (w : World) (cs : Array Value) (l : List UInt8) (t : TypeId) (hg : g = w.heap.size) (h : cs.toList = bv l) (hm : l.length ≤ maxLen) (hn : n = l.length) :
    Bytes (w.alloc (.cells cs t)) (g + 1) (some ⟨g, 0, none⟩) n n l := by
  subst hg; exact Bytes.lit w cs l t h hm hn
theorem Bytes.lit1 {w : World} {z : Int} {y : UInt8} {t : TypeId} (h : z = (y.toNat : Int)) : Bytes (w.alloc (.cells #[.int .u8 z] t)) (w.heap.size + 1) (some ⟨w.heap.size, 0, none⟩) 1 1 [y] :=
  Bytes.lit w _ [y] t (by subst h; rfl) (by simp [maxLen]) rfl
theorem own_lit {n : Nat} (w : World) (cs : Array Value) (l : List UInt8) (base : Nat) (h : cs.toList = bv l) (hm : l.length ≤ maxLen) (hb : base ≤ w.heap.size) (hn : n = l.length) :
    (w.alloc (.cells cs 5)).ownsRow base 5 1 (.slice (some ⟨w.heap.size, 0, none⟩) n n) n (bv l) := by
  subst hn
  rw [← h]
  refine World.ownsRow_lit w cs l.length hb hm ?_
  have := congrArg List.length h
  simpa [bv_length] using this

/-- new bytes of a callee, behind steps of the call's own -/
theorem new_of {w0 w1 w2 : World} {A : Option Addr} {m m' c : Nat} {l : List UInt8} (hm : m = m') (hl : m' = l.length) (hb : Below w0.heap.size w0 w1)
    (hown : w2.ownsRow w1.heap.size 5 1 (.slice A m c) m (bv l)) (hb2 : Below w1.heap.size w1 w2) : NewB w0 w2 A m' c l := by
  subst hm
  have hs := hb.size
  refine ⟨hl, ?_, hb.trans (hb2.mono hs)⟩
  obtain ⟨h1, h2⟩ := hown
  refine ⟨h1, ?_⟩
  rcases h2 with h2 | ⟨g', cap, cur, hv, hg, r⟩
  · exact .inl h2
  · exact .inr ⟨g', cap, cur, hv, by omega, r⟩

theorem own_cut_to {w : World} {B : Nat} {e : TypeId} {A A' : Option Addr} {n c m d k : Nat} {xs ys : List Value} (h : Own w B e 1 A n c xs) (hk : k ≤ n) (hA : c = k ∨ A' = A.map (·.add k))
    (hm : m = n - k) (hd : d = c - k) (hy : ys = xs.drop k) : Own w B e 1 A' m d ys := by
  subst hm; subst hd; subst hy
  have := h.cut hk
  rw [Nat.mul_one] at this
  rcases hA with hA | hA
  · subst hA
    exact ⟨this.len, this.cap, this.lim, fun _ => by omega, fun hc => by omega⟩
  · subst hA
    by_cases hck : c = k
    · subst hck
      exact ⟨this.len, this.cap, this.lim, fun _ => by omega, fun hc => by omega⟩
    · rw [if_neg hck] at this
      simpa using this

/-- new bytes, which may lie in the middle of a new block -/
def NewO (w w' : World) (A : Option Addr) (m c : Nat) (l : List UInt8) : Prop := m = l.length ∧ Own w' w.heap.size 5 1 A m c (bv l) ∧ Below w.heap.size w w'
theorem NewO.bytes {w w' : World} {A : Option Addr} {m c : Nat} {l : List UInt8} (h : NewO w w' A m c l) : Bytes w' w'.heap.size A m c l :=
  ⟨h.1, h.2.1.cap, h.2.1.lim, h.2.1.reads⟩
theorem NewO.none_ (w : World) : NewO w w none 0 0 [] := ⟨rfl, Own.of_row (World.ownsRow_nil _ _ _ _), Below.refl _ _⟩
theorem NewB.mid {w w' : World} {A : Option Addr} {m c : Nat} {l : List UInt8} (h : NewB w w' A m c l) : NewO w w' A m c l := ⟨h.1, Own.of_row h.2.1, h.2.2⟩
def PostObe (w : World) (l : List UInt8) (b : Bool) (k : Int) (e : Ending) (w' : World) : Prop := ∃ A m c, e = .returned (.tuple #[.slice A m c, .bool b, .int .i64 k]) ∧ NewO w w' A m c l

theorem bool_eq {a b : Bool} (h : a = b) : Value.bool a = Value.bool b := by rw [h]
theorem ret_bool {a b : Bool} (h : a = b) : Ending.returned (.bool a) = .returned (.bool b) := by rw [h]
theorem ret_pair {a b x y : Value} (h : a = x) (h' : b = y) : Ending.returned (.tuple #[a, b]) = .returned (.tuple #[x, y]) := by rw [h, h']
theorem ret_three {a b c x y z : Value} (h : a = x) (h' : b = y) (h'' : c = z) : Ending.returned (.tuple #[a, b, c]) = .returned (.tuple #[x, y, z]) := by rw [h, h', h'']

/-- POSTS: a call hands back new bytes; with a bool; with an error's number; with both -/
def PostB (w : World) (l : List UInt8) (e : Ending) (w' : World) : Prop := ∃ A m c, e = .returned (.slice A m c) ∧ NewB w w' A m c l
def PostBb (w : World) (l : List UInt8) (b : Bool) (e : Ending) (w' : World) : Prop := ∃ A m c, e = .returned (.tuple #[.slice A m c, .bool b]) ∧ NewB w w' A m c l
def PostBe (w : World) (l : List UInt8) (k : Int) (e : Ending) (w' : World) : Prop := ∃ A m c, e = .returned (.tuple #[.slice A m c, .int .i64 k]) ∧ NewB w w' A m c l
def PostBbe (w : World) (l : List UInt8) (b : Bool) (k : Int) (e : Ending) (w' : World) : Prop := ∃ A m c, e = .returned (.tuple #[.slice A m c, .bool b, .int .i64 k]) ∧ NewB w w' A m c l
/-- a call that hands back a bool, and only draws -/
def PostQ (w : World) (v : Value) (e : Ending) (w' : World) : Prop := e = .returned v ∧ ∃ n, w' = w.drewN n

theorem PostQ.below {w : World} {v : Value} {e : Ending} {w' : World} (h : PostQ w v e w') : e = .returned v ∧ Below w.heap.size w w' := by
  obtain ⟨he, n, rfl⟩ := h
  exact ⟨he, below_drewN (Below.refl _ _) n⟩

section
variable {w : World}
/-- where an owned row that isn't empty lies -/
theorem own_at {base n c : Nat} {e : TypeId} {A : Option Addr} {xs : List Value} (h : w.ownsRow base e 1 (.slice A n c) n xs) (hn : 0 < n) : ∃ g, A = some ⟨g, 0, none⟩ ∧ base ≤ g ∧ g < w.heap.size := by
  obtain ⟨g, cap, hv, hb, hlt⟩ := h.form hn
  exact ⟨g, by injection hv, hb, hlt⟩

theorem own_cell {base n c g : Nat} {e : TypeId} {xs : List Value} (h : w.ownsRow base e 1 (.slice (some ⟨g, 0, none⟩) n c) n xs) (j : Nat) (v : Value) (hj : xs[j]? = some v) : w.cell? ⟨g, j, none⟩ = some v := by
  have hl := h.1
  have : j < xs.length := (List.getElem?_eq_some_iff.1 hj).1
  rw [h.cellAt j (by omega), hj]

/-- 'append(v, x...)' onto bytes of the call's own -/
theorem wp_append_u8 {o : Oper} {a : Act} {K : Act → World → Prop} {Q : Exit → Act → World → Prop} (s x : Operand)
    (ho : o.op = .call { callee := .builtin .append, args := #[s, x], argTypes := #[22, 22] })
    (base : Nat) (v : Value) (n : Nat) (xs : List UInt8) (hs : a.eval s = v) (hown : w.ownsRow base 5 1 v n (bv xs))
    (B : Nat) (A : Option Addr) (m c : Nat) (news : List UInt8) (hx : a.eval x = .slice A m c) (hr : Bytes w B A m c news)
    (hlim : n + m ≤ 140737488355328) (hbase : base ≤ w.heap.size)
    (h : ∀ A' c' w', w'.ownsRow base 5 1 (.slice A' (n + m) c') (n + m) (bv (xs ++ news)) → Below base w w' → w.grownBy w' v.ownBlock → K (a.put o.dst (.slice A' (n + m) c')) w') : o.wp Try.prog a w K Q := by
  obtain ⟨i0, hi, hz0, hz1, hz2⟩ := info_parts info_u8
  refine wp_append_any w s x 22 ho base 5 i0 (.int .u8 0) 1 1 Try.underlying22 hi hz0 hz1 hz2 rfl (by omega) v n (bv xs) hs hown B A m c (bv news) hx hr.reads (bv_one _) (by unfold maxLen; omega) (by omega) hbase ?_
  intro v' w' h1 h2 _
  rw [← bv_append] at h1
  have hb : Below base w w' := (Below.refl _ _).grown h2 hbase (fun k hk => by have := hown.lt k hk; exact this.1)
  rcases h1.2 with ⟨rfl, h0⟩ | ⟨g, cap, cur, rfl, _⟩
  · rw [h0] at h1 h
    exact h none 0 w' h1 hb h2
  · exact h _ _ w' h1 hb h2

theorem wpList_append_u8 {ops : Array Oper} {rest : List Oper} {o : Oper} {a : Act} {Q : Exit → Act → World → Prop} (hgd : o.guard = none) (s x : Operand)
    (ho : o.op = .call { callee := .builtin .append, args := #[s, x], argTypes := #[22, 22] })
    (base : Nat) (v : Value) (n : Nat) (xs : List UInt8) (hs : a.eval s = v) (hown : w.ownsRow base 5 1 v n (bv xs))
    (B : Nat) (A : Option Addr) (m c : Nat) (news : List UInt8) (hx : a.eval x = .slice A m c) (hr : Bytes w B A m c news)
    (hlim : n + m ≤ 140737488355328) (hbase : base ≤ w.heap.size)
    (h : ∀ A' c' w', w'.ownsRow base 5 1 (.slice A' (n + m) c') (n + m) (bv (xs ++ news)) → Below base w w' → wpList Try.prog ops Q rest (a.put o.dst (.slice A' (n + m) c')) w') : wpList Try.prog ops Q (o :: rest) a w :=
  wpList_plain hgd fun _ hK => wp_append_u8 s x ho base v n xs hs hown B A m c news hx hr hlim hbase fun A' c' w' h1 h2 _ => hK _ _ (h A' c' w' h1 h2)

/-- the same, as a step of a region that draws -/
theorem step_append_u8 {ops : Array Oper} {o : Oper} {a : Act} {K : Act → World → Prop} {Q : Exit → Act → World → Prop} {E : Prop} (hgd : o.guard = none) (s x : Operand)
    (ho : o.op = .call { callee := .builtin .append, args := #[s, x], argTypes := #[22, 22] })
    (base : Nat) (v : Value) (n : Nat) (xs : List UInt8) (hs : a.eval s = v) (hown : w.ownsRow base 5 1 v n (bv xs))
    (B : Nat) (A : Option Addr) (m c : Nat) (news : List UInt8) (hx : a.eval x = .slice A m c) (hr : Bytes w B A m c news)
    (hlim : n + m ≤ 140737488355328) (hbase : base ≤ w.heap.size)
    (h : ∀ A' c' w', w'.ownsRow base 5 1 (.slice A' (n + m) c') (n + m) (bv (xs ++ news)) → Below base w w' → w.grownBy w' v.ownBlock → K (a.put o.dst (.slice A' (n + m) c')) w') :
    if Region.wanted o (yielded ops a.tmps) = true then Oper.wp Try.prog o a w K Q else E := by
  have hw : Region.wanted o (yielded ops a.tmps) = true := by simp [Region.wanted, hgd]
  rw [if_pos hw]
  exact wp_append_u8 s x ho base v n xs hs hown B A m c news hx hr hlim hbase h

/-- 'append(v, x)': one byte, which lies in a block of its own -/
theorem wpList_append1_u8 {ops : Array Oper} {rest : List Oper} {o : Oper} {a : Act} {Q : Exit → Act → World → Prop} (hgd : o.guard = none) (s x : Operand)
    (ho : o.op = .call { callee := .builtin .append, args := #[s, x], argTypes := #[22, 22] })
    (base : Nat) (v : Value) (n : Nat) (xs : List UInt8) (hs : a.eval s = v) (hown : w.ownsRow base 5 1 v n (bv xs))
    (z : Int) (y : UInt8) (hz : z = (y.toNat : Int)) (gx : Nat) (hx : a.eval x = .slice (some ⟨gx, 0, none⟩) 1 1) (hgx : gx = w.heap.size)
    (hlim : n + 1 ≤ 140737488355328) (hbase : base ≤ w.heap.size)
    (h : ∀ g c' w', w'.ownsRow base 5 1 (.slice (some ⟨g, 0, none⟩) (n + 1) c') (n + 1) (bv (xs ++ [y])) → base ≤ g → Below base w w' → base < w'.heap.size → wpList Try.prog ops Q rest (a.put o.dst (.slice (some ⟨g, 0, none⟩) (n + 1) c')) w') :
    wpList Try.prog ops Q (o :: rest) a (w.alloc (.cells #[.int .u8 z] 5)) := by
  subst hz
  subst hgx
  refine wpList_append_u8 hgd s x ho base v n xs hs (hown.alloc _) (w.heap.size + 1) _ 1 1 [y] hx (Bytes.lit w _ [y] _ rfl (by simp [maxLen]) rfl) hlim (by simp; omega) ?_
  intro A' c' w' h1 h2
  obtain ⟨g, rfl, hg, _⟩ := own_at h1 (by omega)
  refine h g c' w' h1 hg (((Below.refl _ _).alloc hbase _).trans h2) ?_
  have := h2.size
  simp at this
  omega
end
end Go.Proofs.YtahaaeenbahknaaRRRR
