/-
  Texts of a proof, one behind the other: Mem, By, Mid, WordP, NestP, Reg, Blk, ItM, ItU, Nib, Nib2, Nib3, NodP, DgV, DgK, Rd1, Rd2, RegM.
-/
import Derived.Below
import Derived.Laws.OwnMore
import Derived.Deep.AppendLies
import Derived.Deep.Draws
import Derived.Laws.Rows
import Derived.Maps.AppendAt
import Derived.RegionTactic
import Derived.OwnWalk
import Derived.Lib.Hide
import Derived.Laws.BytesArg
import Derived.Lib.Bytealg
import Derived.Test.YteknhmhmepnfjaaRows
import Derived.WalkKit
import Derived.WalkSpells
import Derived.Deep.RegionHeld3
import Derived.Deep.MidRow
import Derived.WalkMore
import Derived.Still
import Derived.BigQuiet
import Derived.Deep.QuietTactic
import Derived.StillTailTactics
import Derived.Maps.Keyed
import Derived.Maps.Own
import Derived.DeepKeys4
import Derived.DeepKeys
/-
  Memory words: slices that read as lists, whole blocks, append onto a row of the call's own.
-/
namespace Go.Proofs.Yteknhmhmepnfjaa
open Go.RowKit

theorem add_mk (g o j : Nat) : (⟨g, o, none⟩ : Addr).add j = ⟨g, o + j, none⟩ := by unfold Addr.add; split <;> simp_all

/-- the slice value '.slice A n c' holds the cells xs, below block B -/
def Reads (w : World) (B size : Nat) (A : Option Addr) (n : Nat) (xs : List Value) : Prop :=
  xs.length = n * size ∧ (0 < n → ∃ g o, A = some ⟨g, o, none⟩ ∧ g < B ∧ ∀ j u, xs[j]? = some u → w.cell? ⟨g, o + j, none⟩ = some u)

section
variable {w w' : World} {B B' size n : Nat} {A : Option Addr} {xs : List Value}
theorem Reads.none_ : Reads w B size A 0 [] := ⟨by simp, fun h => absurd h (by omega)⟩
theorem Reads.at_ {k : Nat} (h : Reads w B 1 A n xs) (hk : k < n) : ∃ g o u, A = some ⟨g, o, none⟩ ∧ g < B ∧ xs[k]? = some u ∧ w.cell? ⟨g, o + k, none⟩ = some u := by
  obtain ⟨g, o, e, hb, hc⟩ := h.2 (by omega)
  have hl : k < xs.length := by have := h.1; omega
  exact ⟨g, o, xs[k], e, hb, List.getElem?_eq_getElem hl, hc k _ (List.getElem?_eq_getElem hl)⟩
theorem Reads.keep (h : Reads w B size A n xs) (hk : ∀ p : Addr, p.block < B → w'.cell? p = w.cell? p) : Reads w' B size A n xs :=
  ⟨h.1, fun hn => by
    obtain ⟨g, o, e, hb, hc⟩ := h.2 hn
    exact ⟨g, o, e, hb, fun j u hu => (hk ⟨g, o + j, none⟩ hb).trans (hc j u hu)⟩⟩
theorem Reads.more (h : Reads w B size A n xs) (hB : B ≤ B') : Reads w B' size A n xs :=
  ⟨h.1, fun hn => by
    obtain ⟨g, o, e, hb, hc⟩ := h.2 hn
    exact ⟨g, o, e, by omega, hc⟩⟩
theorem Reads.below (h : Reads w B size A n xs) (hb : Below B w w') : Reads w' B size A n xs := h.keep fun _ hp => hb.cell hp
theorem Reads.drew (h : Reads w B size A n xs) : Reads w.drew B size A n xs := h
theorem Reads.drewN (h : Reads w B size A n xs) (k : Nat) : Reads (w.drewN k) B size A n xs := h
theorem Reads.alloc (h : Reads w B size A n xs) (hB : B ≤ w.heap.size) (o : Obj) : Reads (w.alloc o) B size A n xs := h.keep fun p hp => World.cell?_alloc_lt w o p (by omega)
theorem Reads.setCell (h : Reads w B size A n xs) {p : Addr} (hB : B ≤ p.block) (u : Value) : Reads (w.setCell p u) B size A n xs :=
  h.keep fun q hq => World.cell?_setCell_other w p q u (fun e => by subst e; omega)
theorem Reads.grown (h : Reads w B size A n xs) {row : Option Nat} (hg : w.grownBy w' row) (hB : B ≤ w.heap.size) (hr : ∀ g, row = some g → B ≤ g) : Reads w' B size A n xs :=
  h.keep fun p hp => World.cell?_of_block (hg.block p.block (by omega) (fun e => by have := hr _ e.symm; omega))
/-- 'x[k:]' -/
theorem Reads.cut (h : Reads w B size A n xs) {k cap : Nat} (hk : k ≤ n) (hc : n ≤ cap) :
    Reads w B size (if cap = k then A else A.map (·.add (k * size))) (n - k) (xs.drop (k * size)) := by
  refine ⟨by rw [List.length_drop, h.1, Nat.sub_mul], fun hn => ?_⟩
  obtain ⟨g, o, rfl, hb, hcell⟩ := h.2 (by omega)
  rw [if_neg (by omega)]
  refine ⟨g, o + k * size, by simp only [Option.map_some, add_mk], hb, fun j u hu => ?_⟩
  rw [Nat.add_assoc]
  exact hcell _ u (by rw [← hu, List.getElem?_drop])
/-- 'x[:k]' -/
theorem Reads.take (h : Reads w B size A n xs) {k : Nat} (hk : k ≤ n) : Reads w B size A k (xs.take (k * size)) := by
  refine ⟨by rw [List.length_take, h.1, Nat.min_eq_left (Nat.mul_le_mul_right _ hk)], fun hn => ?_⟩
  obtain ⟨g, o, rfl, hb, hcell⟩ := h.2 (by omega)
  refine ⟨g, o, rfl, hb, fun j u hu => hcell j u ?_⟩
  rw [List.getElem?_take] at hu
  split at hu
  · exact hu
  · cases hu
theorem Reads.of_own {base : Nat} {e : TypeId} {c : Nat} (h : w.ownsRow base e size (.slice A n c) n xs) : Reads w w.heap.size size A n xs := by
  refine ⟨h.1, fun hn => ?_⟩
  obtain ⟨g, cap, hv, _, hlt⟩ := h.form hn
  have hA : A = some ⟨g, 0, none⟩ := by injection hv
  subst hA
  refine ⟨g, 0, rfl, hlt, fun j u hu => ?_⟩
  have := h.cells (g := g) rfl j u hu
  rwa [add_mk] at this
end

theorem below_drewN {B : Nat} {a w : World} (h : Below B a w) (n : Nat) : Below B a (w.drewN n) := ⟨h.os, h.tape, h.output, h.size, h.block⟩

/-- bytes as values -/
def bv (l : List UInt8) : List Value := l.map fun b => Value.int .u8 (b.toNat : Int)
theorem bv_length (l : List UInt8) : (bv l).length = l.length := by simp [bv]
theorem bv_at (l : List UInt8) (k : Nat) (h : k < l.length) : (bv l)[k]? = some (.int .u8 (l[k].toNat : Int)) := by
  simp [bv, h]
theorem bv_one (l : List UInt8) : ∀ u ∈ bv l, u.oneCell' = true := by
  intro u hu
  simp only [bv, List.mem_map] at hu
  obtain ⟨_, _, rfl⟩ := hu
  rfl

/-- the slice '.slice A n c' holds the bytes l, below block B -/
structure Bytes (w : World) (B : Nat) (A : Option Addr) (n c : Nat) (l : List UInt8) : Prop where
  len : n = l.length
  cap : n ≤ c
  lim : c ≤ maxLen
  reads : Reads w B 1 A n (bv l)

section
variable {w w' : World} {B B' n c : Nat} {A : Option Addr} {l : List UInt8}
theorem Bytes.at_ (h : Bytes w B A n c l) {k : Nat} (hk : k < l.length) : ∃ g o, A = some ⟨g, o, none⟩ ∧ g < B ∧ w.cell? ⟨g, o + k, none⟩ = some (.int .u8 (l[k].toNat : Int)) := by
  obtain ⟨g, o, u, e, hb, hx, hc⟩ := h.reads.at_ (k := k) (by have := h.len; omega)
  rw [bv_at l k hk] at hx
  cases hx
  exact ⟨g, o, e, hb, hc⟩
theorem Bytes.below (h : Bytes w B A n c l) (hb : Below B w w') : Bytes w' B A n c l := ⟨h.len, h.cap, h.lim, h.reads.below hb⟩
theorem Bytes.more (h : Bytes w B A n c l) (hb : B ≤ B') : Bytes w B' A n c l := ⟨h.len, h.cap, h.lim, h.reads.more hb⟩
end


theorem bv_append (a b : List UInt8) : bv (a ++ b) = bv a ++ bv b := by simp [bv]
theorem bv_nums (l : List UInt8) : bv l = (l.map fun b => (b.toNat : Int)).map (Value.int .u8) := by simp [bv]
theorem strOf_bytes (l : List UInt8) : strOfNums (l.map fun b => (b.toNat : Int)) = ⟨l.toArray⟩ := by
  unfold strOfNums
  rw [List.map_map, show ((fun n : Int => UInt8.ofNat n.toNat) ∘ fun b : UInt8 => (b.toNat : Int)) = id from by funext b; simp, List.map_id]

section
variable {P : Program} {w : World} {B n c : Nat} {A : Option Addr} {l : List UInt8}
/-- 'string(b)' -/
theorem Bytes.toStr (h : Bytes w B A n c l) {src e : TypeId} (hs : P.underlying src = some (.slice e)) (he : P.underlying e = some (.int .u8)) :
    ∀ dst, P.underlying dst = some .string → (convert src dst (.slice A n c)).run P w = .ok (.string ⟨l.toArray⟩) w := by
  obtain ⟨hlen, _, _, hr⟩ := h
  subst hlen
  rcases Nat.eq_zero_or_pos l.length with h0 | h0
  · have hl : l = [] := List.eq_nil_of_length_eq_zero h0
    subst hl
    intro dst hd
    rw [run_convert_bytes_string w src dst e _ _ c hs he hd]
    rcases A with _ | ad
    · simp [Conv.bytesToString]; rfl
    · simp [Conv.bytesToString, loadCells, loadCellsFrom]; rfl
  · obtain ⟨g, o, rfl, _, hc⟩ := hr.2 h0
    have := run_convert_bytes_arg (P := P) w src e hs he g o l.length c (l.map fun b => (b.toNat : Int)) (by simp) (fun i hi => by
      have h1 := hc i _ (bv_at l i hi)
      rw [h1]
      simp [List.getD, hi])
    rw [strOf_bytes] at this
    exact this
/-- what bytealg.Compare and its kin read -/
theorem Bytes.ofVal (h : Bytes w B A n c l) : (Extern.Bytes.bytesOf (.slice A n c)).run P w = .ok ⟨l.toArray⟩ w := by
  obtain ⟨hlen, _, _, hr⟩ := h
  subst hlen
  have key : ∀ (m : List UInt8) (g o : Nat) (acc : List UInt8), (∀ j (h : j < m.length), w.cell? ⟨g, o + j, none⟩ = some (.int .u8 (m[j].toNat : Int))) →
      (Extern.Bytes.loadBytes ⟨g, o, none⟩ m.length ⟨acc.toArray⟩).run P w = .ok ⟨(acc ++ m).toArray⟩ w := by
    intro m
    induction m with
    | nil => intro g o acc _; simp [Extern.Bytes.loadBytes]
    | cons x m ih =>
      intro g o acc hc
      have h0 := hc 0 (by simp)
      simp only [Nat.add_zero, List.getElem_cons_zero] at h0
      have h1 := ih g (o + 1) (acc ++ [x]) (fun j hj => by
        have := hc (j + 1) (by simp; omega)
        rw [show o + 1 + j = o + (j + 1) by omega]
        simpa using this)
      simp only [List.length_cons, Extern.Bytes.loadBytes]
      have hx : (ByteArray.push ⟨acc.toArray⟩ ((x.toNat : Int).toNat.toUInt8)) = ⟨(acc ++ [x]).toArray⟩ := by
        simp [ByteArray.push]
      have hl : (load (⟨g, o, none⟩ : Addr)).run P w = .ok (.int .u8 (x.toNat : Int)) w := by simp [h0]
      simp only [Sem.run_bind, hl, Result.andThen_ok, add_mk, hx]
      simpa using h1
  rcases Nat.eq_zero_or_pos l.length with h0 | h0
  · have hl : l = [] := List.eq_nil_of_length_eq_zero h0
    subst hl
    rcases A with _ | ad
    · simp [Extern.Bytes.bytesOf]; rfl
    · simp [Extern.Bytes.bytesOf, Extern.Bytes.loadBytes]; rfl
  · obtain ⟨g, o, rfl, _, hc⟩ := hr.2 h0
    have := key l g o [] (fun j hj => hc j _ (bv_at l j hj))
    simp only [Extern.Bytes.bytesOf]
    exact this
end

/-- what a call has made: the slice '.slice A n c' over a block from B on, not frozen; it may begin in the block's middle -/
structure Own (w : World) (B : Nat) (e : TypeId) (size : Nat) (A : Option Addr) (n c : Nat) (xs : List Value) : Prop where
  len : xs.length = n * size
  cap : n ≤ c
  lim : c ≤ maxLen
  nil : A = none → c = 0
  blk : 0 < c → ∃ g off cur, A = some ⟨g, off, none⟩ ∧ B ≤ g ∧ w.heap[g]? = some (.cells cur e (0, 0)) ∧ off + c * size ≤ cur.size ∧ (cur.toList.drop off).take (n * size) = xs

section
variable {w w' : World} {B B' size n c : Nat} {e : TypeId} {A : Option Addr} {xs : List Value}
theorem Own.reads (h : Own w B e size A n c xs) : Reads w w.heap.size size A n xs := by
  refine ⟨h.len, fun hn => ?_⟩
  obtain ⟨g, off, cur, rfl, hb, hg, hsz, ht⟩ := h.blk (by have := h.cap; omega)
  have hlt : g < w.heap.size := (Array.getElem?_eq_some_iff.1 hg).1
  refine ⟨g, off, rfl, hlt, fun j u hu => ?_⟩
  rw [cell_of_row w g (off + j) cur e (0, 0) hg]
  rw [← ht, List.getElem?_take] at hu
  split at hu
  · rw [List.getElem?_drop] at hu; simpa using hu
  · cases hu
/-- 'x[k:]' -/
theorem Own.cut (h : Own w B e size A n c xs) {k : Nat} (hk : k ≤ n) : Own w B e size (if c = k then A else A.map (·.add (k * size))) (n - k) (c - k) (xs.drop (k * size)) := by
  refine ⟨by rw [List.length_drop, h.len, Nat.sub_mul], by have := h.cap; omega, by have := h.lim; omega, fun hn => ?_, fun hc => ?_⟩
  · split at hn
    · omega
    · have : c = 0 := h.nil (by simpa using hn)
      omega
  obtain ⟨g, off, cur, rfl, hb, hg, hsz, ht⟩ := h.blk (by omega)
  rw [if_neg (by omega)]
  have hkc : k * size + (c - k) * size = c * size := by rw [← Nat.add_mul]; congr 1; omega
  have hkn : k * size + (n - k) * size = n * size := by rw [← Nat.add_mul]; congr 1; omega
  refine ⟨g, off + k * size, cur, by simp only [Option.map_some, add_mk], hb, hg, by omega, ?_⟩
  rw [← ht, List.drop_take, List.drop_drop]
  congr 1
  omega
theorem Own.below {w' : World} (h : Own w B e size A n c xs) {B' : Nat} (hb : Below B' w w') (hB : w.heap.size ≤ B') : Own w' B e size A n c xs := by
  refine ⟨h.len, h.cap, h.lim, h.nil, fun hc => ?_⟩
  obtain ⟨g, off, cur, rfl, hb', hg, r⟩ := h.blk hc
  exact ⟨g, off, cur, rfl, hb', by rw [hb.block g (by have := (Array.getElem?_eq_some_iff.1 hg).1; omega)]; exact hg, r⟩
theorem Own.less {B' : Nat} (h : Own w B e size A n c xs) (hB : B' ≤ B) : Own w B' e size A n c xs := by
  refine ⟨h.len, h.cap, h.lim, h.nil, fun hc => ?_⟩
  obtain ⟨g, off, cur, rfl, hb', r⟩ := h.blk hc
  exact ⟨g, off, cur, rfl, by omega, r⟩
theorem Own.of_row (h : w.ownsRow B e size (.slice A n c) n xs) : Own w B e size A n c xs := by
  refine ⟨h.1, ?_, ?_, fun hn => ?_, fun hc => ?_⟩
  · rcases h.2 with ⟨h1, h2⟩ | ⟨g, cap, cur, hv, _, _, hnc, _, _⟩
    · omega
    · simp only [Value.slice.injEq] at hv; obtain ⟨_, _, rfl⟩ := hv; exact hnc
  · rcases h.2 with ⟨h1, h2⟩ | ⟨g, cap, cur, hv, _, _, _, hm, _⟩
    · simp only [Value.slice.injEq] at h1; obtain ⟨_, _, rfl⟩ := h1; exact Nat.zero_le _
    · simp only [Value.slice.injEq] at hv; obtain ⟨_, _, rfl⟩ := hv; exact hm
  · subst hn
    rcases h.2 with ⟨h1, h2⟩ | ⟨g, cap, cur, hv, _⟩
    · simp only [Value.slice.injEq] at h1; exact h1.2.2
    · simp at hv
  · rcases h.2 with ⟨h1, h2⟩ | ⟨g, cap, cur, hv, hb, hg, hnc, hm, hs, ht⟩
    · simp only [Value.slice.injEq] at h1; omega
    · simp only [Value.slice.injEq] at hv
      obtain ⟨rfl, _, rfl⟩ := hv
      exact ⟨g, 0, cur, rfl, hb, hg, by omega, by simpa using ht⟩
end

section
variable {P : Program} (w : World)

theorem run_append_of_nil (base : Nat) (t ty e : TypeId) (i : TypeInfo) (size : Nat) (ht : P.underlying t = some (.slice e)) (hi : P.info? e = some i)
    (v : Value) (n : Nat) (xs : List Value) (hown : w.ownsRow base e size v n xs) (c : Nat) : (Builtin.append_ #[t, t] ty #[v, .slice none 0 c]).run P w = .ok v w := by
  rcases hown.2 with ⟨rfl, rfl⟩ | ⟨g, cap, cur, rfl, _, _, hnc, _⟩
  · simp [Builtin.append_, run_underlying ht, sizeOf, typeInfo, hi, Builtin.lenOf, Builtin.firstCells]
  · simp [Builtin.append_, run_underlying ht, sizeOf, typeInfo, hi, Builtin.lenOf, Builtin.firstCells, hnc, storeCells]

theorem run_append_any (base : Nat) (t ty e : TypeId) (i : TypeInfo) (z : Value) (size bytes : Nat) (ht : P.underlying t = some (.slice e)) (hi : P.info? e = some i) (hz : i.zero = some z)
    (hsize : i.size = size) (hby : i.bytes = bytes) (hzs : z.cells.size = size) (hsz : 0 < size)
    (v : Value) (n : Nat) (xs : List Value) (hown : w.ownsRow base e size v n xs)
    (B : Nat) (A : Option Addr) (m c : Nat) (news : List Value) (hr : Reads w B size A m news) (h1 : ∀ u ∈ news, u.oneCell' = true)
    (h63 : n + m ≤ maxLen) (hbytes : (n + m) * bytes ≤ 140737488355328) (hbase : base ≤ w.heap.size) :
    ∃ v' w', (Builtin.append_ #[t, t] ty #[v, .slice A m c]).run P w = .ok v' w' ∧ w'.ownsRow base e size v' (n + m) (xs ++ news) ∧ w.grownBy w' v.ownBlock ∧
      (v'.ownBlock = v.ownBlock ∨ v'.ownBlock = some w.heap.size) := by
  rcases A with _ | ad
  · have hm : m = 0 := by
      rcases Nat.eq_zero_or_pos m with h0 | h0
      · exact h0
      · obtain ⟨g, o, h, _⟩ := hr.2 h0
        cases h
    subst hm
    have hn : news = [] := List.eq_nil_of_length_eq_zero (by simpa using hr.1)
    subst hn
    exact ⟨v, w, run_append_of_nil w base t ty e i size ht hi v n xs hown c, by simpa using hown, World.grownBy.refl w _, .inl rfl⟩
  · have hcells : ∀ j u, news[j]? = some u → w.cell? (ad.add j) = some u := by
      intro j u hu
      rcases Nat.eq_zero_or_pos m with h0 | h0
      · subst h0
        have hn : news = [] := List.eq_nil_of_length_eq_zero (by simpa using hr.1)
        subst hn
        simp at hu
      · obtain ⟨g, o, h, _, hc⟩ := hr.2 h0
        injection h with h
        subst h
        rw [add_mk]
        exact hc j u hu
    obtain ⟨v', w', hrun, h2, h3, _, h5⟩ := run_append_own_at (P := P) w base t ty e i z size bytes ht hi hz hsize hby hzs hsz v n xs hown ad m c news hr.1 hcells h1 h63 hbytes hbase
    exact ⟨v', w', hrun, h2, h3, h5⟩

theorem wp_append_any {o : Oper} {a : Act} {K : Act → World → Prop} {Q : Exit → Act → World → Prop} (s x : Operand) (t : TypeId)
    (ho : o.op = .call { callee := .builtin .append, args := #[s, x], argTypes := #[t, t] })
    (base : Nat) (e : TypeId) (i : TypeInfo) (z : Value) (size bytes : Nat) (ht : P.underlying t = some (.slice e)) (hi : P.info? e = some i) (hz : i.zero = some z)
    (hsize : i.size = size) (hby : i.bytes = bytes) (hzs : z.cells.size = size) (hsz : 0 < size)
    (v : Value) (n : Nat) (xs : List Value) (hs : a.eval s = v) (hown : w.ownsRow base e size v n xs)
    (B : Nat) (A : Option Addr) (m c : Nat) (news : List Value) (hx : a.eval x = .slice A m c) (hr : Reads w B size A m news) (h1 : ∀ u ∈ news, u.oneCell' = true)
    (h63 : n + m ≤ maxLen) (hbytes : (n + m) * bytes ≤ 140737488355328) (hbase : base ≤ w.heap.size)
    (h : ∀ v' w', w'.ownsRow base e size v' (n + m) (xs ++ news) → w.grownBy w' v.ownBlock → (v'.ownBlock = v.ownBlock ∨ v'.ownBlock = some w.heap.size) → K (a.put o.dst v') w') : o.wp P a w K Q := by
  obtain ⟨v', w', hrun, h2, h3, h4⟩ := run_append_any (P := P) w base t o.type e i z size bytes ht hi hz hsize hby hzs hsz v n xs hown B A m c news hr h1 h63 hbytes hbase
  unfold Oper.wp execOp
  simp only [ho, resolve, invoke, builtin, Sem.run_bind, Sem.run_pure, Result.andThen_ok, List.map_toArray, List.map_cons, List.map_nil, hs, hx, hrun]
  exact h v' w' h2 h3 h4

theorem wpList_append_any {ops : Array Oper} {rest : List Oper} {o : Oper} {a : Act} {Q : Exit → Act → World → Prop} (hgd : o.guard = none) (s x : Operand) (t : TypeId)
    (ho : o.op = .call { callee := .builtin .append, args := #[s, x], argTypes := #[t, t] })
    (base : Nat) (e : TypeId) (i : TypeInfo) (z : Value) (size bytes : Nat) (ht : P.underlying t = some (.slice e)) (hi : P.info? e = some i) (hz : i.zero = some z)
    (hsize : i.size = size) (hby : i.bytes = bytes) (hzs : z.cells.size = size) (hsz : 0 < size)
    (v : Value) (n : Nat) (xs : List Value) (hs : a.eval s = v) (hown : w.ownsRow base e size v n xs)
    (B : Nat) (A : Option Addr) (m c : Nat) (news : List Value) (hx : a.eval x = .slice A m c) (hr : Reads w B size A m news) (h1 : ∀ u ∈ news, u.oneCell' = true)
    (h63 : n + m ≤ maxLen) (hbytes : (n + m) * bytes ≤ 140737488355328) (hbase : base ≤ w.heap.size)
    (h : ∀ v' w', w'.ownsRow base e size v' (n + m) (xs ++ news) → w.grownBy w' v.ownBlock → (v'.ownBlock = v.ownBlock ∨ v'.ownBlock = some w.heap.size) → wpList P ops Q rest (a.put o.dst v') w') : wpList P ops Q (o :: rest) a w :=
  wpList_plain hgd fun _ hK => wp_append_any w s x t ho base e i z size bytes ht hi hz hsize hby hzs hsz v n xs hs hown B A m c news hx hr h1 h63 hbytes hbase fun v' w' h2 h3 h4 => hK _ _ (h v' w' h2 h3 h4)
end

end Go.Proofs.Yteknhmhmepnfjaa

/-
  Slices of bytes: what a call makes, hands back and appends to.
-/
namespace Go.Proofs.Yteknhmhmepnfjaa
open Go.RowKit

theorem info_u8 : (Try.prog.info? 5).map (fun i => (i.zero, i.size, i.bytes)) = some (some (.int .u8 0), 1, 1) := by kernel_rfl

/-- a call that hands back new bytes: what was there is as it was -/
def NewB (w w' : World) (A : Option Addr) (m c : Nat) (l : List UInt8) : Prop :=
  m = l.length ∧ w'.ownsRow w.heap.size 5 1 (.slice A m c) m (bv l) ∧ Below w.heap.size w w'
theorem NewB.bytes {w w' : World} {A : Option Addr} {m c : Nat} {l : List UInt8} (h : NewB w w' A m c l) : Bytes w' w'.heap.size A m c l :=
  ⟨h.1, (Own.of_row h.2.1).cap, (Own.of_row h.2.1).lim, Reads.of_own h.2.1⟩
theorem NewB.none_ (w : World) : NewB w w none 0 0 [] := ⟨rfl, World.ownsRow_nil _ _ _ _, Below.refl _ _⟩
theorem Bytes.none_ (w : World) (B c : Nat) (hc : c ≤ maxLen) : Bytes w B none 0 c [] := ⟨rfl, Nat.zero_le _, hc, Reads.none_⟩
theorem Bytes.alloc {w : World} {B n c : Nat} {A : Option Addr} {l : List UInt8} (h : Bytes w B A n c l) (hB : B ≤ w.heap.size) (o : Obj) : Bytes (w.alloc o) B A n c l :=
  ⟨h.len, h.cap, h.lim, h.reads.alloc hB o⟩
theorem Bytes.drew {w : World} {B n c : Nat} {A : Option Addr} {l : List UInt8} (h : Bytes w B A n c l) : Bytes w.drew B A n c l := ⟨h.len, h.cap, h.lim, h.reads⟩
theorem Bytes.drewN {w : World} {B n c : Nat} {A : Option Addr} {l : List UInt8} (h : Bytes w B A n c l) (k : Nat) : Bytes (w.drewN k) B A n c l := ⟨h.len, h.cap, h.lim, h.reads⟩
theorem size_set (w : World) (a : Addr) (v : Value) : (w.setCell a v).heap.size = w.heap.size := by simp [World.setCell]
theorem Bytes.setCell {w : World} {B n c : Nat} {A : Option Addr} {l : List UInt8} (h : Bytes w B A n c l) {p : Addr} (hB : B ≤ p.block) (u : Value) : Bytes (w.setCell p u) B A n c l :=
  ⟨h.len, h.cap, h.lim, h.reads.setCell hB u⟩
theorem Bytes.step {w w' : World} {n c : Nat} {A : Option Addr} {l : List UInt8} (h : Bytes w w.heap.size A n c l) (hb : Below w.heap.size w w') : Bytes w' w'.heap.size A n c l :=
  (h.below hb).more hb.size
/-- a literal of bytes -/
theorem Bytes.lit {n : Nat} (w : World) (cs : Array Value) (l : List UInt8) (t : TypeId) (h : cs.toList = bv l) (hm : l.length ≤ maxLen) (hn : n = l.length) :
    Bytes (w.alloc (.cells cs t)) (w.heap.size + 1) (some ⟨w.heap.size, 0, none⟩) n n l := by
  subst hn
  refine ⟨rfl, Nat.le_refl _, hm, ⟨by simp [bv], fun _ => ⟨w.heap.size, 0, rfl, Nat.lt_succ_self _, fun j u hu => ?_⟩⟩⟩
  rw [Nat.zero_add, cell_of_row (w.alloc (.cells cs t)) w.heap.size j cs t (0, 0) (heap_alloc_new w _)]
  rw [← h] at hu
  simpa using hu
theorem Bytes.lit' {n g : Nat} (w : World) (cs : Array Value) (l : List UInt8) (t : TypeId) (hg : g = w.heap.size) (h : cs.toList = bv l) (hm : l.length ≤ maxLen) (hn : n = l.length) :
    Bytes (w.alloc (.cells cs t)) (g + 1) (some ⟨g, 0, none⟩) n n l := by
  subst hg; exact Bytes.lit w cs l t h hm hn
theorem Bytes.lit1 {w : World} {z : Int} {y : UInt8} {t : TypeId} (h : z = (y.toNat : Int)) : Bytes (w.alloc (.cells #[.int .u8 z] t)) (w.heap.size + 1) (some ⟨w.heap.size, 0, none⟩) 1 1 [y] :=
  Bytes.lit w _ [y] t (by subst h; rfl) (by simp [maxLen]) rfl
theorem own_lit {n : Nat} (w : World) (cs : Array Value) (l : List UInt8) (base : Nat) (h : cs.toList = bv l) (hm : l.length ≤ maxLen) (hb : base ≤ w.heap.size) (hn : n = l.length) :
    (w.alloc (.cells cs 5)).ownsRow base 5 1 (.slice (some ⟨w.heap.size, 0, none⟩) n n) n (bv l) := by
  subst hn
  rw [← h]
  refine World.ownsRow_lit w cs l.length hb hm ?_
  have := congrArg List.length h
  simpa [bv_length] using this

/-- new bytes of a callee, behind steps of the call's own -/
theorem new_of {w0 w1 w2 : World} {A : Option Addr} {m m' c : Nat} {l : List UInt8} (hm : m = m') (hl : m' = l.length) (hb : Below w0.heap.size w0 w1)
    (hown : w2.ownsRow w1.heap.size 5 1 (.slice A m c) m (bv l)) (hb2 : Below w1.heap.size w1 w2) : NewB w0 w2 A m' c l := by
  subst hm
  have hs := hb.size
  refine ⟨hl, ?_, hb.trans (hb2.mono hs)⟩
  obtain ⟨h1, h2⟩ := hown
  refine ⟨h1, ?_⟩
  rcases h2 with h2 | ⟨g', cap, cur, hv, hg, r⟩
  · exact .inl h2
  · exact .inr ⟨g', cap, cur, hv, by omega, r⟩

theorem own_cut_to {w : World} {B : Nat} {e : TypeId} {A A' : Option Addr} {n c m d k : Nat} {xs ys : List Value} (h : Own w B e 1 A n c xs) (hk : k ≤ n) (hA : c = k ∨ A' = A.map (·.add k))
    (hm : m = n - k) (hd : d = c - k) (hy : ys = xs.drop k) : Own w B e 1 A' m d ys := by
  subst hm; subst hd; subst hy
  have := h.cut hk
  rw [Nat.mul_one] at this
  rcases hA with hA | hA
  · subst hA
    exact ⟨this.len, this.cap, this.lim, fun _ => by omega, fun hc => by omega⟩
  · subst hA
    by_cases hck : c = k
    · subst hck
      exact ⟨this.len, this.cap, this.lim, fun _ => by omega, fun hc => by omega⟩
    · rw [if_neg hck] at this
      simpa using this

/-- new bytes, which may lie in the middle of a new block -/
def NewO (w w' : World) (A : Option Addr) (m c : Nat) (l : List UInt8) : Prop := m = l.length ∧ Own w' w.heap.size 5 1 A m c (bv l) ∧ Below w.heap.size w w'
theorem NewO.bytes {w w' : World} {A : Option Addr} {m c : Nat} {l : List UInt8} (h : NewO w w' A m c l) : Bytes w' w'.heap.size A m c l :=
  ⟨h.1, h.2.1.cap, h.2.1.lim, h.2.1.reads⟩
theorem NewO.none_ (w : World) : NewO w w none 0 0 [] := ⟨rfl, Own.of_row (World.ownsRow_nil _ _ _ _), Below.refl _ _⟩
theorem NewB.mid {w w' : World} {A : Option Addr} {m c : Nat} {l : List UInt8} (h : NewB w w' A m c l) : NewO w w' A m c l := ⟨h.1, Own.of_row h.2.1, h.2.2⟩
def PostObe (w : World) (l : List UInt8) (b : Bool) (k : Int) (e : Ending) (w' : World) : Prop := ∃ A m c, e = .returned (.tuple #[.slice A m c, .bool b, .int .i64 k]) ∧ NewO w w' A m c l

theorem bool_eq {a b : Bool} (h : a = b) : Value.bool a = Value.bool b := by rw [h]
theorem ret_bool {a b : Bool} (h : a = b) : Ending.returned (.bool a) = .returned (.bool b) := by rw [h]
theorem ret_pair {a b x y : Value} (h : a = x) (h' : b = y) : Ending.returned (.tuple #[a, b]) = .returned (.tuple #[x, y]) := by rw [h, h']
theorem ret_three {a b c x y z : Value} (h : a = x) (h' : b = y) (h'' : c = z) : Ending.returned (.tuple #[a, b, c]) = .returned (.tuple #[x, y, z]) := by rw [h, h', h'']

/-- POSTS: a call hands back new bytes; with a bool; with an error's number; with both -/
def PostB (w : World) (l : List UInt8) (e : Ending) (w' : World) : Prop := ∃ A m c, e = .returned (.slice A m c) ∧ NewB w w' A m c l
def PostBb (w : World) (l : List UInt8) (b : Bool) (e : Ending) (w' : World) : Prop := ∃ A m c, e = .returned (.tuple #[.slice A m c, .bool b]) ∧ NewB w w' A m c l
def PostBe (w : World) (l : List UInt8) (k : Int) (e : Ending) (w' : World) : Prop := ∃ A m c, e = .returned (.tuple #[.slice A m c, .int .i64 k]) ∧ NewB w w' A m c l
def PostBbe (w : World) (l : List UInt8) (b : Bool) (k : Int) (e : Ending) (w' : World) : Prop := ∃ A m c, e = .returned (.tuple #[.slice A m c, .bool b, .int .i64 k]) ∧ NewB w w' A m c l
/-- a call that hands back a bool, and only draws -/
def PostQ (w : World) (v : Value) (e : Ending) (w' : World) : Prop := e = .returned v ∧ ∃ n, w' = w.drewN n

theorem PostQ.below {w : World} {v : Value} {e : Ending} {w' : World} (h : PostQ w v e w') : e = .returned v ∧ Below w.heap.size w w' := by
  obtain ⟨he, n, rfl⟩ := h
  exact ⟨he, below_drewN (Below.refl _ _) n⟩

section
variable {w : World}
/-- where an owned row that isn't empty lies -/
theorem own_at {base n c : Nat} {e : TypeId} {A : Option Addr} {xs : List Value} (h : w.ownsRow base e 1 (.slice A n c) n xs) (hn : 0 < n) : ∃ g, A = some ⟨g, 0, none⟩ ∧ base ≤ g ∧ g < w.heap.size := by
  obtain ⟨g, cap, hv, hb, hlt⟩ := h.form hn
  exact ⟨g, by injection hv, hb, hlt⟩

theorem own_cell {base n c g : Nat} {e : TypeId} {xs : List Value} (h : w.ownsRow base e 1 (.slice (some ⟨g, 0, none⟩) n c) n xs) (j : Nat) (v : Value) (hj : xs[j]? = some v) : w.cell? ⟨g, j, none⟩ = some v := by
  have hl := h.1
  have : j < xs.length := (List.getElem?_eq_some_iff.1 hj).1
  rw [h.cellAt j (by omega), hj]

/-- 'append(v, x...)' onto bytes of the call's own -/
theorem wp_append_u8 {o : Oper} {a : Act} {K : Act → World → Prop} {Q : Exit → Act → World → Prop} (s x : Operand)
    (ho : o.op = .call { callee := .builtin .append, args := #[s, x], argTypes := #[22, 22] })
    (base : Nat) (v : Value) (n : Nat) (xs : List UInt8) (hs : a.eval s = v) (hown : w.ownsRow base 5 1 v n (bv xs))
    (B : Nat) (A : Option Addr) (m c : Nat) (news : List UInt8) (hx : a.eval x = .slice A m c) (hr : Bytes w B A m c news)
    (hlim : n + m ≤ 140737488355328) (hbase : base ≤ w.heap.size)
    (h : ∀ A' c' w', w'.ownsRow base 5 1 (.slice A' (n + m) c') (n + m) (bv (xs ++ news)) → Below base w w' → w.grownBy w' v.ownBlock → K (a.put o.dst (.slice A' (n + m) c')) w') : o.wp Try.prog a w K Q := by
  obtain ⟨i0, hi, hz0, hz1, hz2⟩ := info_parts info_u8
  refine wp_append_any w s x 22 ho base 5 i0 (.int .u8 0) 1 1 Try.underlying22 hi hz0 hz1 hz2 rfl (by omega) v n (bv xs) hs hown B A m c (bv news) hx hr.reads (bv_one _) (by unfold maxLen; omega) (by omega) hbase ?_
  intro v' w' h1 h2 _
  rw [← bv_append] at h1
  have hb : Below base w w' := (Below.refl _ _).grown h2 hbase (fun k hk => by have := hown.lt k hk; exact this.1)
  rcases h1.2 with ⟨rfl, h0⟩ | ⟨g, cap, cur, rfl, _⟩
  · rw [h0] at h1 h
    exact h none 0 w' h1 hb h2
  · exact h _ _ w' h1 hb h2

theorem wpList_append_u8 {ops : Array Oper} {rest : List Oper} {o : Oper} {a : Act} {Q : Exit → Act → World → Prop} (hgd : o.guard = none) (s x : Operand)
    (ho : o.op = .call { callee := .builtin .append, args := #[s, x], argTypes := #[22, 22] })
    (base : Nat) (v : Value) (n : Nat) (xs : List UInt8) (hs : a.eval s = v) (hown : w.ownsRow base 5 1 v n (bv xs))
    (B : Nat) (A : Option Addr) (m c : Nat) (news : List UInt8) (hx : a.eval x = .slice A m c) (hr : Bytes w B A m c news)
    (hlim : n + m ≤ 140737488355328) (hbase : base ≤ w.heap.size)
    (h : ∀ A' c' w', w'.ownsRow base 5 1 (.slice A' (n + m) c') (n + m) (bv (xs ++ news)) → Below base w w' → wpList Try.prog ops Q rest (a.put o.dst (.slice A' (n + m) c')) w') : wpList Try.prog ops Q (o :: rest) a w :=
  wpList_plain hgd fun _ hK => wp_append_u8 s x ho base v n xs hs hown B A m c news hx hr hlim hbase fun A' c' w' h1 h2 _ => hK _ _ (h A' c' w' h1 h2)

/-- the same, as a step of a region that draws -/
theorem step_append_u8 {ops : Array Oper} {o : Oper} {a : Act} {K : Act → World → Prop} {Q : Exit → Act → World → Prop} {E : Prop} (hgd : o.guard = none) (s x : Operand)
    (ho : o.op = .call { callee := .builtin .append, args := #[s, x], argTypes := #[22, 22] })
    (base : Nat) (v : Value) (n : Nat) (xs : List UInt8) (hs : a.eval s = v) (hown : w.ownsRow base 5 1 v n (bv xs))
    (B : Nat) (A : Option Addr) (m c : Nat) (news : List UInt8) (hx : a.eval x = .slice A m c) (hr : Bytes w B A m c news)
    (hlim : n + m ≤ 140737488355328) (hbase : base ≤ w.heap.size)
    (h : ∀ A' c' w', w'.ownsRow base 5 1 (.slice A' (n + m) c') (n + m) (bv (xs ++ news)) → Below base w w' → w.grownBy w' v.ownBlock → K (a.put o.dst (.slice A' (n + m) c')) w') :
    if Region.wanted o (yielded ops a.tmps) = true then Oper.wp Try.prog o a w K Q else E := by
  have hw : Region.wanted o (yielded ops a.tmps) = true := by simp [Region.wanted, hgd]
  rw [if_pos hw]
  exact wp_append_u8 s x ho base v n xs hs hown B A m c news hx hr hlim hbase h

/-- 'append(v, x)': one byte, which lies in a block of its own -/
theorem wpList_append1_u8 {ops : Array Oper} {rest : List Oper} {o : Oper} {a : Act} {Q : Exit → Act → World → Prop} (hgd : o.guard = none) (s x : Operand)
    (ho : o.op = .call { callee := .builtin .append, args := #[s, x], argTypes := #[22, 22] })
    (base : Nat) (v : Value) (n : Nat) (xs : List UInt8) (hs : a.eval s = v) (hown : w.ownsRow base 5 1 v n (bv xs))
    (z : Int) (y : UInt8) (hz : z = (y.toNat : Int)) (gx : Nat) (hx : a.eval x = .slice (some ⟨gx, 0, none⟩) 1 1) (hgx : gx = w.heap.size)
    (hlim : n + 1 ≤ 140737488355328) (hbase : base ≤ w.heap.size)
    (h : ∀ g c' w', w'.ownsRow base 5 1 (.slice (some ⟨g, 0, none⟩) (n + 1) c') (n + 1) (bv (xs ++ [y])) → base ≤ g → Below base w w' → base < w'.heap.size → wpList Try.prog ops Q rest (a.put o.dst (.slice (some ⟨g, 0, none⟩) (n + 1) c')) w') :
    wpList Try.prog ops Q (o :: rest) a (w.alloc (.cells #[.int .u8 z] 5)) := by
  subst hz
  subst hgx
  refine wpList_append_u8 hgd s x ho base v n xs hs (hown.alloc _) (w.heap.size + 1) _ 1 1 [y] hx (Bytes.lit w _ [y] _ rfl (by simp [maxLen]) rfl) hlim (by simp; omega) ?_
  intro A' c' w' h1 h2
  obtain ⟨g, rfl, hg, _⟩ := own_at h1 (by omega)
  refine h g c' w' h1 hg (((Below.refl _ _).alloc hbase _).trans h2) ?_
  have := h2.size
  simp at this
  omega
end
end Go.Proofs.Yteknhmhmepnfjaa

/-
  append onto a slice of the call's own that may begin in the middle of its block; writing over what is one's own.
-/
namespace Go.Proofs.Yteknhmhmepnfjaa
open Go.RowKit

section
variable {P : Program} (w : World)

theorem run_append_room_mid (t ty e : TypeId) (i : TypeInfo) (ht : P.underlying t = some (.slice e)) (hi : P.info? e = some i)
    (g off n c : Nat) (cur : Array Value) (hg : w.heap[g]? = some (.cells cur e (0, 0)))
    (a : Addr) (m c2 : Nat) (news : List Value) (hl : news.length = m * i.size) (hnews : ∀ j u, news[j]? = some u → w.cell? (a.add j) = some u) (h1 : ∀ u ∈ news, u.oneCell' = true)
    (hroom : n + m ≤ c) (hfit : off + n * i.size + news.length ≤ cur.size) :
    (Builtin.append_ #[t, t] ty #[.slice (some ⟨g, off, none⟩) n c, .slice (some a) m c2]).run P w =
      .ok (.slice (some ⟨g, off, none⟩) (n + m) c) (w.setRow g (cur.toList.take (off + n * i.size) ++ news ++ cur.toList.drop (off + n * i.size + news.length)).toArray) := by
  have hf := run_firstCells_some (P := P) w i.size m a m c2 news hl hnews
  have hst := run_storeCells_at P g (off + n * i.size) e news 0 cur w hg (by simpa using hfit) h1
  simp only [Nat.add_zero] at hst
  simp [Builtin.append_, run_underlying ht, sizeOf, typeInfo, hi, Builtin.lenOf, hroom, hf, add_mk, hst]

theorem run_append_mid (t ty e : TypeId) (i : TypeInfo) (z : Value) (size bytes : Nat) (ht : P.underlying t = some (.slice e)) (hi : P.info? e = some i) (hz : i.zero = some z)
    (hsize : i.size = size) (hby : i.bytes = bytes) (hzs : z.cells.size = size)
    (B : Nat) (A : Option Addr) (n c : Nat) (xs : List Value) (hown : Own w B e size A n c xs)
    (B2 : Nat) (A2 : Option Addr) (m c2 : Nat) (news : List Value) (hr : Reads w B2 size A2 m news) (h1 : ∀ u ∈ news, u.oneCell' = true)
    (h63 : n + m ≤ maxLen) (hbytes : (n + m) * bytes ≤ 140737488355328) (hB : B ≤ w.heap.size) (hm : 0 < m) :
    ∃ A' c' w', (Builtin.append_ #[t, t] ty #[.slice A n c, .slice A2 m c2]).run P w = .ok (.slice A' (n + m) c') w' ∧ Own w' B e size A' (n + m) c' (xs ++ news) ∧ Below B w w' := by
  subst hsize
  subst hby
  obtain ⟨g2, o2, rfl, _, hc2⟩ := hr.2 hm
  have hcells : ∀ j u, news[j]? = some u → w.cell? ((⟨g2, o2, none⟩ : Addr).add j) = some u := fun j u hu => by rw [add_mk]; exact hc2 j u hu
  have hsmall : n + m ≤ 9223372036854775807 := by unfold maxLen at h63; omega
  have hlen : (xs ++ news).length = (n + m) * i.size := by rw [List.length_append, hown.len, hr.1, Nat.add_mul]
  by_cases hroom : n + m ≤ c
  · obtain ⟨g, off, cur, rfl, hbg, hg, hsz, htake⟩ := hown.blk (by omega)
    have hmul : (n + m) * i.size ≤ c * i.size := Nat.mul_le_mul_right _ hroom
    have hfit : off + n * i.size + news.length ≤ cur.size := by rw [hr.1]; rw [Nat.add_mul] at hmul; omega
    refine ⟨_, _, _, run_append_room_mid w t ty e i ht hi g off n c cur hg ⟨g2, o2, none⟩ m c2 news hr.1 hcells h1 hroom hfit, ⟨hlen, hroom, hown.lim, (fun h => by cases h), fun _ => ⟨g, off, _, rfl, hbg, setRow_heap w g cur _ e _ hg, ?_, ?_⟩⟩, ⟨rfl, rfl, rfl, by simp, fun k hk => setRow_other w g k _ (by omega)⟩⟩
    · simp only [List.size_toArray, List.length_append, List.length_take, List.length_drop, Array.length_toList]
      omega
    · have hl1 : (cur.toList.take (off + n * i.size)).length = off + n * i.size := by rw [List.length_take, Array.length_toList]; omega
      show List.take ((n + m) * i.size) (List.drop off (cur.toList.take (off + n * i.size) ++ news ++ cur.toList.drop (off + n * i.size + news.length))) = xs ++ news
      have hd : List.drop off (cur.toList.take (off + n * i.size)) = xs := by
        rw [List.drop_take, Nat.add_sub_cancel_left]
        exact htake
      rw [List.append_assoc, List.drop_append_of_le_length (by omega), hd, ← List.append_assoc, ← hlen]
      exact List.take_left
  · have grown : ∀ old, Own (w.drew.alloc (.cells (xs.toArray ++ news.toArray ++ Builtin.zeroCells z.cells (grownCap w (n + m) old e - (n + m))) e)) B e i.size (some ⟨w.heap.size, 0, none⟩) (n + m) (grownCap w (n + m) old e) (xs ++ news) ∧
        Below B w (w.drew.alloc (.cells (xs.toArray ++ news.toArray ++ Builtin.zeroCells z.cells (grownCap w (n + m) old e - (n + m))) e)) := by
      intro old
      have hge := grownCap_ge w (n + m) old e
      have hcm : grownCap w (n + m) old e ≤ maxLen := grownCap_le_maxLen w (n + m) old e h63
      refine ⟨⟨hlen, hge, hcm, (fun h => by cases h), fun _ => ⟨w.heap.size, 0, _, rfl, hB, heap_alloc_new w.drew _, ?_, ?_⟩⟩, ⟨rfl, rfl, rfl, by simp, fun k hk => Below.heap_alloc w.drew _ k (by show k < w.heap.size; omega)⟩⟩
      · simp only [Array.size_append, List.size_toArray, size_zeroCells, hzs, hown.len, hr.1, ← Nat.add_mul]
        rw [Nat.zero_add]
        exact Nat.mul_le_mul_right _ (by omega)
      · simp only [Array.toList_append, List.append_assoc, List.drop_zero]
        rw [← List.append_assoc, ← hlen]
        exact List.take_left
    rcases A with _ | ad
    · have hc0 := hown.nil rfl
      subst hc0
      have hn0 : n = 0 := by have := hown.cap; omega
      subst hn0
      have hx : xs = [] := List.eq_nil_of_length_eq_zero (by simpa using hown.len)
      subst hx
      have hrun := run_append_nil (P := P) w t ty e i z ht hi hz ⟨g2, o2, none⟩ m c2 news hr.1 hcells hm (by omega) (by rw [Nat.zero_add] at hbytes; omega)
      have hgr := grown 0
      simp only [Nat.zero_add, List.nil_append, Array.empty_append] at hgr ⊢
      exact ⟨_, _, _, hrun, hgr.1, hgr.2⟩
    · have holds : ∀ j u, xs[j]? = some u → w.cell? (ad.add j) = some u := by
        intro j u hu
        have hj := (List.getElem?_eq_some_iff.1 hu).1
        have hn0 : 0 < n := by
          rcases Nat.eq_zero_or_pos n with h0 | h0
          · subst h0; have := hown.len; simp at this; simp [this] at hj
          · exact h0
        obtain ⟨g, o, e1, _, hc⟩ := hown.reads.2 hn0
        injection e1 with e1
        subst e1
        rw [add_mk]
        exact hc j u hu
      have hrun := run_append_grow (P := P) w t ty e i z ht hi hz ad n c xs hown.len holds ⟨g2, o2, none⟩ m c2 news hr.1 hcells (by omega) (by omega) (growslice_fits (by omega) hbytes)
      exact ⟨_, _, _, hrun, (grown c).1, (grown c).2⟩
end

/-- one byte more behind bytes of the call's own, wherever they begin -/
theorem wpList_append1_mid {w : World} {ops : Array Oper} {rest : List Oper} {o : Oper} {a : Act} {Q : Exit → Act → World → Prop} (hgd : o.guard = none) (s x : Operand)
    (ho : o.op = .call { callee := .builtin .append, args := #[s, x], argTypes := #[22, 22] })
    (B : Nat) (A : Option Addr) (n c : Nat) (xs : List Value) (hs : a.eval s = .slice A n c) (hown : Own w B 5 1 A n c xs)
    (z : Int) (gx : Nat) (hx : a.eval x = .slice (some ⟨gx, 0, none⟩) 1 1) (hgx : gx = w.heap.size)
    (hlim : n + 1 ≤ 140737488355328) (hB : B ≤ w.heap.size)
    (h : ∀ A' c' w', Own w' B 5 1 A' (n + 1) c' (xs ++ [.int .u8 z]) → Below B w w' → wpList Try.prog ops Q rest (a.put o.dst (.slice A' (n + 1) c')) w') :
    wpList Try.prog ops Q (o :: rest) a (w.alloc (.cells #[.int .u8 z] 5)) := by
  subst hgx
  obtain ⟨i0, hi, hz0, hz1, hz2⟩ := info_parts info_u8
  have hown1 : Own (w.alloc (.cells #[.int .u8 z] 5)) B 5 1 A n c xs := hown.below (B' := w.heap.size) ((Below.refl _ _).alloc (Nat.le_refl _) _) (Nat.le_refl _)
  have hr : Reads (w.alloc (.cells #[.int .u8 z] 5)) (w.heap.size + 1) 1 (some ⟨w.heap.size, 0, none⟩) 1 [.int .u8 z] := by
    refine ⟨rfl, fun _ => ⟨w.heap.size, 0, rfl, Nat.lt_succ_self _, fun j u hu => ?_⟩⟩
    rw [Nat.zero_add, cell_of_row (w.alloc (.cells #[.int .u8 z] 5)) w.heap.size j _ 5 (0, 0) (heap_alloc_new w _)]
    simpa using hu
  obtain ⟨A', c', w', hrun, h2, h3⟩ := run_append_mid (P := Try.prog) (w.alloc (.cells #[.int .u8 z] 5)) 22 o.type 5 i0 (.int .u8 0) 1 1 Try.underlying22 hi hz0 hz1 hz2 rfl B A n c xs hown1
    (w.heap.size + 1) (some ⟨w.heap.size, 0, none⟩) 1 1 [.int .u8 z] hr (by intro u hu; simp at hu; subst hu; rfl) (by unfold maxLen; omega) (by omega) (by simp; omega) (by omega)
  refine wpList_plain hgd fun _ hK => ?_
  unfold Oper.wp execOp
  simp only [ho, resolve, invoke, builtin, Sem.run_bind, Sem.run_pure, Result.andThen_ok, List.map_toArray, List.map_cons, List.map_nil, hs, hx, hrun]
  exact hK _ _ (h A' c' w' h2 (((Below.refl _ _).alloc hB _).trans h3))

/-- one of its own cells is written -/
theorem Own.stored {w : World} {B : Nat} {e : TypeId} {g o n c : Nat} {xs : List Value} (h : Own w B e 1 (some ⟨g, o, none⟩) n c xs) (j : Nat) (hj : j < n) (u : Value) :
    Own (w.setCell ⟨g, o + j, none⟩ u) B e 1 (some ⟨g, o, none⟩) n c (xs.set j u) := by
  refine ⟨by rw [List.length_set]; exact h.len, h.cap, h.lim, h.nil, fun hc => ?_⟩
  obtain ⟨g', off, cur, hA, hB, hg, hsz, ht⟩ := h.blk hc
  cases hA
  have hcap := h.cap
  refine ⟨g, o, cur.setIfInBounds (o + j) u, rfl, hB, ?_, by simpa using hsz, ?_⟩
  · simp [World.setCell, Array.getElem?_modify, hg]
  · rw [← ht]
    rw [Array.toList_setIfInBounds, List.drop_set, if_neg (by omega), List.take_set]
    congr 1; omega
/-- a cell below its own is written -/
theorem Own.far {w : World} {B size : Nat} {e : TypeId} {A : Option Addr} {n c : Nat} {xs : List Value} (h : Own w B e size A n c xs) {p : Addr} (hp : p.block < B) (u : Value) : Own (w.setCell p u) B e size A n c xs := by
  refine ⟨h.len, h.cap, h.lim, h.nil, fun hc => ?_⟩
  obtain ⟨g, off, cur, rfl, hB, hg, r⟩ := h.blk hc
  exact ⟨g, off, cur, rfl, hB, by rw [Below.heap_setCell _ _ _ _ (by omega)]; exact hg, r⟩
/-- where it lies, and what may be done there -/
theorem Own.at_ {w : World} {B : Nat} {e : TypeId} {A : Option Addr} {n c : Nat} {xs : List Value} (h : Own w B e 1 A n c xs) (hn : 0 < n) : ∃ g o, A = some ⟨g, o, none⟩ ∧ B ≤ g ∧ g < w.heap.size ∧
    ∀ j, j < n → (∃ v, w.cell? ⟨g, o + j, none⟩ = some v) ∧ w.frozen? ⟨g, o + j, none⟩ = false := by
  have hcap := h.cap
  obtain ⟨g, off, cur, rfl, hB, hg, hsz, ht⟩ := h.blk (by omega)
  have hlt : g < w.heap.size := (Array.getElem?_eq_some_iff.1 hg).1
  refine ⟨g, off, rfl, hB, hlt, fun j hj => ⟨⟨cur[off + j]'(by omega), ?_⟩, by simp [World.frozen?, hg]⟩⟩
  rw [cell_of_row w g (off + j) cur e (0, 0) hg]
  simp

/-- a slice into which may be written -/
def Room (w : World) (B : Nat) (A : Option Addr) (n : Nat) : Prop :=
  0 < n → ∃ g o, A = some ⟨g, o, none⟩ ∧ B ≤ g ∧ ∀ j, j < n → (∃ v, w.cell? ⟨g, o + j, none⟩ = some v) ∧ w.frozen? ⟨g, o + j, none⟩ = false
theorem Room.set_ {w : World} {B : Nat} {A : Option Addr} {n : Nat} (h : Room w B A n) (p : Addr) (u : Value) : Room (w.setCell p u) B A n := by
  intro hn
  obtain ⟨g, o, rfl, hB, hc⟩ := h hn
  refine ⟨g, o, rfl, hB, fun j hj => ?_⟩
  obtain ⟨⟨v, hv⟩, hf⟩ := hc j hj
  exact ⟨cell?_setCell_some hv, by rw [World.frozen?_setCell]; exact hf⟩
theorem Own.room {w : World} {B : Nat} {e : TypeId} {A : Option Addr} {n c : Nat} {xs : List Value} (h : Own w B e 1 A n c xs) : Room w B A n := by
  intro hn
  obtain ⟨g, off, cur, rfl, hB, hg, hsz, ht⟩ := h.blk (by have := h.cap; omega)
  refine ⟨g, off, rfl, hB, fun j hj => ?_⟩
  have := h.cap
  refine ⟨⟨cur[off + j]'(by omega), ?_⟩, by simp [World.frozen?, hg]⟩
  rw [cell_of_row w g (off + j) cur e (0, 0) hg]
  simp
theorem Room.below {w w' : World} {B B' : Nat} {A : Option Addr} {n : Nat} (h : Room w B A n) (hb : Below B' w w') (hB : w.heap.size ≤ B') : Room w' B A n := by
  intro hn
  obtain ⟨g, o, rfl, hB, hc⟩ := h hn
  refine ⟨g, o, rfl, hB, fun j hj => ?_⟩
  obtain ⟨⟨v, hv⟩, hf⟩ := hc j hj
  have hlt : g < w.heap.size := World.block_lt_of_cell? w _ hv
  exact ⟨⟨v, (hb.cell (p := ⟨g, o + j, none⟩) (by show g < B'; omega)).trans hv⟩, (hb.frozen (p := ⟨g, o + j, none⟩) (by show g < B'; omega)).trans hf⟩
end Go.Proofs.Yteknhmhmepnfjaa

/-
  Words as bytes: plain functions on lists of bytes, no program.
-/
namespace Go.Proofs.Yteknhmhmepnfjaa
namespace Wd

/-- a number's bytes, the highest first, as few as may be (k at most) -/
def be : Nat → Nat → List UInt8
  | 0, _ => []
  | k + 1, n => if n = 0 then [] else be k (n / 256) ++ [UInt8.ofNat (n % 256)]
/-- what bytes say, the highest first -/
def rd (l : List UInt8) : Nat := l.foldl (fun n c => n * 256 + c.toNat) 0
/-- just k bytes -/
def fix : Nat → Nat → List UInt8
  | 0, _ => []
  | k + 1, n => fix k (n / 256) ++ [UInt8.ofNat (n % 256)]
/-- no nought ahead -/
def tight : List UInt8 → Bool
  | [] => true
  | c :: _ => c != 0

theorem rd_nil : rd [] = 0 := rfl
theorem rd_snoc (l : List UInt8) (c : UInt8) : rd (l ++ [c]) = rd l * 256 + c.toNat := by unfold rd; rw [List.foldl_append]; rfl
theorem foldl_rd (l : List UInt8) : ∀ a : Nat, l.foldl (fun n c => n * 256 + c.toNat) a = a * 256 ^ l.length + rd l := by
  induction l with
  | nil => intro a; simp [rd]
  | cons c l ih =>
    intro a
    unfold rd
    rw [List.foldl_cons, List.foldl_cons, ih, ih (0 * 256 + c.toNat), List.length_cons, Nat.pow_succ, Nat.add_mul, Nat.zero_mul, Nat.zero_add, Nat.mul_assoc, Nat.mul_comm 256, Nat.add_assoc]
theorem rd_cons (c : UInt8) (l : List UInt8) : rd (c :: l) = c.toNat * 256 ^ l.length + rd l := by
  show l.foldl (fun n c => n * 256 + c.toNat) (0 * 256 + c.toNat) = _
  rw [foldl_rd, Nat.zero_mul, Nat.zero_add]
theorem rd_lt : ∀ (l : List UInt8), rd l < 256 ^ l.length
  | [] => by simp [rd]
  | c :: l => by
    have h := rd_lt l
    have hc := c.toNat_lt
    rw [rd_cons, List.length_cons, Nat.pow_succ]
    have : c.toNat * 256 ^ l.length ≤ 255 * 256 ^ l.length := Nat.mul_le_mul_right _ (by omega)
    omega
theorem be_succ (k n : Nat) : be (k + 1) n = if n = 0 then [] else be k (n / 256) ++ [UInt8.ofNat (n % 256)] := rfl
theorem be_zero (k : Nat) : be k 0 = [] := by cases k <;> simp [be]
theorem be_length : ∀ (k n : Nat), (be k n).length ≤ k
  | 0, _ => by simp [be]
  | k + 1, n => by
    have := be_length k (n / 256)
    rw [be_succ]
    split <;> simp; omega
theorem byte_mod (n : Nat) : (UInt8.ofNat (n % 256)).toNat = n % 256 := by simp
theorem rd_be : ∀ (k n : Nat), n < 256 ^ k → rd (be k n) = n
  | 0, n, h => by
    have : n = 0 := by simpa using h
    subst this; rfl
  | k + 1, n, h => by
    have h1 : n / 256 < 256 ^ k := by rw [Nat.pow_succ] at h; exact Nat.div_lt_of_lt_mul (by rwa [Nat.mul_comm])
    rw [be_succ]
    split
    · rename_i h0; rw [h0]; rfl
    · rw [rd_snoc, rd_be k _ h1, byte_mod]; omega
theorem be_tight : ∀ (k n : Nat), n < 256 ^ k → tight (be k n) = true
  | 0, _, _ => rfl
  | k + 1, n, h => by
    have h1 : n / 256 < 256 ^ k := by rw [Nat.pow_succ] at h; exact Nat.div_lt_of_lt_mul (by rwa [Nat.mul_comm])
    rw [be_succ]
    split
    · rfl
    · rename_i h0
      have ih := be_tight k (n / 256) h1
      by_cases hz : n / 256 = 0
      · rw [hz, be_zero]
        have hn : n % 256 = n := Nat.mod_eq_of_lt (by omega)
        have hb := byte_mod n
        simp only [List.nil_append, tight, bne_iff_ne, ne_eq]
        intro e
        rw [e] at hb
        simp at hb
        omega
      · cases hb : be k (n / 256) with
        | nil =>
          have := rd_be k _ h1
          rw [hb] at this
          exact absurd this.symm hz
        | cons c r =>
          rw [hb] at ih
          exact ih
theorem be_rd : ∀ (l : List UInt8) (k : Nat), tight l = true → l.length ≤ k → be k (rd l) = l := by
  have key : ∀ (m : Nat) (l : List UInt8) (k : Nat), l.length = m → tight l = true → l.length ≤ k → be k (rd l) = l := by
    intro m
    induction m with
    | zero =>
      intro l k hm _ _
      have : l = [] := List.eq_nil_of_length_eq_zero hm
      subst this
      rw [rd_nil, be_zero]
    | succ m ih =>
      intro l k hm ht hk
      have hne : l ≠ [] := by intro e; subst e; simp at hm
      have hl := List.dropLast_concat_getLast hne
      have hd : l.dropLast.length = m := by rw [List.length_dropLast]; omega
      have htd : tight l.dropLast = true := by
        cases l with
        | nil => rfl
        | cons c r =>
          cases r with
          | nil => rfl
          | cons d r => exact ht
      obtain ⟨k', rfl⟩ : ∃ k', k = k' + 1 := ⟨k - 1, by omega⟩
      rw [← hl, rd_snoc]
      have hc := (l.getLast hne).toNat_lt
      have hdiv : (rd l.dropLast * 256 + (l.getLast hne).toNat) / 256 = rd l.dropLast := by omega
      have hmod : (rd l.dropLast * 256 + (l.getLast hne).toNat) % 256 = (l.getLast hne).toNat := by omega
      rw [be_succ]
      rw [hdiv, hmod, ih l.dropLast k' hd htd (by omega), UInt8.ofNat_toNat, if_neg]
      intro h0
      have hlast : l.getLast hne = 0 := UInt8.toNat_inj.1 (by simp; omega)
      have hdr : rd l.dropLast = 0 := by omega
      have : l.dropLast = [] := by
        have := ih l.dropLast k' hd htd (by omega)
        rw [hdr, be_zero] at this
        exact this.symm
      rw [this, List.nil_append] at hl
      rw [← hl, hlast] at ht
      simp [tight] at ht
  exact fun l k => key l.length l k rfl
theorem fix_length : ∀ (k n : Nat), (fix k n).length = k
  | 0, _ => rfl
  | k + 1, n => by simp [fix, fix_length k]
theorem fix_zero : ∀ k, fix k 0 = List.replicate k 0
  | 0 => rfl
  | k + 1 => by rw [fix, Nat.zero_div, fix_zero k, List.replicate_succ']; rfl
theorem dropWhile_snoc (p : UInt8 → Bool) : ∀ (l : List UInt8) (c : UInt8), (l ++ [c]).dropWhile p = if l.dropWhile p = [] then [c].dropWhile p else l.dropWhile p ++ [c]
  | [], c => by simp
  | x :: l, c => by
    have ih := dropWhile_snoc p l c
    rw [List.cons_append, List.dropWhile_cons, List.dropWhile_cons]
    split
    · exact ih
    · simp
theorem fix_be : ∀ (k n : Nat), n < 256 ^ k → (fix k n).dropWhile (· == 0) = be k n
  | 0, _, _ => rfl
  | k + 1, n, h => by
    have h1 : n / 256 < 256 ^ k := by rw [Nat.pow_succ] at h; exact Nat.div_lt_of_lt_mul (by rwa [Nat.mul_comm])
    rw [fix, dropWhile_snoc, fix_be k _ h1]
    rw [be_succ]
    by_cases h0 : n = 0
    · subst h0
      rw [Nat.zero_div, be_zero, if_pos rfl, if_pos rfl]
      simp
    · rw [if_neg h0]
      by_cases hz : be k (n / 256) = []
      · rw [if_pos hz, hz]
        have hr := rd_be k _ h1
        rw [hz, rd_nil] at hr
        have hb := byte_mod n
        have hne : UInt8.ofNat (n % 256) ≠ 0 := by
          intro e
          rw [e] at hb
          simp at hb
          omega
        simp only [List.dropWhile_cons, beq_iff_eq, if_neg hne, List.nil_append]
      · rw [if_neg hz]
theorem tight_be (l : List UInt8) (k : Nat) (h : l.length ≤ k) : tight l = true ↔ be k (rd l) = l :=
  ⟨fun ht => be_rd l k ht h, fun he => by
    rw [← he]
    refine be_tight k _ (Nat.lt_of_lt_of_le (rd_lt l) (Nat.pow_le_pow_right (by omega) h))⟩
theorem be_one (k n : Nat) (h0 : 0 < n) (h1 : n < 256) : be (k + 1) n = [UInt8.ofNat n] := by
  rw [be_succ]
  rw [if_neg (by omega), show n / 256 = 0 by omega, be_zero, Nat.mod_eq_of_lt h1]; rfl
theorem be_two (k n : Nat) (h0 : 256 ≤ n) (h1 : n < 65536) : be (k + 2) n = [UInt8.ofNat (n / 256), UInt8.ofNat (n % 256)] := by
  rw [be_succ]
  rw [if_neg (by omega), be_one k (n / 256) (by omega) (by omega)]; rfl
theorem be_three (k n : Nat) (h0 : 65536 ≤ n) (h1 : n < 16777216) : be (k + 3) n = [UInt8.ofNat (n / 65536), UInt8.ofNat (n / 256 % 256), UInt8.ofNat (n % 256)] := by
  rw [be_succ]
  rw [if_neg (by omega), be_two k (n / 256) (by omega) (by omega)]
  rw [Nat.div_div_eq_div_mul]; rfl
theorem be_same (k j n : Nat) (hk : n < 256 ^ k) (hj : n < 256 ^ j) : be k n = be j n := by
  have h1 := rd_be k n hk
  have h2 := rd_be j n hj
  have := be_rd (be k n) (max k j) (be_tight k n hk) (Nat.le_trans (be_length k n) (Nat.le_max_left _ _))
  have h3 := be_rd (be j n) (max k j) (be_tight j n hj) (Nat.le_trans (be_length j n) (Nat.le_max_right _ _))
  rw [h1] at this
  rw [h2] at h3
  exact this.symm.trans h3
theorem fix_at : ∀ (k n i : Nat) (h : i < k), (fix k n)[i]'(by rw [fix_length]; exact h) = UInt8.ofNat (n / 256 ^ (k - 1 - i) % 256)
  | k + 1, n, i, h => by
    simp only [fix]
    by_cases hi : i < k
    · rw [List.getElem_append_left (by rw [fix_length]; exact hi), fix_at k (n / 256) i hi, Nat.div_div_eq_div_mul]
      rw [show k + 1 - 1 - i = (k - 1 - i) + 1 by omega, Nat.pow_succ, Nat.mul_comm 256]
    · have : i = k := by omega
      subst this
      rw [List.getElem_append_right (by rw [fix_length]; exact Nat.le_refl _)]
      simp
end Wd
end Go.Proofs.Yteknhmhmepnfjaa

/-
  Nested lists of byte strings as bytes: plain functions, no program.
-/
namespace Go.Proofs.Yteknhmhmepnfjaa
namespace Ns

/-- items of at most d - 1 lists in one another -/
def It : Nat → Type
  | 0 => Empty
  | d + 1 => List UInt8 ⊕ List (It d)

def tx {d : Nat} (b : List UInt8) : It (d + 1) := Sum.inl b
def ls {d : Nat} (xs : List (It d)) : It (d + 1) := Sum.inr xs
theorem It.two {d : Nat} (x : It (d + 1)) : (∃ b, x = tx b) ∨ (∃ xs, x = ls xs) := by
  match x with
  | Sum.inl b => exact .inl ⟨b, rfl⟩
  | Sum.inr xs => exact .inr ⟨xs, rfl⟩
def maxBytes : Nat := 16777215
/-- the bytes ahead of a body of n bytes -/
def head (base n : Nat) : List UInt8 := if n ≤ 55 then [UInt8.ofNat (base + n)] else UInt8.ofNat (base + 55 + (Wd.be 8 n).length) :: Wd.be 8 n
def encT (b : List UInt8) : List UInt8 := if b.length = 1 ∧ rd1 b < 128 then b else head 128 b.length ++ b
where rd1 (b : List UInt8) : Nat := match b with
  | [] => 0
  | c :: _ => c.toNat
/-- an item's bytes; its body's -/
def enc : (d : Nat) → It d → List UInt8
  | 0, x => nomatch x
  | _ + 1, .inl b => encT b
  | d + 1, .inr xs => head 192 (xs.flatMap (enc d)).length ++ xs.flatMap (enc d)
def body : (d : Nat) → It d → List UInt8
  | 0, x => nomatch x
  | _ + 1, .inl b => b
  | d + 1, .inr xs => xs.flatMap (enc d)

/-- a size behind its first byte (n: what that has above the base): the size, and what is left -/
def size (n : Nat) (r : List UInt8) : Except Int (Nat × List UInt8) :=
  if n ≤ 55 then .ok (n, r)
  else if 58 < n then .error 23
  else if r.length < n - 55 then .error 22
  else if Wd.tight (r.take (n - 55)) = false ∨ Wd.rd (r.take (n - 55)) ≤ 55 then .error 23
  else .ok (Wd.rd (r.take (n - 55)), r.drop (n - 55))
/-- one after the other, up to the end -/
def many {α : Type} (f : List UInt8 → Except Int (α × List UInt8)) : Nat → List UInt8 → Except Int (List α)
  | _, [] => .ok []
  | 0, _ :: _ => .error 0
  | k + 1, c :: l => match f (c :: l) with
    | .error e => .error e
    | .ok (x, r) => match many f k r with
      | .error e => .error e
      | .ok xs => .ok (x :: xs)
/-- a byte that stands for itself; the first byte of a text -/
def low (c : UInt8) : Bool := decide (c.toNat < 128)
def short (c : UInt8) : Bool := decide (c.toNat < 192)
def textOf {d : Nat} (c : UInt8) (l : List UInt8) : Except Int (It (d + 1) × List UInt8) :=
  match size (c.toNat - 128) l with
  | .error e => .error e
  | .ok (n, r) => if r.length < n then .error 22 else if n = 1 ∧ encT.rd1 r < 128 then .error 23 else .ok (tx (r.take n), r.drop n)
def listOf {d : Nat} (f : List UInt8 → Except Int (It (d + 1) × List UInt8)) (c : UInt8) (l : List UInt8) : Except Int (It (d + 1 + 1) × List UInt8) :=
  match size (c.toNat - 192) l with
  | .error e => .error e
  | .ok (n, r) => if r.length < n then .error 22 else match many f n (r.take n) with
    | .error e => .error e
    | .ok xs => .ok (ls xs, r.drop n)
/-- the item that bytes begin with, in 8 - d lists -/
def item : (d : Nat) → List UInt8 → Except Int (It (d + 1) × List UInt8)
  | _, [] => .error 22
  | 0, c :: l => if low c = true then .ok (tx [c], l) else if short c = true then textOf c l else .error 21
  | d + 1, c :: l => if low c = true then .ok (tx [c], l) else if short c = true then textOf c l else listOf (item d) c l
/-- the item whose bytes these are -/
def dec (l : List UInt8) : Except Int (It 9) := match item 8 l with
  | .error e => .error e
  | .ok (x, []) => .ok x
  | .ok (_, _ :: _) => .error 24

/-- an item that is read -/
def fit : (d : Nat) → It (d + 1) → Prop
  | _, .inl b => b.length ≤ maxBytes
  | 0, .inr _ => False
  | d + 1, .inr xs => (xs.flatMap (enc (d + 1))).length ≤ maxBytes ∧ ∀ x ∈ xs, fit d x

theorem enc_tx (d : Nat) (b : List UInt8) : enc (d + 1) (tx b) = encT b := rfl
theorem enc_ls (d : Nat) (xs : List (It d)) : enc (d + 1) (ls xs) = head 192 (xs.flatMap (enc d)).length ++ xs.flatMap (enc d) := rfl
theorem fit_tx (d : Nat) (b : List UInt8) : fit d (tx b) = (b.length ≤ maxBytes) := by cases d <;> rfl
theorem fit_ls0 (xs : List (It 0)) : fit 0 (ls xs) = False := rfl
theorem fit_ls (d : Nat) (xs : List (It (d + 1))) : fit (d + 1) (ls xs) = ((xs.flatMap (enc (d + 1))).length ≤ maxBytes ∧ ∀ x ∈ xs, fit d x) := rfl
theorem item_nil (d : Nat) : item d [] = .error 22 := by cases d <;> rfl
theorem low_iff {c : UInt8} : low c = true ↔ c.toNat < 128 := decide_eq_true_iff
theorem short_iff {c : UInt8} : short c = true ↔ c.toNat < 192 := decide_eq_true_iff
theorem item_one (d : Nat) (c : UInt8) (l : List UInt8) (h : c.toNat < 128) : item d (c :: l) = .ok (tx [c], l) := by
  cases d <;> exact if_pos (low_iff.2 h)
theorem item_tx (d : Nat) (c : UInt8) (l : List UInt8) (h : ¬ c.toNat < 128) (h2 : c.toNat < 192) : item d (c :: l) = textOf c l := by
  have h' : ¬ low c = true := fun e => h (low_iff.1 e)
  cases d <;> exact (if_neg h').trans (if_pos (short_iff.2 h2))
theorem item_ls0 (c : UInt8) (l : List UInt8) (h : ¬ c.toNat < 192) : item 0 (c :: l) = .error 21 := by
  have h1 : ¬ low c = true := fun e => h (by have := low_iff.1 e; omega)
  have h2 : ¬ short c = true := fun e => h (short_iff.1 e)
  exact (if_neg h1).trans (if_neg h2)
theorem item_ls (d : Nat) (c : UInt8) (l : List UInt8) (h : ¬ c.toNat < 192) : item (d + 1) (c :: l) = listOf (item d) c l := by
  have h1 : ¬ low c = true := fun e => h (by have := low_iff.1 e; omega)
  have h2 : ¬ short c = true := fun e => h (short_iff.1 e)
  exact (if_neg h1).trans (if_neg h2)

theorem head_pos (base n : Nat) : 0 < (head base n).length := by unfold head; split <;> simp
theorem enc_pos : ∀ (d : Nat) (x : It d), 0 < (enc d x).length
  | 0, x => nomatch x
  | d + 1, .inl b => by
    simp only [enc, encT]
    split
    · rename_i h; omega
    · have := head_pos 128 b.length
      rw [List.length_append]; omega
  | d + 1, .inr xs => by
    have := head_pos 192 (xs.flatMap (enc d)).length
    simp only [enc, List.length_append]; omega
theorem toNat_of (n : Nat) (h : n < 256) : (UInt8.ofNat n).toNat = n := by simp; omega
theorem be_short (n : Nat) (h0 : 55 < n) (h : n ≤ maxBytes) : 1 ≤ (Wd.be 8 n).length ∧ (Wd.be 8 n).length ≤ 3 := by
  unfold maxBytes at h
  have h3 : Wd.be 8 n = Wd.be 3 n := Wd.be_same 8 3 n (by omega) (by omega)
  refine ⟨?_, by rw [h3]; exact Wd.be_length 3 n⟩
  rcases Nat.eq_zero_or_pos (Wd.be 8 n).length with h1 | h1
  · have := Wd.rd_be 8 n (by omega)
    rw [List.eq_nil_of_length_eq_zero h1, Wd.rd_nil] at this
    omega
  · exact h1
/-- a size is read back -/
theorem size_head (base n : Nat) (r : List UInt8) (hb : base + 58 < 256) (h : n ≤ maxBytes) : ∃ c t, head base n = c :: t ∧ c.toNat = base + (c.toNat - base) ∧ c.toNat ≤ base + 58 ∧ size (c.toNat - base) (t ++ r) = .ok (n, r) := by
  unfold head
  by_cases h55 : n ≤ 55
  · rw [if_pos h55]
    refine ⟨_, [], rfl, ?_, ?_, ?_⟩
    · rw [toNat_of _ (by omega)]; omega
    · rw [toNat_of _ (by omega)]; omega
    · rw [toNat_of _ (by omega), Nat.add_sub_cancel_left]
      simp [size, h55]
  · rw [if_neg h55]
    obtain ⟨h1, h3⟩ := be_short n (by omega) h
    have hlt : n < 256 ^ 8 := by unfold maxBytes at h; omega
    refine ⟨_, Wd.be 8 n, rfl, ?_, ?_, ?_⟩
    · rw [toNat_of _ (by omega)]; omega
    · rw [toNat_of _ (by omega)]; omega
    · rw [toNat_of _ (by omega)]
      have e : base + 55 + (Wd.be 8 n).length - base = 55 + (Wd.be 8 n).length := by omega
      rw [e]
      have e2 : 55 + (Wd.be 8 n).length - 55 = (Wd.be 8 n).length := by omega
      unfold size
      rw [if_neg (by omega), if_neg (by omega), e2, if_neg (by simp), List.take_left, List.drop_left, Wd.rd_be 8 n hlt, Wd.be_tight 8 n hlt, if_neg (by simp; omega)]
theorem many_nil {α : Type} (f : List UInt8 → Except Int (α × List UInt8)) (k : Nat) : many f k [] = .ok [] := by cases k <;> rfl
theorem many_enc {α : Type} (f : List UInt8 → Except Int (α × List UInt8)) (g : α → List UInt8) (hg : ∀ x, 0 < (g x).length) :
    ∀ (xs : List α) (k : Nat), (∀ x ∈ xs, ∀ r, f (g x ++ r) = .ok (x, r)) → (xs.flatMap g).length ≤ k → many f k (xs.flatMap g) = .ok xs
  | [], k, _, _ => many_nil f k
  | x :: xs, k, h, hk => by
    rw [List.flatMap_cons] at hk ⊢
    have hp := hg x
    rw [List.length_append] at hk
    obtain ⟨k', rfl⟩ : ∃ k', k = k' + 1 := ⟨k - 1, by omega⟩
    have hx := h x (List.mem_cons_self ..) (xs.flatMap g)
    cases hgx : g x with
    | nil => rw [hgx] at hp; simp at hp
    | cons c t =>
      rw [hgx, List.cons_append] at hx
      rw [List.cons_append]
      simp only [many, hx]
      rw [many_enc f g hg xs k' (fun y hy => h y (List.mem_cons_of_mem _ hy)) (by omega)]
theorem item_text (d : Nat) (b r : List UInt8) (hb : b.length ≤ maxBytes) : item d (encT b ++ r) = .ok (tx b, r) := by
  unfold encT
  by_cases h1 : b.length = 1 ∧ encT.rd1 b < 128
  · rw [if_pos h1]
    cases b with
    | nil => simp at h1
    | cons c t =>
      have ht : t = [] := List.eq_nil_of_length_eq_zero (by simpa using h1.1)
      subst ht
      exact item_one d c r h1.2
  · rw [if_neg h1]
    obtain ⟨c, t, he, hc, hc2, hs⟩ := size_head 128 b.length (b ++ r) (by omega) hb
    rw [he, List.append_assoc, List.cons_append, item_tx d c _ (by omega) (by omega)]
    unfold textOf
    rw [hs]
    simp only
    rw [if_neg (by simp), if_neg, List.take_left, List.drop_left]
    rintro ⟨h2, h3⟩
    refine h1 ⟨h2, ?_⟩
    cases b with
    | nil => simp at h2
    | cons c t => exact h3
theorem item_enc : ∀ (d : Nat) (x : It (d + 1)) (r : List UInt8), fit d x → item d (enc (d + 1) x ++ r) = .ok (x, r) := by
  intro d
  induction d with
  | zero =>
    intro x r h
    rcases It.two x with ⟨b, rfl⟩ | ⟨xs, rfl⟩
    · exact item_text 0 b r (by rwa [fit_tx] at h)
    · rw [fit_ls0] at h; exact h.elim
  | succ d ih =>
    intro x r h
    rcases It.two x with ⟨b, rfl⟩ | ⟨xs, rfl⟩
    · exact item_text (d + 1) b r (by rwa [fit_tx] at h)
    · rw [fit_ls] at h
      obtain ⟨hl, hx⟩ := h
      have hm := many_enc (item d) (enc (d + 1)) (enc_pos (d + 1)) xs _ (fun x hxm r => ih x r (hx x hxm)) (Nat.le_refl _)
      rw [enc_ls]
      obtain ⟨c, t, he, hc, hc2, hs⟩ := size_head 192 (xs.flatMap (enc (d + 1))).length (xs.flatMap (enc (d + 1)) ++ r) (by omega) hl
      rw [he, List.append_assoc, List.cons_append, item_ls d c _ (by omega)]
      unfold listOf
      rw [hs]
      simp only
      rw [if_neg (by simp), List.take_left, List.drop_left, hm]
/-- what is read is what was written -/
theorem size_ok {base m n : Nat} {t r : List UInt8} (hb : base + 63 < 256) (h : size m t = .ok (n, r)) (hm : m ≤ 63) : UInt8.ofNat (base + m) :: t = head base n ++ r ∧ n ≤ maxBytes := by
  unfold size at h
  by_cases h1 : m ≤ 55
  · rw [if_pos h1] at h
    cases h
    unfold head maxBytes
    rw [if_pos h1]
    exact ⟨rfl, by omega⟩
  · rw [if_neg h1] at h
    by_cases h2 : 58 < m
    · rw [if_pos h2] at h; cases h
    · rw [if_neg h2] at h
      by_cases h3 : t.length < m - 55
      · rw [if_pos h3] at h; cases h
      · rw [if_neg h3] at h
        by_cases h4 : Wd.tight (t.take (m - 55)) = false ∨ Wd.rd (t.take (m - 55)) ≤ 55
        · rw [if_pos h4] at h; cases h
        · rw [if_neg h4] at h
          have hk : (t.take (m - 55)).length = m - 55 := by rw [List.length_take]; omega
          have h5 : Wd.tight (t.take (m - 55)) = true := by
            cases e : Wd.tight (t.take (m - 55)) with
            | true => rfl
            | false => exact absurd (.inl e) h4
          have h6 : ¬ Wd.rd (t.take (m - 55)) ≤ 55 := fun e => h4 (.inr e)
          have hbe := Wd.be_rd (t.take (m - 55)) 8 h5 (by omega)
          have hlt := Wd.rd_lt (t.take (m - 55))
          have hpow : 256 ^ (t.take (m - 55)).length ≤ 256 ^ 3 := Nat.pow_le_pow_right (by omega) (by omega)
          cases h
          refine ⟨?_, by unfold maxBytes; omega⟩
          unfold head
          rw [if_neg h6, hbe, hk, show base + 55 + (m - 55) = base + m by omega, List.cons_append, List.take_append_drop]
theorem many_ok {α : Type} (f : List UInt8 → Except Int (α × List UInt8)) (g : α → List UInt8) (Q : α → Prop) (hf : ∀ l x r, f l = .ok (x, r) → l = g x ++ r ∧ Q x) :
    ∀ (k : Nat) (l : List UInt8) (xs : List α), many f k l = .ok xs → l = xs.flatMap g ∧ ∀ x ∈ xs, Q x
  | k, [], xs, h => by
    rw [many_nil] at h
    cases h
    exact ⟨rfl, by simp⟩
  | 0, c :: l, xs, h => by cases h
  | k + 1, c :: l, xs, h => by
    simp only [many] at h
    cases hc : f (c :: l) with
    | error e => rw [hc] at h; cases h
    | ok p =>
      obtain ⟨x, r⟩ := p
      rw [hc] at h
      simp only at h
      cases hm : many f k r with
      | error e => rw [hm] at h; cases h
      | ok ys =>
        rw [hm] at h
        cases h
        obtain ⟨h1, h2⟩ := hf _ _ _ hc
        obtain ⟨h3, h4⟩ := many_ok f g Q hf k r ys hm
        rw [List.flatMap_cons, ← h3]
        refine ⟨h1, ?_⟩
        intro y hy
        rcases List.mem_cons.1 hy with rfl | hy
        · exact h2
        · exact h4 y hy
theorem byte_eq (c : UInt8) (base : Nat) (h : base ≤ c.toNat) : UInt8.ofNat (base + (c.toNat - base)) = c := by
  rw [show base + (c.toNat - base) = c.toNat by omega, UInt8.ofNat_toNat]
theorem item_ok : ∀ (d : Nat) (l : List UInt8) (x : It (d + 1)) (r : List UInt8), item d l = .ok (x, r) → l = enc (d + 1) x ++ r ∧ fit d x := by
  have text : ∀ (d : Nat) (c : UInt8) (l : List UInt8) (x : It (d + 1)) (r : List UInt8), c.toNat < 192 → item d (c :: l) = .ok (x, r) → c :: l = enc (d + 1) x ++ r ∧ fit d x := by
    intro d c l x r h192 h
    by_cases h1 : c.toNat < 128
    · rw [item_one d c l h1] at h
      cases h
      rw [enc_tx, fit_tx]
      refine ⟨?_, by simp [maxBytes]⟩
      unfold encT
      rw [if_pos ⟨rfl, h1⟩]; rfl
    · rw [item_tx d c l h1 h192] at h
      unfold textOf at h
      cases hs : size (c.toNat - 128) l with
      | error e => rw [hs] at h; cases h
      | ok p =>
        obtain ⟨n, r1⟩ := p
        rw [hs] at h
        simp only at h
        obtain ⟨h2, h3⟩ := size_ok (base := 128) (by omega) hs (by omega)
        rw [byte_eq c 128 (by omega)] at h2
        by_cases h4 : r1.length < n
        · rw [if_pos h4] at h; cases h
        · rw [if_neg h4] at h
          by_cases h5 : n = 1 ∧ encT.rd1 r1 < 128
          · rw [if_pos h5] at h; cases h
          · rw [if_neg h5] at h
            cases h
            have hl : (r1.take n).length = n := by rw [List.length_take]; omega
            rw [enc_tx, fit_tx, hl]
            refine ⟨?_, h3⟩
            unfold encT
            rw [hl, if_neg, List.append_assoc, List.take_append_drop]
            · exact h2
            · rintro ⟨h6, h7⟩
              refine h5 ⟨h6, ?_⟩
              cases r1 with
              | nil => simp at h4; omega
              | cons y r1 =>
                subst h6
                exact h7
  intro d
  induction d with
  | zero =>
    intro l x r h
    cases l with
    | nil => rw [item_nil] at h; cases h
    | cons c l =>
      by_cases h192 : c.toNat < 192
      · exact text 0 c l x r h192 h
      · rw [item_ls0 c l h192] at h; cases h
  | succ d ih =>
    intro l x r h
    cases l with
    | nil => rw [item_nil] at h; cases h
    | cons c l =>
      by_cases h192 : c.toNat < 192
      · exact text (d + 1) c l x r h192 h
      · rw [item_ls d c l h192] at h
        unfold listOf at h
        have hc := c.toNat_lt
        cases hs : size (c.toNat - 192) l with
        | error e => rw [hs] at h; cases h
        | ok p =>
          obtain ⟨n, r1⟩ := p
          rw [hs] at h
          simp only at h
          obtain ⟨h2, h3⟩ := size_ok (base := 192) (by omega) hs (by omega)
          rw [byte_eq c 192 (by omega)] at h2
          by_cases h4 : r1.length < n
          · rw [if_pos h4] at h; cases h
          · rw [if_neg h4] at h
            cases hm : many (item d) n (r1.take n) with
            | error e => rw [hm] at h; cases h
            | ok xs =>
              rw [hm] at h
              cases h
              obtain ⟨h5, h6⟩ := many_ok (item d) (enc (d + 1)) (fit d) ih n _ xs hm
              have hl : (r1.take n).length = n := by rw [List.length_take]; omega
              rw [enc_ls, fit_ls, ← h5, hl, List.append_assoc, List.take_append_drop]
              exact ⟨h2, h3, h6⟩
theorem dec_enc (x : It 9) (h : fit 8 x) : dec (enc 9 x) = .ok x := by
  have := item_enc 8 x [] h
  rw [List.append_nil] at this
  unfold dec
  rw [this]
theorem dec_ok (l : List UInt8) (x : It 9) (h : dec l = .ok x) : l = enc 9 x ∧ fit 8 x := by
  unfold dec at h
  cases hi : item 8 l with
  | error e => rw [hi] at h; cases h
  | ok p =>
    obtain ⟨y, r⟩ := p
    rw [hi] at h
    cases r with
    | cons c r => cases h
    | nil =>
      cases h
      have := item_ok 8 l x [] hi
      rwa [List.append_nil] at this
end Ns
end Go.Proofs.Yteknhmhmepnfjaa

/-
  Regions that draw their order, taken by hand: the operation written out.
-/
namespace Go.Proofs.Yteknhmhmepnfjaa
open Go.RowKit
section
variable {P : Program} {md : Region.Mode} {Q : Exit → Act → World → Prop} {S : World → Prop}
theorem at_drop {l : List Oper} {i : Nat} {o : Oper} {r : List Oper} (h : l.drop i = o :: r) : l.toArray[i]? = some o := by
  have : (l.drop i)[0]? = some o := by rw [h]; rfl
  simpa using this
theorem hTake {l r : List Oper} {i : Nat} {oi : Oper} {v : Value} {fuel : Nat} {listed : Array Bool} {a : Act} {w : World} (hi : l.drop i = oi :: r)
    (hs : Region.noSelect l.toArray = true) (hf : Region.free md l.toArray listed i = true) (hr : (Region.ready md l.toArray listed).contains i = true)
    (hQ : ∀ c a w, Q (.panic c) (a.put oi.dst v) w → Q (.panic c) a w) (hy : YieldsIf P l.toArray S oi v a) (hS : S w)
    (h : wpAnyH P md l.toArray Q S fuel (listed.setIfInBounds i true) (a.put oi.dst v) w) : wpAnyH P md l.toArray Q S (fuel + 1) listed a w :=
  wpAnyH_take (at_drop hi) hs hf hr hQ hy hS h
theorem hOne {l r : List Oper} {i : Nat} {o : Oper} {fuel : Nat} {listed : Array Bool} {a : Act} {w : World} (hi : l.drop i = o :: r) (hr : Region.ready md l.toArray listed = [i])
    (h : ∀ K' : Act → World → Prop, Shut (∀ a w, S w → (S w → wpAnyH P md l.toArray Q S fuel (listed.setIfInBounds i true) a w) → K' a w) → if Region.wanted o (yielded l.toArray a.tmps) = true then Oper.wp P o a w K' Q else K' (a.put o.dst undef) w) :
    wpAnyH P md l.toArray Q S (fuel + 1) listed a w :=
  wpAnyH_ready hr (by simp) (AllReadyH.cons (at_drop hi) h AllReadyH.nil)
theorem hTwo {l r r' : List Oper} {i i' : Nat} {o o' : Oper} {fuel : Nat} {listed : Array Bool} {a : Act} {w : World} (hi : l.drop i = o :: r) (hi' : l.drop i' = o' :: r') (hr : Region.ready md l.toArray listed = [i, i'])
    (h : ∀ K' : Act → World → Prop, Shut (∀ a w, S w → (S w → wpAnyH P md l.toArray Q S fuel (listed.setIfInBounds i true) a w) → K' a w) → if Region.wanted o (yielded l.toArray a.tmps) = true then Oper.wp P o a w K' Q else K' (a.put o.dst undef) w)
    (h' : ∀ K' : Act → World → Prop, Shut (∀ a w, S w → (S w → wpAnyH P md l.toArray Q S fuel (listed.setIfInBounds i' true) a w) → K' a w) → if Region.wanted o' (yielded l.toArray a.tmps) = true then Oper.wp P o' a w K' Q else K' (a.put o'.dst undef) w) :
    wpAnyH P md l.toArray Q S (fuel + 1) listed a w :=
  wpAnyH_ready hr (by simp) (AllReadyH.cons (at_drop hi) h (AllReadyH.cons (at_drop hi') h' AllReadyH.nil))
end
end Go.Proofs.Yteknhmhmepnfjaa

/-
  Blocks known whole; worlds that have grown; small steps of walks. No function of the program.
-/
namespace Go.Proofs.Yteknhmhmepnfjaa
open Go.RowKit

/-- block g is just these cells -/
def Blk (w : World) (g : Nat) (t : TypeId) (cs : Array Value) : Prop := w.heap[g]? = some (.cells cs t (0, 0))
section
variable {w w' : World} {g : Nat} {t : TypeId} {cs : Array Value}
theorem Blk.lt (h : Blk w g t cs) : g < w.heap.size := (Array.getElem?_eq_some_iff.1 h).1
theorem Blk.cell (h : Blk w g t cs) (i : Nat) : w.cell? ⟨g, i, none⟩ = cs[i]? := cell_of_row w g i cs t (0, 0) h
theorem Blk.frozen (h : Blk w g t cs) (i : Nat) : w.frozen? ⟨g, i, none⟩ = false := by
  unfold Blk at h
  simp [World.frozen?, h]
theorem Blk.new (w : World) (t : TypeId) (cs : Array Value) : Blk (w.alloc (.cells cs t)) w.heap.size t cs := heap_alloc_new w _
theorem Blk.new' {w : World} {g : Nat} {t : TypeId} {cs : Array Value} (hg : g = w.heap.size) : Blk (w.alloc (.cells cs t)) g t cs := by subst hg; exact heap_alloc_new w _
theorem Blk.drew (h : Blk w g t cs) : Blk w.drew g t cs := h
theorem Blk.alloc (h : Blk w g t cs) (o : Obj) : Blk (w.alloc o) g t cs := (Below.heap_alloc w o g h.lt).trans h
theorem Blk.set_ (h : Blk w g t cs) (i : Nat) (u : Value) : Blk (w.setCell ⟨g, i, none⟩ u) g t (cs.setIfInBounds i u) := by
  unfold Blk at h ⊢
  simp [World.setCell, Array.getElem?_modify, h]
theorem Blk.far (h : Blk w g t cs) {p : Addr} (hp : g ≠ p.block) (u : Value) : Blk (w.setCell p u) g t cs := (Below.heap_setCell w p u g hp).trans h
theorem Blk.below {B : Nat} (h : Blk w g t cs) (hb : Below B w w') (hg : g < B) : Blk w' g t cs := (hb.block g hg).trans h
theorem Blk.eq {cs' : Array Value} (h : Blk w g t cs) (e : cs = cs') : Blk w g t cs' := e ▸ h
end
theorem Blk.row {w : World} {g : Nat} {t : TypeId} {cs : Array Value} (h : Blk w g t cs) (cs' : Array Value) : Blk (w.setRow g cs') g t cs' := setRow_heap w g cs cs' t _ h
theorem Blk.row_far {w : World} {g g' : Nat} {t : TypeId} {cs : Array Value} (h : Blk w g t cs) (cs' : Array Value) (hg : g ≠ g') : Blk (w.setRow g' cs') g t cs := (setRow_other w g' g cs' hg).trans h
theorem below_row {a w : World} {B g : Nat} (h : Below B a w) (hg : B ≤ g) (cs : Array Value) : Below B a (w.setRow g cs) :=
  h.trans ⟨rfl, rfl, rfl, by simp, fun k hk => setRow_other w g k cs (by omega)⟩
theorem calls_at {P : Program} {f : FuncId} {args : Array Value} {w : World} {post : Ending → World → Prop} (I : World → Prop) (hI : I w) (h : ∀ w2, I w2 → Calls P f args w2 post) : Calls P f args w post := h w hI
theorem grown_set {w wr : World} {g i : Nat} {u : Value} (h : w.grownBy wr (some g)) : w.grownBy (wr.setCell ⟨g, i, none⟩ u) (some g) :=
  ⟨h.os, h.tape, h.output, by rw [size_set]; exact h.size, fun k hk hne => by
    rw [Below.heap_setCell _ _ _ _ (fun e => hne (by rw [e]))]; exact h.block k hk hne⟩
theorem own_block {w : World} {base n c g : Nat} {e : TypeId} {xs : List Value} (h : w.ownsRow base e 1 (.slice (some ⟨g, 0, none⟩) n c) n xs) : ∃ cur, Blk w g e cur ∧ cur.size = c ∧ cur.toList.take n = xs ∧ n ≤ c ∧ c ≤ maxLen := by
  rcases h.2 with ⟨h, _⟩ | ⟨g0, cap, cur, hv, hbg, hg, hnc, hcm, hcs, htake⟩
  · cases h
  · simp only [Value.slice.injEq, Option.some.injEq, Addr.mk.injEq] at hv
    obtain ⟨⟨rfl, _⟩, _, rfl⟩ := hv
    exact ⟨cur, hg, by omega, by simpa using htake, hnc, hcm⟩
theorem Bytes.of_blk {w : World} {g n c : Nat} {t : TypeId} {cs : Array Value} {l : List UInt8} (h : Blk w g t cs) (ht : cs.toList.take n = bv l) (hn : n = l.length) (hc : n ≤ c) (hm : c ≤ maxLen) :
    Bytes w (g + 1) (some ⟨g, 0, none⟩) n c l := by
  refine ⟨hn, hc, hm, by rw [bv_length]; omega, fun _ => ⟨g, 0, rfl, Nat.lt_succ_self g, fun j u hu => ?_⟩⟩
  rw [Nat.zero_add, h.cell j, ← Array.getElem?_toList]
  rw [← ht, List.getElem?_take] at hu
  split at hu
  · exact hu
  · cases hu
theorem below_grown {B g : Nat} {a w w' : World} (h : Below B a w) (hg : w.grownBy w' (some g)) (hB : B ≤ g) (hs : B ≤ w.heap.size) : Below B a w' :=
  h.trans ⟨hg.os, hg.tape, hg.output, hg.size, fun k hk => hg.block k (by omega) (by simp; omega)⟩
theorem Blk.grown {w w' : World} {g g' : Nat} {t : TypeId} {cs : Array Value} (h : Blk w g t cs) (hg : w.grownBy w' (some g')) (hne : g ≠ g') : Blk w' g t cs := (hg.block g h.lt (by simp; omega)).trans h
theorem code_at {P : Program} {c : Code} {w : World} {a : Act} {Q : Exit → Act → World → Prop} (I : World → Prop) (hI : I w) (h : ∀ w2, I w2 → Code.wp P c Q a w2) : Code.wp P c Q a w := h w hI
/-- reads of whole rows, in a region that draws -/
theorem wpStill_load_row {P : Program} {ops : Array Oper} {w : World} {Q : Act → Prop} {o : Oper} {rest : List Oper} {a : Act} (hgd : o.guard = none) (ty : TypeId) (x : Operand) (ho : o.op = .load ty x)
    (g : Nat) (hx : a.eval x = .pointer (some ⟨g, 0, none⟩)) (t : TypeId) (cs : Array Value) (fr : Nat × Nat) (d : TypeDesc) (hg : w.heap[g]? = some (.cells cs t fr))
    (hu : P.underlying ty = some d) (hd : (match d with | .struct _ | .array _ _ => true | _ => false) = true) (hi : (P.info? ty).map (·.size) = some cs.size)
    (h : wpStill P ops w Q rest (a.put o.dst (.agg cs))) : wpStill P ops w Q (o :: rest) a := by
  refine wpStill_step fun K hK => ?_
  have hw : Region.wanted o (yielded ops a.tmps) = true := by simp [Region.wanted, hgd]
  rw [if_pos hw]
  unfold Oper.still execOp
  simp only [ho, hx, Instr.loadAt, Instr.sureAddr, Sem.run_bind, Sem.run_pure, Result.andThen_ok, run_loadVar_row w g t ty cs fr d hg hu hd hi]
  exact ⟨rfl, hK _ h⟩
/-- two results, the first of them a whole row -/
theorem results_row_tmp {P : Program} {fn : Func} {p q : Tmp} {ty : TypeId} (h : fn.results = #[.cell p ty, .tmp q]) (tmps : Array Value) (w : World) (g : Nat) (t : TypeId) (cs : Array Value) (fr : Nat × Nat) (d : TypeDesc) (v : Value)
    (hp : tmps.getD p undef = .pointer (some ⟨g, 0, none⟩)) (hq : tmps.getD q undef = v) (hg : w.heap[g]? = some (.cells cs t fr))
    (hu : P.underlying ty = some d) (hd : (match d with | .struct _ | .array _ _ => true | _ => false) = true) (hi : (P.info? ty).map (·.size) = some cs.size) :
    (results fn tmps).run P w = .ok (.tuple #[.agg cs, v]) w := by
  have hp' : tmps[p]?.getD undef = .pointer (some ⟨g, 0, none⟩) := by simpa using hp
  have hq' : tmps[q]?.getD undef = v := by simpa using hq
  simp [results, h, hp', hq', asAddr, run_loadVar_row w g t ty cs fr d hg hu hd hi]
theorem grown_below {w w' : World} {b : Nat} (h : Below w.heap.size w w') : w.grownBy w' (some b) := ⟨h.os, h.tape, h.output, h.size, fun k hk _ => h.block k hk⟩
theorem grown_trans {w w1 w2 : World} {b : Nat} (h : Below w.heap.size w w1) (hg : w1.grownBy w2 (some b)) : w.grownBy w2 (some b) :=
  ⟨hg.os.trans h.os, hg.tape.trans h.tape, hg.output.trans h.output, Nat.le_trans h.size hg.size, fun k hk hne => (hg.block k (Nat.lt_of_lt_of_le hk h.size) hne).trans (h.block k hk)⟩
theorem grown_row {w w1 : World} {b g : Nat} (h : w.grownBy w1 (some b)) (hg : w.heap.size ≤ g) (cs : Array Value) : w.grownBy (w1.setRow g cs) (some b) :=
  ⟨h.os, h.tape, h.output, by simp; exact h.size, fun k hk hne => (setRow_other w1 g k cs (by omega)).trans (h.block k hk hne)⟩
theorem bytes_ext {a b : ByteArray} (h : a.data.toList = b.data.toList) : a = b := by
  cases a; cases b
  simp only at h
  congr 1
  exact Array.ext' h
section
variable {w w1 : World} {g : Nat}
theorem grown_alloc (h : w.grownBy w1 (some g)) (o : Obj) : w.grownBy (w1.alloc o) (some g) :=
  ⟨h.os, h.tape, h.output, by simp; have := h.size; omega, fun k hk hne => (Below.heap_alloc w1 o k (Nat.lt_of_lt_of_le hk h.size)).trans (h.block k hk hne)⟩
theorem grown_drew (h : w.grownBy w1 (some g)) : w.grownBy w1.drew (some g) := ⟨h.os, h.tape, h.output, h.size, h.block⟩
theorem grown_far (h : w.grownBy w1 (some g)) {p : Addr} (hp : w.heap.size ≤ p.block) (u : Value) : w.grownBy (w1.setCell p u) (some g) :=
  ⟨h.os, h.tape, h.output, by rw [size_set]; exact h.size, fun k hk hne => (Below.heap_setCell w1 p u k (by omega)).trans (h.block k hk hne)⟩
theorem grown_step {w2 : World} (h : w.grownBy w1 (some g)) (hb : Below w1.heap.size w1 w2) : w.grownBy w2 (some g) :=
  ⟨hb.os.trans h.os, hb.tape.trans h.tape, hb.output.trans h.output, Nat.le_trans h.size hb.size, fun k hk hne => (hb.block k (Nat.lt_of_lt_of_le hk h.size)).trans (h.block k hk hne)⟩
end
theorem Bytes.cutIf {w : World} {B n c k : Nat} {A : Option Addr} {l : List UInt8} (h : Bytes w B A n c l) (hk : k ≤ n) : Bytes w B (if c = k then A else A.map (·.add k)) (n - k) (c - k) (l.drop k) := by
  have := h.reads.cut hk h.cap
  simp only [Nat.mul_one] at this
  exact ⟨by rw [List.length_drop, h.len], by have := h.cap; omega, by have := h.lim; omega, by rw [bv, List.map_drop]; exact this⟩
theorem Bytes.takeN {w : World} {B n c k : Nat} {A : Option Addr} {l : List UInt8} (h : Bytes w B A n c l) (hk : k ≤ n) : Bytes w B A k c (l.take k) := by
  have := h.reads.take hk
  rw [Nat.mul_one] at this
  exact ⟨by rw [List.length_take, ← h.len]; omega, by have := h.cap; omega, h.lim, by rw [bv, List.map_take]; exact this⟩
theorem Bytes.grown {w w1 : World} {g B n c : Nat} {A : Option Addr} {l : List UInt8} (h : Bytes w B A n c l) (hg : w.grownBy w1 (some g)) (hB : B ≤ g) (hs : B ≤ w.heap.size) : Bytes w1 B A n c l :=
  ⟨h.len, h.cap, h.lim, h.reads.keep fun p hp => World.cell?_of_block (hg.block p.block (by omega) (by simp; omega))⟩
end Go.Proofs.Yteknhmhmepnfjaa

/-
  Items in memory: a value that is an item, over blocks that meet S.
-/
namespace Go.Proofs.Yteknhmhmepnfjaa
open Go.RowKit

/-- cells over a block that meets S -/
def InS (S : Nat → Prop) (w : World) (size : Nat) (A : Option Addr) (n : Nat) (xs : List Value) : Prop :=
  xs.length = n * size ∧ (0 < n → ∃ g o, A = some ⟨g, o, none⟩ ∧ S g ∧ g < w.heap.size ∧ ∀ j u, xs[j]? = some u → w.cell? ⟨g, o + j, none⟩ = some u)
def flat (vs : List Value) : List Value := vs.flatMap fun v => v.cells.toList
def All2 {α : Type} (R : Value → α → Prop) (vs : List Value) (xs : List α) : Prop := vs.length = xs.length ∧ ∀ (i : Nat) (x : α), xs[i]? = some x → ∃ v, vs[i]? = some v ∧ R v x
/-- a block from B on, no cell of it frozen -/
def Fr (w : World) (B q : Nat) : Prop := B ≤ q ∧ ∃ cs t, w.heap[q]? = some (.cells cs t (0, 0))
theorem Fr.move {w w' : World} {B B' q : Nat} (h : Fr w B q) (e : w'.heap[q]? = w.heap[q]?) (hB : B' ≤ q) : Fr w' B' q := by
  obtain ⟨_, cs, t, h⟩ := h
  exact ⟨hB, cs, t, e.trans h⟩
/-- a text's row; a list's -/
def txV (A : Option Addr) (n c : Nat) : Value := .agg #[.bool false, .slice A n c, .slice none 0 0]
def lsV (A : Option Addr) (n c : Nat) : Value := .agg #[.bool true, .slice none 0 0, .slice A n c]
def itemZ : Value := .agg #[.bool false, .slice none 0 0, .slice none 0 0]
def Sits (S : Nat → Prop) (w : World) : (d : Nat) → Value → Ns.It d → Prop
  | 0, _, x => nomatch x
  | _ + 1, v, .inl b => ∃ A n c, v = txV A n c ∧ n = b.length ∧ n ≤ c ∧ c ≤ maxLen ∧ InS S w 1 A n (bv b)
  | d + 1, v, .inr xs => ∃ A n c vs, v = lsV A n c ∧ n = xs.length ∧ n ≤ c ∧ c ≤ maxLen ∧ InS S w 3 A n (flat vs) ∧ All2 (Sits S w d) vs xs

section
variable {w w' : World} {S S' : Nat → Prop}
theorem InS.move {size n : Nat} {A : Option Addr} {xs : List Value} (h : InS S w size A n xs) (hS : ∀ g, S g → g < w.heap.size → S' g ∧ w'.heap[g]? = w.heap[g]?) (hs : w.heap.size ≤ w'.heap.size) : InS S' w' size A n xs :=
  ⟨h.1, fun hn => by
    obtain ⟨g, o, e, h1, h2, hc⟩ := h.2 hn
    obtain ⟨h3, h4⟩ := hS g h1 h2
    exact ⟨g, o, e, h3, by omega, fun j u hu => (World.cell?_of_block (a := ⟨g, o + j, none⟩) h4).trans (hc j u hu)⟩⟩
theorem InS.reads {B size n : Nat} {A : Option Addr} {xs : List Value} (h : InS S w size A n xs) (hS : ∀ g, S g → g < w.heap.size → g < B) : Reads w B size A n xs :=
  ⟨h.1, fun hn => by
    obtain ⟨g, o, e, h1, h2, hc⟩ := h.2 hn
    exact ⟨g, o, e, hS g h1 h2, hc⟩⟩
theorem InS.of_reads {B size n : Nat} {A : Option Addr} {xs : List Value} (h : Reads w B size A n xs) (hS : ∀ g, g < B → S g ∧ g < w.heap.size) : InS S w size A n xs :=
  ⟨h.1, fun hn => by
    obtain ⟨g, o, e, h1, hc⟩ := h.2 hn
    exact ⟨g, o, e, (hS g h1).1, (hS g h1).2, hc⟩⟩
theorem InS.of_own {B size n c : Nat} {e : TypeId} {A : Option Addr} {xs : List Value} (h : Own w B e size A n c xs) : InS (fun g => B ≤ g) w size A n xs := by
  refine ⟨h.len, fun hn => ?_⟩
  obtain ⟨g, off, cur, rfl, hb, hg, hsz, ht⟩ := h.blk (by have := h.cap; omega)
  have hlt : g < w.heap.size := (Array.getElem?_eq_some_iff.1 hg).1
  refine ⟨g, off, rfl, hb, hlt, fun j u hu => ?_⟩
  rw [cell_of_row w g (off + j) cur e (0, 0) hg]
  rw [← ht, List.getElem?_take] at hu
  split at hu
  · rw [List.getElem?_drop] at hu; simpa using hu
  · cases hu
theorem InS.of_ownF {B size n c : Nat} {e : TypeId} {A : Option Addr} {xs : List Value} (h : Own w B e size A n c xs) : InS (Fr w B) w size A n xs := by
  have h2 := InS.of_own h
  refine ⟨h2.1, fun hn => ?_⟩
  obtain ⟨g, o, e1, h3, h4, h5⟩ := h2.2 hn
  obtain ⟨g', off, cur, e2, hb, hg, -⟩ := h.blk (by have := h.cap; omega)
  rw [e1] at e2
  injection e2 with e2
  injection e2 with e2
  subst e2
  exact ⟨g, o, e1, ⟨hb, _, _, hg⟩, h4, h5⟩
theorem All2.imp {α : Type} {R R' : Value → α → Prop} {vs : List Value} {xs : List α} (h : All2 R vs xs) (hR : ∀ v x, R v x → R' v x) : All2 R' vs xs :=
  ⟨h.1, fun i x hx => by
    obtain ⟨v, hv, hr⟩ := h.2 i x hx
    exact ⟨v, hv, hR v x hr⟩⟩
theorem All2.nil {α : Type} {R : Value → α → Prop} : All2 R [] ([] : List α) := ⟨rfl, fun i x hx => by simp at hx⟩
theorem All2.snoc {α : Type} {R : Value → α → Prop} {vs : List Value} {xs : List α} {v : Value} {x : α} (h : All2 R vs xs) (hv : R v x) : All2 R (vs ++ [v]) (xs ++ [x]) := by
  refine ⟨by simp [h.1], fun i y hy => ?_⟩
  rcases Nat.lt_or_ge i xs.length with hi | hi
  · rw [List.getElem?_append_left hi] at hy
    rw [List.getElem?_append_left (by rw [h.1]; exact hi)]
    exact h.2 i y hy
  · rw [List.getElem?_append_right hi] at hy
    rw [List.getElem?_append_right (by rw [h.1]; exact hi), h.1]
    rcases Nat.eq_zero_or_pos (i - xs.length) with h0 | h0
    · rw [h0] at hy ⊢
      simp at hy; subst hy
      exact ⟨v, by simp, hv⟩
    · rw [List.getElem?_eq_none (by simp; omega)] at hy; cases hy
theorem Sits.move : ∀ (d : Nat) (v : Value) (x : Ns.It d), Sits S w d v x → (∀ g, S g → g < w.heap.size → S' g ∧ w'.heap[g]? = w.heap[g]?) → w.heap.size ≤ w'.heap.size → Sits S' w' d v x
  | 0, _, x, _, _, _ => nomatch x
  | _ + 1, v, .inl b, h, hS, hs => by
    obtain ⟨A, n, c, h1, h2, h3, h4, h5⟩ := h
    exact ⟨A, n, c, h1, h2, h3, h4, h5.move hS hs⟩
  | d + 1, v, .inr xs, h, hS, hs => by
    obtain ⟨A, n, c, vs, h1, h2, h3, h4, h5, h6⟩ := h
    exact ⟨A, n, c, vs, h1, h2, h3, h4, h5.move hS hs, h6.imp fun v x hx => Sits.move d v x hx hS hs⟩
theorem Sits.weak {B : Nat} {d : Nat} {v : Value} {x : Ns.It d} (h : Sits (Fr w B) w d v x) : Sits (fun q => B ≤ q) w d v x := Sits.move d v x h (fun _ h _ => ⟨h.1, rfl⟩) (Nat.le_refl _)
/-- an item's value has three cells, one value each -/
theorem Sits.cells : ∀ (d : Nat) (v : Value) (x : Ns.It d), Sits S w d v x → ∃ a b c, v = .agg #[a, b, c] ∧ v.cells.toList = [a, b, c] ∧ ∀ u ∈ [a, b, c], u.oneCell' = true
  | 0, _, x, _ => nomatch x
  | _ + 1, v, .inl b, h => by
    obtain ⟨A, n, c, rfl, _⟩ := h
    exact ⟨_, _, _, rfl, rfl, by simp [Value.oneCell']⟩
  | d + 1, v, .inr xs, h => by
    obtain ⟨A, n, c, vs, rfl, _⟩ := h
    exact ⟨_, _, _, rfl, rfl, by simp [Value.oneCell']⟩
end
theorem flat_append (a b : List Value) : flat (a ++ b) = flat a ++ flat b := by simp [flat]
theorem flat_one (v : Value) : flat [v] = v.cells.toList := by simp [flat]
theorem info_item : (Try.prog.info? 48).map (fun i => (i.zero, i.size, i.bytes)) = some (some itemZ, 3, 56) := by kernel_rfl
end Go.Proofs.Yteknhmhmepnfjaa

/-
  Items: their bytes, whether they are lists, and as items of one depth more.
-/
namespace Go.Proofs.Yteknhmhmepnfjaa
open Go.RowKit

/-- an item's row, and its bytes -/
def bytesOf : {d : Nat} → Ns.It d → List UInt8
  | 0, x => nomatch x
  | _ + 1, .inl b => b
  | _ + 1, .inr _ => []
def isList : {d : Nat} → Ns.It d → Bool
  | 0, x => nomatch x
  | _ + 1, .inl _ => false
  | _ + 1, .inr _ => true
theorem Sits.row {S : Nat → Prop} {w : World} : ∀ {d : Nat} {v : Value} {x : Ns.It d}, Sits S w d v x → ∃ A n c z, v = .agg #[.bool (isList x), .slice A n c, z] ∧ n = (bytesOf x).length ∧ n ≤ c ∧ c ≤ maxLen ∧ InS S w 1 A n (bv (bytesOf x)) ∧ z.oneCell' = true
  | 0, _, x, _ => nomatch x
  | _ + 1, _, .inl b, h => by
    obtain ⟨A, n, c, rfl, h1, h2, h3, h4⟩ := h
    exact ⟨A, n, c, _, rfl, h1, h2, h3, h4, rfl⟩
  | _ + 1, _, .inr xs, h => by
    obtain ⟨A, n, c, vs, rfl, h1, h2, h3, h4, h5⟩ := h
    exact ⟨none, 0, 0, _, rfl, rfl, Nat.le_refl _, by unfold maxLen; omega, ⟨rfl, fun h => by omega⟩, rfl⟩
namespace Ns
/-- an item, as one that may stand in one list less -/
def up : (d : Nat) → It d → It (d + 1)
  | 0, x => nomatch x
  | _ + 1, .inl b => .inl b
  | d + 1, .inr xs => .inr (xs.map (up d))
theorem enc_up : ∀ (d : Nat) (x : It d), enc (d + 1) (up d x) = enc d x
  | 0, x => nomatch x
  | _ + 1, .inl _ => rfl
  | d + 1, .inr xs => by
    have h : (xs.map (up d)).flatMap (enc (d + 1)) = xs.flatMap (enc d) := by
      rw [List.flatMap_map]
      congr 1
      funext x
      exact enc_up d x
    show head 192 ((xs.map (up d)).flatMap (enc (d + 1))).length ++ (xs.map (up d)).flatMap (enc (d + 1)) = _
    rw [h]; rfl
theorem fit_up : ∀ (d : Nat) (x : It (d + 1)), fit d x → fit (d + 1) (up (d + 1) x)
  | _, .inl b, h => by
    have h' : b.length ≤ maxBytes := by have h2 := fit_tx _ b ▸ (show fit _ (tx b) from h); exact h2
    exact h'
  | 0, .inr _, h => h.elim
  | d + 1, .inr xs, h => by
    obtain ⟨h1, h2⟩ := (show (xs.flatMap (enc (d + 1))).length ≤ maxBytes ∧ ∀ x ∈ xs, fit d x from h)
    have e : (xs.map (up (d + 1))).flatMap (enc (d + 1 + 1)) = xs.flatMap (enc (d + 1)) := by
      rw [List.flatMap_map]
      congr 1
      funext x
      exact enc_up (d + 1) x
    refine ⟨by rw [e]; exact h1, fun y hy => ?_⟩
    obtain ⟨x, hx, rfl⟩ := List.mem_map.1 hy
    exact fit_up d x (h2 x hx)
theorem up_inj : ∀ (d : Nat) (x y : It d), up d x = up d y → x = y
  | 0, x, _, _ => nomatch x
  | _ + 1, .inl _, .inl _, h => by cases h; rfl
  | _ + 1, .inl _, .inr _, h => by cases h
  | _ + 1, .inr _, .inl _, h => by cases h
  | d + 1, .inr xs, .inr ys, h => by
    have h' : xs.map (up d) = ys.map (up d) := by injection h
    have : xs = ys := by
      clear h
      induction xs generalizing ys with
      | nil => cases ys with | nil => rfl | cons => cases h'
      | cons x xs ih =>
        cases ys with
        | nil => cases h'
        | cons y ys =>
          simp only [List.map_cons, List.cons.injEq] at h'
          rw [up_inj d x y h'.1, ih ys h'.2]
    rw [this]
end Ns
theorem Sits.up {S : Nat → Prop} {w : World} : ∀ (d : Nat) (v : Value) (x : Ns.It d), Sits S w d v x → Sits S w (d + 1) v (Ns.up d x)
  | 0, _, x, _ => nomatch x
  | _ + 1, _, .inl _, h => h
  | d + 1, _, .inr xs, h => by
    obtain ⟨A, n, c, vs, h1, h2, h3, h4, h5, h6⟩ := h
    refine ⟨A, n, c, vs, h1, by rw [h2, List.length_map], h3, h4, h5, by rw [h6.1, List.length_map], fun i y hy => ?_⟩
    rw [List.getElem?_map] at hy
    cases hx : xs[i]? with
    | none => rw [hx] at hy; cases hy
    | some x =>
      rw [hx] at hy
      cases hy
      obtain ⟨v, hv, hs⟩ := h6.2 i x hx
      exact ⟨v, hv, Sits.up d v x hs⟩
end Go.Proofs.Yteknhmhmepnfjaa

namespace Go.Proofs.Yteknhmhmepnfjaa
open Go.RowKit

namespace Nib
def right (l : List UInt8) : Bool := l.all (· ≤ 15)
theorem right_take (l : List UInt8) (k : Nat) (h : k < l.length) : right (l.take (k + 1)) = (right (l.take k) && decide (l[k] ≤ 15)) := by
  rw [List.take_succ_eq_append_getElem h]; unfold right; rw [List.all_append]; simp
theorem right_bad (l : List UInt8) (k : Nat) (h : k < l.length) (h2 : 15 < l[k].toNat) : right l = false := by
  unfold right
  rw [List.all_eq_false]
  exact ⟨l[k], List.getElem_mem h, by simp [UInt8.le_iff_toNat_le]; omega⟩
theorem right_step (l : List UInt8) (k : Nat) (h : k < l.length) (h1 : right (l.take k) = true) (h2 : l[k].toNat ≤ 15) : right (l.take (k + 1)) = true := by
  rw [right_take l k h, h1]; simp [UInt8.le_iff_toNat_le]; omega
end Nib

set_option maxHeartbeats 400000 in
theorem nib_Right (l : List UInt8) (A : Option Addr) (n c B : Nat) (w : World) (h : Bytes w B A n c l) :
    Calls Try.prog 16 #[.slice A n c] w fun e w' => e = .returned (.bool (Nib.right l)) ∧ w = w' := by
  obtain ⟨hlen, hcap, hlim, hr⟩ := h
  have hm : l.length ≤ 9223372036854775807 := by unfold maxLen at hlim; omega
  subst hlen
  clear hcap hlim
  go_enter Try.func16, Try.ntmps16
  go_wp2
  go_loop [7] (fun i => ∃ k : Nat, k ≤ l.length ∧ i = .int .i64 k ∧ Nib.right (l.take k) = true) (fun i => l.length - (intOf i).toNat)
  case atStart => exact ⟨0, Nat.zero_le _, rfl, rfl⟩
  case round =>
    obtain ⟨k, hk, rfl, hright⟩ := hrel
    have HR := Lib.hid hright
    clear hright
    by_cases hlt : k < l.length
    · obtain ⟨g, o, u, rfl, _, hx, hc⟩ := hr.at_ hlt
      rw [bv_at l k hlt] at hx
      cases hx
      go_wp2
      · have h2 : 15 < (l[k].toNat : Int) := by assumption
        go_ret
        exact ⟨by rw [Nib.right_bad l k hlt (by omega)]; rfl, rfl⟩
      · have h2 : (l[k].toNat : Int) ≤ 15 := by assumption
        refine ⟨⟨k + 1, by omega, by go_num, Nib.right_step l k hlt HR.out (by omega)⟩, ?_⟩
        simp [intOf]; omega
    · obtain rfl : k = l.length := by omega
      go_wp2
      go_ret
      have h3 := HR.out
      rw [List.take_length] at h3
      exact ⟨by rw [h3]; rfl, rfl⟩

namespace Nib
def hi (c : UInt8) : UInt8 := UInt8.ofNat (c.toNat / 16)
def lo (c : UInt8) : UInt8 := UInt8.ofNat (c.toNat % 16)
theorem hi_toNat (c : UInt8) : (hi c).toNat = c.toNat / 16 := by
  have := c.toNat_lt
  simp [hi]; omega
theorem lo_toNat (c : UInt8) : (lo c).toNat = c.toNat % 16 := by simp [lo]; omega
def of (l : List UInt8) : List UInt8 := l.flatMap fun (c : UInt8) => [hi c, lo c]
theorem of_length (l : List UInt8) : (of l).length = 2 * l.length := by
  unfold of; induction l with
  | nil => rfl
  | cons a l ih => simp only [List.flatMap_cons, List.length_append, ih, List.length_cons, List.length_nil]; omega
theorem of_take (l : List UInt8) (k : Nat) (h : k < l.length) : of (l.take (k + 1)) = of (l.take k) ++ [hi l[k], lo l[k]] := by
  rw [List.take_succ_eq_append_getElem h]; unfold of; rw [List.flatMap_append]; simp only [List.flatMap_cons, List.flatMap_nil, List.append_nil]
theorem set_two {α : Type} (xs : List α) (z a b : α) (m : Nat) (hm : 2 ≤ m) : ((xs ++ List.replicate m z).set xs.length a).set (xs.length + 1) b = xs ++ [a, b] ++ List.replicate (m - 2) z := by
  obtain ⟨m, rfl⟩ : ∃ m', m = m' + 2 := ⟨m - 2, by omega⟩
  simp [List.set_append, List.replicate_succ]
theorem of_step (l : List UInt8) (k : Nat) (h : k < l.length) :
    ((bv (of (l.take k) ++ List.replicate (2 * l.length - 2 * k) 0)).set (2 * k) (.int .u8 (l[k].toNat / 16 : Int))).set (2 * k + 1) (.int .u8 (bits BinOp.and IntKind.u8 (l[k].toNat : Int) 15)) =
      bv (of (l.take (k + 1)) ++ List.replicate (2 * l.length - 2 * (k + 1)) 0) := by
  have hb := l[k].toNat_lt
  have e1 : bits BinOp.and IntKind.u8 (l[k].toNat : Int) 15 = ((lo l[k]).toNat : Int) := by
    rw [show (15 : Int) = ((15 : Nat) : Int) from rfl, u8_and_nat _ _ (by omega) (by omega), nat_mask4, lo_toNat]
  have e2 : (l[k].toNat / 16 : Int) = ((hi l[k]).toNat : Int) := by rw [hi_toNat]; omega
  have hl : (bv (of (l.take k))).length = 2 * k := by rw [bv_length, of_length, List.length_take]; omega
  have e3 : ∀ (m : Nat), bv (List.replicate m (0 : UInt8)) = List.replicate m (Value.int .u8 0) := fun m => by simp [bv]
  have e4 : ∀ a b : List UInt8, bv (a ++ b) = bv a ++ bv b := fun a b => by simp [bv]
  rw [e1, e2, e4, e3, ← hl, set_two _ _ _ _ _ (by rw [hl]; omega), of_take l k h, e4, e4, e3, hl]
  congr 2
end Nib

set_option maxHeartbeats 400000 in
theorem nib_Of (l : List UInt8) (A : Option Addr) (n c B : Nat) (w : World) (h : Bytes w B A n c l) (hB : B ≤ w.heap.size) (hl : 2 * l.length ≤ 281474976710656) :
    Calls Try.prog 60 #[.slice A n c] w fun e w' => ∃ g, e = .returned (.slice (some ⟨g, 0, none⟩) (2 * l.length) (2 * l.length)) ∧
      w'.ownsRow w.heap.size 5 1 (.slice (some ⟨g, 0, none⟩) (2 * l.length) (2 * l.length)) (2 * l.length) (bv (Nib.of l)) ∧ Below w.heap.size w w' := by
  obtain ⟨hlen, hcap, hlim, hr⟩ := h
  subst hlen
  clear hcap hlim
  obtain ⟨i0, hi, hz0, hz1, hz2⟩ := info_parts info_u8
  go_enter Try.func60, Try.ntmps60
  go_wp2_with (at_make; refine wpList_make_full w rfl _ _ 22 rfl w.heap.size 5 i0 (.int .u8 0) 1 Try.underlying22 hi hz0 hz1 .i64 .i64 _ _ (2 * l.length) rfl rfl (by omega) (by omega) (by rw [hz2]; omega) (by unfold maxLen; omega) (Nat.le_refl _) ?_; intro w1 hown hgrow)
  have hb : Below w.heap.size w w1 := (Below.refl _ _).grown hgrow (Nat.le_refl _) (by simp)
  have hown0 : w1.ownsRow w.heap.size 5 1 (.slice (some ⟨w.heap.size, 0, none⟩) (2 * l.length) (2 * l.length)) (2 * l.length) (bv (Nib.of (l.take 0) ++ List.replicate (2 * l.length - 2 * 0) 0)) := by
    have e : (madeCells (Value.int .u8 0).cells (2 * l.length * 1)).toList = bv (Nib.of (l.take 0) ++ List.replicate (2 * l.length - 2 * 0) 0) := by
      rw [show (Value.int .u8 0).cells = #[Value.int .u8 0] from rfl, toList_madeCells_one]
      simp [Nib.of, bv]
    rw [← e]; exact hown
  clear hown hgrow
  go_loopw [12] (fun i wr => ∃ k : Nat, k ≤ l.length ∧ i = .int .i64 k ∧ Below w.heap.size w wr ∧
      wr.ownsRow w.heap.size 5 1 (.slice (some ⟨w.heap.size, 0, none⟩) (2 * l.length) (2 * l.length)) (2 * l.length) (bv (Nib.of (l.take k) ++ List.replicate (2 * l.length - 2 * k) 0))) (fun i _ => l.length - (intOf i).toNat)
  case atStart => exact ⟨0, Nat.zero_le _, rfl, hb, hown0⟩
  case round =>
    obtain ⟨k, hk, rfl, hb1, hown1⟩ := hrel
    by_cases hlt : k < l.length
    · obtain ⟨g, o, u, rfl, hbl, hx, hc⟩ := hr.at_ hlt
      rw [bv_at l k hlt] at hx
      cases hx
      have hc1 := (hb1.cell (p := ⟨g, o + k, none⟩) (by show g < _; omega)).trans hc
      have hlb := hown1.1
      obtain ⟨v1, hv1⟩ : ∃ v, wr.cell? ⟨w.heap.size, 2 * k, none⟩ = some v := ⟨_, (hown1.cellAt (2 * k) (by omega)).trans (List.getElem?_eq_getElem (by omega))⟩
      obtain ⟨v2, hv2⟩ : ∃ v, wr.cell? ⟨w.heap.size, 2 * k + 1, none⟩ = some v := ⟨_, (hown1.cellAt (2 * k + 1) (by omega)).trans (List.getElem?_eq_getElem (by omega))⟩
      have hf1 := hown1.frozenAt (2 * k)
      have hf2 := hown1.frozenAt (2 * k + 1)
      have hs1 := hown1.stored (2 * k) (.int .u8 (l[k].toNat / 16 : Int))
      have hs2 := hs1.1.stored (2 * k + 1) (.int .u8 (bits BinOp.and IntKind.u8 (l[k].toNat : Int) 15))
      rw [Nib.of_step l k hlt] at hs2
      have hb2 := (hb1.setCell (p := ⟨w.heap.size, 2 * k, none⟩) (Nat.le_refl _) (.int .u8 (l[k].toNat / 16 : Int))).setCell (p := ⟨w.heap.size, 2 * k + 1, none⟩) (Nat.le_refl _) (.int .u8 (bits BinOp.and IntKind.u8 (l[k].toNat : Int) 15))
      have HS := Lib.hid hs2.1
      have HB := Lib.hid hb2
      clear hs1 hs2 hb2 hown1 hlb
      go_wp2
      refine ⟨⟨k + 1, by omega, by go_num, HB.out, HS.out⟩, ?_⟩
      simp [intOf]; omega
    · obtain rfl : k = l.length := by omega
      go_wp2
      go_ret
      rw [Nat.sub_self, List.take_length] at hown1
      simp only [List.replicate, List.append_nil] at hown1
      exact ⟨_, rfl, hown1, hb1⟩

namespace Nib
/-- two nibbles a byte -/
def join : List UInt8 → List UInt8
  | a :: b :: r => UInt8.ofNat (16 * a.toNat + b.toNat) :: join r
  | _ => []
theorem join_length : ∀ l : List UInt8, (join l).length = l.length / 2
  | [] => rfl
  | [_] => by simp [join]
  | a :: b :: r => by simp only [join, List.length_cons, join_length r]; omega
theorem join_get : ∀ (l : List UInt8) (k : Nat) (h : 2 * k + 1 < l.length), (join l)[k]? = some (UInt8.ofNat (16 * l[2 * k].toNat + l[2 * k + 1].toNat))
  | [], _, h => by simp at h
  | [_], _, h => by simp at h
  | a :: b :: r, 0, _ => rfl
  | a :: b :: r, k + 1, h => by
    have := join_get r k (by simp at h; omega)
    simp only [join, List.getElem?_cons_succ, this]
    rfl
theorem join_take (l : List UInt8) (k : Nat) (h : 2 * k + 1 < l.length) : (join l).take (k + 1) = (join l).take k ++ [UInt8.ofNat (16 * l[2 * k].toNat + l[2 * k + 1].toNat)] := by
  have hk : k < (join l).length := by rw [join_length]; omega
  have := join_get l k h
  rw [List.getElem?_eq_getElem hk] at this
  rw [List.take_succ_eq_append_getElem hk]
  simp only [Option.some.injEq] at this
  rw [this]
theorem set_one {α : Type} (xs : List α) (z a : α) (m : Nat) (hm : 1 ≤ m) : ((xs ++ List.replicate m z).set xs.length a) = xs ++ [a] ++ List.replicate (m - 1) z := by
  obtain ⟨m, rfl⟩ : ∃ m', m = m' + 1 := ⟨m - 1, by omega⟩
  simp [List.set_append, List.replicate_succ]
theorem right_at (l : List UInt8) (h : right l = true) (k : Nat) (hk : k < l.length) : l[k].toNat ≤ 15 := by
  unfold right at h
  rw [List.all_eq_true] at h
  have := h l[k] (List.getElem_mem hk)
  simpa [UInt8.le_iff_toNat_le] using this
theorem join_step (l : List UInt8) (k : Nat) (h : 2 * k + 1 < l.length) :
    (bv ((join l).take k ++ List.replicate (l.length / 2 - k) 0)).set k (.int .u8 ((16 * (l[2 * k].toNat : Int) + (l[2 * k + 1].toNat : Int)) % 256)) = bv ((join l).take (k + 1) ++ List.replicate (l.length / 2 - (k + 1)) 0) := by
  have hl : (bv ((join l).take k)).length = k := by rw [bv_length, List.length_take, join_length]; omega
  have e3 : ∀ (m : Nat), bv (List.replicate m (0 : UInt8)) = List.replicate m (Value.int .u8 0) := fun m => by simp [bv]
  have e4 : ∀ a b : List UInt8, bv (a ++ b) = bv a ++ bv b := fun a b => by simp [bv]
  have e5 := set_one (bv ((join l).take k)) (Value.int .u8 0) (.int .u8 ((UInt8.ofNat (16 * l[2 * k].toNat + l[2 * k + 1].toNat)).toNat : Int)) (l.length / 2 - k) (by omega)
  rw [hl] at e5
  have e6 : (16 * (l[2 * k].toNat : Int) + (l[2 * k + 1].toNat : Int)) % 256 = ((UInt8.ofNat (16 * l[2 * k].toNat + l[2 * k + 1].toNat)).toNat : Int) := by simp
  rw [e6, e4, e3, e5, join_take l k h, e4, e4, e3]
  congr 2
theorem or_join (a b : UInt8) (hb : b.toNat ≤ 15) (ha : a.toNat ≤ 15) : bits BinOp.or IntKind.u8 (IntKind.u8.wrap ((a.toNat : Int) * 16)) (b.toNat : Int) = (16 * (a.toNat : Int) + (b.toNat : Int)) % 256 := by
  rw [IntKind.wrap_u8', show (a.toNat : Int) * 16 % 256 = ((16 * a.toNat : Nat) : Int) by omega, u8_or_nat _ _ (by omega) (by omega),
    nat_join 4 (16 * a.toNat) b.toNat (by omega) (by omega)]
  omega
end Nib

set_option maxHeartbeats 2000000 in
set_option maxRecDepth 100000 in
theorem nib_joined (l : List UInt8) (A : Option Addr) (n c B : Nat) (w : World) (h : Bytes w B A n c l) (hB : B ≤ w.heap.size) (hl : l.length ≤ 281474976710656) (hright : Nib.right l = true) :
    Calls Try.prog 39 #[.slice A n c] w fun e w' => ∃ g, e = .returned (.slice (some ⟨g, 0, none⟩) (l.length / 2) (l.length / 2)) ∧
      w'.ownsRow w.heap.size 5 1 (.slice (some ⟨g, 0, none⟩) (l.length / 2) (l.length / 2)) (l.length / 2) (bv (Nib.join l)) ∧ Below w.heap.size w w' := by
  obtain ⟨hlen, hcap, hlim, hr⟩ := h
  subst hlen
  clear hcap hlim
  obtain ⟨i0, hi, hz0, hz1, hz2⟩ := info_parts info_u8
  go_enter Try.func39, Try.ntmps39
  go_wp2_with (at_make; refine wpList_make_full w rfl _ _ 22 rfl w.heap.size 5 i0 (.int .u8 0) 1 Try.underlying22 hi hz0 hz1 .i64 .i64 _ _ (l.length / 2) rfl rfl (by omega) (by omega) (by rw [hz2]; omega) (by unfold maxLen; omega) (Nat.le_refl _) ?_; intro w1 hown hgrow)
  have hb : Below w.heap.size w w1 := (Below.refl _ _).grown hgrow (Nat.le_refl _) (by simp)
  have hown0 : w1.ownsRow w.heap.size 5 1 (.slice (some ⟨w.heap.size, 0, none⟩) (l.length / 2) (l.length / 2)) (l.length / 2) (bv ((Nib.join l).take 0 ++ List.replicate (l.length / 2 - 0) 0)) := by
    have e : (madeCells (Value.int .u8 0).cells (l.length / 2 * 1)).toList = bv ((Nib.join l).take 0 ++ List.replicate (l.length / 2 - 0) 0) := by
      rw [show (Value.int .u8 0).cells = #[Value.int .u8 0] from rfl, toList_madeCells_one]
      simp [bv]
    rw [← e]; exact hown
  clear hown hgrow
  go_loopw [11] (fun i wr => ∃ k : Nat, k ≤ l.length / 2 ∧ i = .int .i64 k ∧ Below w.heap.size w wr ∧
      wr.ownsRow w.heap.size 5 1 (.slice (some ⟨w.heap.size, 0, none⟩) (l.length / 2) (l.length / 2)) (l.length / 2) (bv ((Nib.join l).take k ++ List.replicate (l.length / 2 - k) 0))) (fun i _ => l.length / 2 - (intOf i).toNat)
  case atStart => exact ⟨0, Nat.zero_le _, rfl, hb, hown0⟩
  case round =>
    obtain ⟨k, hk, rfl, hb1, hown1⟩ := hrel
    by_cases hlt : k < l.length / 2
    · obtain ⟨g, o, u, rfl, hbl, hx, hc⟩ := hr.at_ (k := 2 * k) (by omega)
      obtain ⟨g', o', u', had, _, hx', hc'⟩ := hr.at_ (k := 2 * k + 1) (by omega)
      cases had
      rw [bv_at l _ (by omega)] at hx hx'
      cases hx
      cases hx'
      have hc1 := (hb1.cell (p := ⟨g, o + 2 * k, none⟩) (by show g < _; omega)).trans hc
      have hc2 := (hb1.cell (p := ⟨g, o + (2 * k + 1), none⟩) (by show g < _; omega)).trans hc'
      have hlb := hown1.1
      obtain ⟨v1, hv1⟩ : ∃ v, wr.cell? ⟨w.heap.size, k, none⟩ = some v := ⟨_, (hown1.cellAt k (by omega)).trans (List.getElem?_eq_getElem (by omega))⟩
      have hf1 := hown1.frozenAt k
      have hs1 := hown1.stored k (.int .u8 (bits BinOp.or IntKind.u8 (IntKind.u8.wrap ((l[2 * k].toNat : Int) * 16)) (l[2 * k + 1].toNat : Int)))
      have q1 : IntKind.i64.wrap (2 * (k : Int)) = 2 * (k : Int) := IntWalk.i64_in _ (by omega)
      have q2 : IntKind.i64.wrap (2 * (k : Int) + 1) = 2 * (k : Int) + 1 := IntWalk.i64_in _ (by omega)
      have q3 : (2 * (k : Int)).toNat = 2 * k := by omega
      have q4 : (2 * (k : Int) + 1).toNat = 2 * k + 1 := by omega
      have q5 : 0 ≤ 2 * (k : Int) := by omega
      have q6 : 2 * (k : Int) < (l.length : Int) := by omega
      have q7 : 0 ≤ 2 * (k : Int) + 1 := by omega
      have q8 : 2 * (k : Int) + 1 < (l.length : Int) := by omega
      have q9 : (k : Int) < (l.length : Int) / 2 := by omega
      rw [Nib.or_join _ _ (Nib.right_at l hright _ (by omega)) (Nib.right_at l hright _ (by omega))] at hs1
      rw [Nib.join_step l k (by omega)] at hs1
      have HS := Lib.hid hs1.1
      have qa := Nib.or_join l[2 * k] l[2 * k + 1] (Nib.right_at l hright _ (by omega)) (Nib.right_at l hright _ (by omega))
      clear hs1 hown1 hlb
      go_wp2
      go_still_tail 16, (by kernel_rfl)
      change wpList _ _ _ _ _ wr.drew
      clear q1 q2 q3 q4 q5 q7
      go_wp2
      refine ⟨⟨k + 1, by omega, by go_num, (hb1.setCell (Nat.le_refl _) _).drew, HS.out⟩, ?_⟩
      simp [intOf]; omega
    · obtain rfl : k = l.length / 2 := by omega
      go_wp2
      go_ret
      rw [Nat.sub_self, List.take_of_length_le (by rw [Nib.join_length]; omega)] at hown1
      simp only [List.replicate, List.append_nil] at hown1
      exact ⟨_, rfl, hown1, hb1⟩

namespace Nib
def key (l : List UInt8) : Option (List UInt8) := if right l = true ∧ l.length % 2 = 0 then some (join l) else none
end Nib

end Go.Proofs.Yteknhmhmepnfjaa

namespace Go.Proofs.Yteknhmhmepnfjaa
open Go.RowKit

namespace Nib
/-- the nibbles ahead of a packed path -/
def head (n : Nat) (leaf : Bool) : List UInt8 := if n % 2 = 1 then [if leaf then 3 else 1] else [if leaf then 2 else 0, 0]
def pack (p : List UInt8) (leaf : Bool) : Option (List UInt8) := if right p = true then some (join (head p.length leaf ++ p)) else none
def packE (p : List UInt8) : Int := if right p = true then 0 else 40
theorem right_append (a b : List UInt8) : right (a ++ b) = (right a && right b) := by simp [right]
theorem head_right (n : Nat) (leaf : Bool) : right (head n leaf) = true := by
  unfold head; split <;> cases leaf <;> decide
theorem head_length (n : Nat) (leaf : Bool) : (head n leaf).length = 2 - n % 2 := by
  unfold head; split <;> simp <;> omega
end Nib

set_option maxHeartbeats 1000000 in
theorem nib_Pack (l : List UInt8) (leaf : Bool) (A : Option Addr) (n c B : Nat) (w : World) (h : Bytes w B A n c l) (hB : B ≤ w.heap.size) (hl : l.length + 2 ≤ 140737488355328) :
    Calls Try.prog 25 #[.slice A n c, .bool leaf] w (PostBe w ((Nib.pack l leaf).getD []) (Nib.packE l)) := by
  have hlen := h.len
  subst hlen
  have hm : l.length ≤ 9223372036854775807 := by omega
  by_cases hr : Nib.right l = true
  · have H := Lib.hid hr
    have HK := Lib.hid (show Nib.pack l leaf = some (Nib.join (Nib.head l.length leaf ++ l)) by simp [Nib.pack, hr])
    by_cases hp : l.length % 2 = 1
    · have hp1 : (l.length : Int) % 2 = 1 := by omega
      cases leaf
      · have HD := Lib.hid (show Nib.head l.length false = [1] by simp [Nib.head, hp])
        have HR := Lib.hid (show Nib.right ([1] ++ l) = true by rw [Nib.right_append, hr]; rfl)
        clear hp hr
        go_enter Try.func25, Try.ntmps25
        go_wp2_with (first
          | (go_at_call 16; refine (nib_Right l A l.length c B w h).mono ?_; rintro e w' ⟨rfl, rfl⟩; rw [H.out])
          | (at_builtin; refine wpList_append_u8 rfl _ _ rfl w.heap.size _ 1 [1] rfl (own_lit w _ [1] _ rfl (by simp [maxLen]) (Nat.le_refl _) rfl) B A l.length c l rfl (h.alloc hB _) (by omega) (by simp) ?_; intro A' c' w1 hown1 hb1)
          | (go_at_call 39; refine (nib_joined ([1] ++ l) A' _ c' w1.heap.size w1 ⟨by simp; omega, (Own.of_row hown1).cap, (Own.of_row hown1).lim, Reads.of_own hown1⟩ (Nat.le_refl _) (by simp; omega) HR.out).mono ?_; rintro e w2 ⟨g, rfl, hown2, hb2⟩))
        go_ret2
        rw [HK.out, HD.out]
        exact ⟨_, _, _, ret_pair rfl (by simp [Nib.packE, H.out]), new_of rfl (by simp [Nib.join_length]) (((Below.refl _ _).alloc (Nat.le_refl _) _).trans hb1) hown2 hb2⟩
      · have HD := Lib.hid (show Nib.head l.length true = [3] by simp [Nib.head, hp])
        have HR := Lib.hid (show Nib.right ([3] ++ l) = true by rw [Nib.right_append, hr]; rfl)
        clear hp hr
        go_enter Try.func25, Try.ntmps25
        go_wp2_with (first
          | (go_at_call 16; refine (nib_Right l A l.length c B w h).mono ?_; rintro e w' ⟨rfl, rfl⟩; rw [H.out])
          | (at_builtin; refine wpList_append_u8 rfl _ _ rfl w.heap.size _ 1 [3] rfl (own_lit w _ [3] _ rfl (by simp [maxLen]) (Nat.le_refl _) rfl) B A l.length c l rfl (h.alloc hB _) (by omega) (by simp) ?_; intro A' c' w1 hown1 hb1)
          | (go_at_call 39; refine (nib_joined ([3] ++ l) A' _ c' w1.heap.size w1 ⟨by simp; omega, (Own.of_row hown1).cap, (Own.of_row hown1).lim, Reads.of_own hown1⟩ (Nat.le_refl _) (by simp; omega) HR.out).mono ?_; rintro e w2 ⟨g, rfl, hown2, hb2⟩))
        go_ret2
        rw [HK.out, HD.out]
        exact ⟨_, _, _, ret_pair rfl (by simp [Nib.packE, H.out]), new_of rfl (by simp [Nib.join_length]) (((Below.refl _ _).alloc (Nat.le_refl _) _).trans hb1) hown2 hb2⟩
    · have hp0 : (l.length : Int) % 2 = 0 := by omega
      cases leaf
      · have HD := Lib.hid (show Nib.head l.length false = [0, 0] by simp [Nib.head, hp])
        have HR := Lib.hid (show Nib.right ([0] ++ [0] ++ l) = true by rw [Nib.right_append, hr]; rfl)
        clear hp hr
        go_enter Try.func25, Try.ntmps25
        go_wp2_with (first
          | (go_at_call 16; refine (nib_Right l A l.length c B w h).mono ?_; rintro e w' ⟨rfl, rfl⟩; rw [H.out])
          | (at_builtin; refine wpList_append1_u8 rfl _ _ rfl w.heap.size _ 1 [0] rfl (own_lit w _ [0] _ rfl (by simp [maxLen]) (Nat.le_refl _) rfl) 0 0 rfl _ rfl (by simp) (by omega) (by simp) ?_; intro g1 c1 w1 hown1 hg1 hb1 hs1)
          | (at_builtin; refine wpList_append_u8 rfl _ _ rfl w.heap.size _ 2 ([0] ++ [0]) rfl hown1 B A l.length c l rfl ((h.alloc hB _).below ((hb1.mono hB))) (by omega) (by omega) ?_; intro A' c' w2 hown2 hb2)
          | (go_at_call 39; refine (nib_joined ([0] ++ [0] ++ l) A' _ c' w2.heap.size w2 ⟨by simp; omega, (Own.of_row hown2).cap, (Own.of_row hown2).lim, Reads.of_own hown2⟩ (Nat.le_refl _) (by simp; omega) HR.out).mono ?_; rintro e w3 ⟨g, rfl, hown3, hb3⟩))
        go_ret2
        rw [HK.out, HD.out]
        exact ⟨_, _, _, ret_pair rfl (by simp [Nib.packE, H.out]), new_of rfl (by simp [Nib.join_length]) (((Below.refl _ _).alloc (Nat.le_refl _) _).trans (hb1.trans hb2)) hown3 hb3⟩
      · have HD := Lib.hid (show Nib.head l.length true = [2, 0] by simp [Nib.head, hp])
        have HR := Lib.hid (show Nib.right ([2] ++ [0] ++ l) = true by rw [Nib.right_append, hr]; rfl)
        clear hp hr
        go_enter Try.func25, Try.ntmps25
        go_wp2_with (first
          | (go_at_call 16; refine (nib_Right l A l.length c B w h).mono ?_; rintro e w' ⟨rfl, rfl⟩; rw [H.out])
          | (at_builtin; refine wpList_append1_u8 rfl _ _ rfl w.heap.size _ 1 [0] rfl (own_lit w _ [0] _ rfl (by simp [maxLen]) (Nat.le_refl _) rfl) 0 0 rfl _ rfl (by simp) (by omega) (by simp) ?_; intro g1 c1 w1 hown1 hg1 hb1 hs1; have hc1 : w1.cell? ⟨g1, 0, none⟩ = some (.int .u8 0) := hown1.cellAt 0 (by omega); have hf1 := hown1.frozenAt 0; have HO := Lib.hid (show (w1.setCell ⟨g1, 0, none⟩ (.int .u8 (bits BinOp.or IntKind.u8 0 2))).ownsRow w.heap.size 5 1 (.slice (some ⟨g1, 0, none⟩) 2 c1) 2 (bv ([2] ++ [0])) from (hown1.stored 0 (.int .u8 (bits BinOp.or IntKind.u8 0 2))).1); clear hown1)
          | (at_builtin; refine wpList_append_u8 rfl _ _ rfl w.heap.size _ 2 ([2] ++ [0]) rfl HO.out B A l.length c l rfl (((h.alloc hB _).below (hb1.mono hB)).setCell (by show B ≤ g1; omega) _) (by omega) (by rw [size_set]; omega) ?_; intro A' c' w2 hown2 hb2)
          | (go_at_call 39; refine (nib_joined ([2] ++ [0] ++ l) A' _ c' w2.heap.size w2 ⟨by simp; omega, (Own.of_row hown2).cap, (Own.of_row hown2).lim, Reads.of_own hown2⟩ (Nat.le_refl _) (by simp; omega) HR.out).mono ?_; rintro e w3 ⟨g, rfl, hown3, hb3⟩))
        go_ret2
        rw [HK.out, HD.out]
        exact ⟨_, _, _, ret_pair rfl (by simp [Nib.packE, H.out]), new_of rfl (by simp [Nib.join_length]) (((Below.refl _ _).alloc (Nat.le_refl _) _).trans ((hb1.setCell hg1 _).trans hb2)) hown3 hb3⟩
  · have hk : Nib.pack l leaf = none := by simp [Nib.pack, hr]
    have H := Lib.hid (Bool.not_eq_true _ ▸ hr : Nib.right l = false)
    clear hr
    go_enter Try.func25, Try.ntmps25
    go_wp2_with (first | (go_at_call 16; refine (nib_Right l A l.length c B w h).mono ?_; rintro e w' ⟨rfl, rfl⟩; rw [H.out]))
    go_ret2
    rw [hk]
    exact ⟨none, 0, 0, by simp [Nib.packE, H.out], NewB.none_ w⟩

end Go.Proofs.Yteknhmhmepnfjaa

namespace Go.Proofs.Yteknhmhmepnfjaa
open Go.RowKit

namespace Nib
def unpack (b : List UInt8) : Option (List UInt8 × Bool) :=
  match of b with
  | f :: z :: r => if 3 < f.toNat then none else if f.toNat % 2 = 1 then some (z :: r, decide (2 ≤ f.toNat)) else if z.toNat ≠ 0 then none else some (r, decide (2 ≤ f.toNat))
  | _ => none
def unpackL (b : List UInt8) : List UInt8 := (unpack b).elim [] (·.1)
def unpackB (b : List UInt8) : Bool := (unpack b).elim false (·.2)
def unpackE (b : List UInt8) : Int := if (unpack b).isSome then 0 else 40
theorem bit1 : ∀ f : Nat, f ≤ 3 → bits BinOp.and IntKind.u8 (f : Int) 1 = ((f % 2 : Nat) : Int) := by decide
theorem bit2 : ∀ f : Nat, f ≤ 3 → bits BinOp.and IntKind.u8 (f : Int) 2 = if 2 ≤ f then 2 else 0 := by decide
theorem unpackL_le (b : List UInt8) : (unpackL b).length ≤ 2 * b.length := by
  have h := of_length b
  unfold unpackL unpack
  split
  · rename_i f z r hof
    rw [hof] at h
    simp only [List.length_cons] at h
    split
    · simp
    · split
      · simp only [Option.elim, List.length_cons]; omega
      · split
        · simp
        · simp only [Option.elim]; omega
  · simp
end Nib

theorem nib_of_cons (l : List UInt8) (h : 0 < l.length) : ∃ f z R, Nib.of l = f :: z :: R ∧ R.length + 2 = 2 * l.length := by
  match l, h with
  | x :: r, _ =>
    have := Nib.of_length r
    exact ⟨Nib.hi x, Nib.lo x, Nib.of r, rfl, by simp only [List.length_cons]; omega⟩

set_option maxHeartbeats 1000000 in
theorem nib_Unpack (l : List UInt8) (A : Option Addr) (n c B : Nat) (w : World) (h : Bytes w B A n c l) (hB : B ≤ w.heap.size) (hl : 2 * l.length ≤ 281474976710656) :
    Calls Try.prog 50 #[.slice A n c] w (PostObe w (Nib.unpackL l) (Nib.unpackB l) (Nib.unpackE l)) := by
  have hlen := h.len
  subst hlen
  rcases Nat.eq_zero_or_pos l.length with h0 | h0
  · have he : l = [] := List.eq_nil_of_length_eq_zero h0
    subst he
    go_enter Try.func50, Try.ntmps50
    go_wp2_with (first
      | (go_at_call 60; refine (nib_Of [] A _ c B w h hB hl).mono ?_; rintro e w1 ⟨g, rfl, hown, hb⟩))
    go_ret3
    exact ⟨none, 0, 0, rfl, rfl, Own.of_row (World.ownsRow_nil _ _ _ _), hb⟩
  · obtain ⟨f, z, R, hof, hRl⟩ := nib_of_cons l h0
    have hz0 : (2 * (l.length : Int) == 0) = false := beq_eq_false_iff_ne.2 (by omega)
    by_cases h3 : 3 < f.toNat
    · have HU := Lib.hid (show Nib.unpack l = none by simp [Nib.unpack, hof, h3])
      have HO := Lib.hid hof
      clear hof hRl
      go_enter Try.func50, Try.ntmps50
      go_wp2_with (first
        | (go_at_call 60; refine (nib_Of l A _ c B w h hB hl).mono ?_; rintro e w1 ⟨g, rfl, hown, hb⟩; have hc0 : w1.cell? ⟨g, 0, none⟩ = some (.int .u8 f.toNat) := own_cell hown 0 _ (by rw [HO.out]; rfl); clear hown))
      go_ret3
      exact ⟨none, 0, 0, by simp [Nib.unpackB, Nib.unpackE, HU.out], by simp [Nib.unpackL, HU.out], by simp only [Nib.unpackL, HU.out]; exact Own.of_row (World.ownsRow_nil _ _ _ _), hb⟩
    · have hA := Nib.bit1 f.toNat (by omega)
      have hB2 := Nib.bit2 f.toNat (by omega)
      have h3' : (f.toNat : Int) ≤ 3 := by omega
      by_cases hodd : f.toNat % 2 = 1
      · have HU := Lib.hid (show Nib.unpack l = some (z :: R, decide (2 ≤ f.toNat)) by simp [Nib.unpack, hof, h3, hodd])
        have HO := Lib.hid hof
        rw [hodd] at hA
        have HR := Lib.hid hRl
        clear hof hodd hRl
        have hne : ¬ (2 * l.length = 1) := by omega
        go_enter Try.func50, Try.ntmps50
        go_wp2_with (first
          | (go_at_call 60; refine (nib_Of l A _ c B w h hB hl).mono ?_; rintro e w1 ⟨g, rfl, hown, hb⟩; have hc0 : w1.cell? ⟨g, 0, none⟩ = some (.int .u8 f.toNat) := own_cell hown 0 _ (by rw [HO.out]; rfl); have HW := Lib.hid hown; clear hown))
        all_goals go_ret3
        all_goals exact ⟨_, _, _, ret_three rfl (by simp only [Nib.unpackB, HU.out, Option.elim]; congr 1; simp; omega) (by simp [Nib.unpackE, HU.out]),
          by simp only [Nib.unpackL, HU.out, Option.elim, List.length_cons]; have := HR.out; omega,
          by simp only [Nib.unpackL, HU.out, Option.elim]; exact own_cut_to (k := 1) (Own.of_row HW.out) (by omega) (.inr rfl) rfl rfl (by rw [HO.out]; rfl), hb⟩
      · have hA : bits BinOp.and IntKind.u8 (f.toNat : Int) 1 = 0 := by rw [hA]; omega
        by_cases hz : z.toNat = 0
        · have HU := Lib.hid (show Nib.unpack l = some (R, decide (2 ≤ f.toNat)) by simp [Nib.unpack, hof, h3, hodd, hz])
          have HO := Lib.hid hof
          have HR := Lib.hid hRl
          have hzz : (z.toNat : Int) = 0 := by omega
          clear hof hodd hRl hz
          by_cases h1 : 2 * l.length - 1 = 1
          all_goals
            go_enter Try.func50, Try.ntmps50
            go_wp2_with (first
              | (go_at_call 60; refine (nib_Of l A _ c B w h hB hl).mono ?_; rintro e w1 ⟨g, rfl, hown, hb⟩; have hc0 : w1.cell? ⟨g, 0, none⟩ = some (.int .u8 f.toNat) := own_cell hown 0 _ (by rw [HO.out]; rfl); have hc1 : w1.cell? ⟨g, 1, none⟩ = some (.int .u8 z.toNat) := own_cell hown 1 _ (by rw [HO.out]; rfl); have HW := Lib.hid hown; clear hown))
            all_goals go_ret3
            all_goals exact ⟨_, _, _, ret_three rfl (by simp only [Nib.unpackB, HU.out, Option.elim]; congr 1; simp; omega) (by simp [Nib.unpackE, HU.out]),
              by simp only [Nib.unpackL, HU.out, Option.elim]; have := HR.out; omega,
              by simp only [Nib.unpackL, HU.out, Option.elim]; exact own_cut_to (k := 2) (Own.of_row HW.out) (by omega) (by first | exact .inr rfl | exact .inl (by omega)) (by omega) (by omega) (by rw [HO.out]; rfl), hb⟩
        · have HU := Lib.hid (show Nib.unpack l = none by simp [Nib.unpack, hof, h3, hodd, hz])
          have HO := Lib.hid hof
          have hzz : ((z.toNat : Int) == 0) = false := beq_eq_false_iff_ne.2 (by omega)
          have hzz' : ((z.toNat : Int) != 0) = true := by rw [bne_iff_ne]; omega
          have hz1 : 0 < 2 * l.length - 1 := by omega
          clear hof hodd hRl hz
          go_enter Try.func50, Try.ntmps50
          go_wp2_with (first
            | (go_at_call 60; refine (nib_Of l A _ c B w h hB hl).mono ?_; rintro e w1 ⟨g, rfl, hown, hb⟩; have hc0 : w1.cell? ⟨g, 0, none⟩ = some (.int .u8 f.toNat) := own_cell hown 0 _ (by rw [HO.out]; rfl); have hc1 : w1.cell? ⟨g, 1, none⟩ = some (.int .u8 z.toNat) := own_cell hown 1 _ (by rw [HO.out]; rfl); have HW := Lib.hid hown; clear hown))
          all_goals go_ret3
          all_goals exact ⟨none, 0, 0, by simp [Nib.unpackB, Nib.unpackE, HU.out], by simp [Nib.unpackL, HU.out], by simp only [Nib.unpackL, HU.out]; exact Own.of_row (World.ownsRow_nil _ _ _ _), hb⟩
end Go.Proofs.Yteknhmhmepnfjaa

/-
  Nodes as bytes, plain: no program.
-/
namespace Go.Proofs.Yteknhmhmepnfjaa
namespace Nd

def z32 : List UInt8 := List.replicate 32 0
/-- a reference; a node -/
structure Rf where
  kind : Int
  dig : List UInt8
  inl : List UInt8
structure No where
  kind : Int
  path : List UInt8
  value : List UInt8
  child : Rf
  kids : List Rf
def rf0 : Rf := ⟨0, z32, []⟩
def no0 : No := ⟨0, [], [], rf0, []⟩
/-- what an item names -/
def refOf (x : Ns.It 8) : Rf × Bool :=
  if isList x = true then (⟨1, z32, Ns.enc 8 x⟩, decide ((Ns.enc 8 x).length < 32))
  else if (bytesOf x).length = 0 then (rf0, true)
  else if (bytesOf x).length = 32 then (⟨2, bytesOf x, []⟩, true)
  else (rf0, false)
def two (p o : Ns.It 8) : No × Bool :=
  if (Nib.unpack (bytesOf p)).isSome = false ∨ isList p = true then (no0, false)
  else if Nib.unpackB (bytesOf p) = true then (⟨1, Nib.unpackL (bytesOf p), bytesOf o, rf0, []⟩, !isList o)
  else (⟨2, Nib.unpackL (bytesOf p), [], (refOf o).1, []⟩, (refOf o).2)
def many (l : List (Ns.It 8)) (z : Ns.It 8) : No × Bool := (⟨3, [], bytesOf z, rf0, l.map fun x => (refOf x).1⟩, !isList z && l.all fun x => (refOf x).2)
def shape (xs : List (Ns.It 8)) : No × Bool := match xs with
  | [p, o] => two p o
  | xs => if h : xs.length = 17 then many (xs.take 16) (xs[16]'(by omega)) else (no0, false)
def none (r : Rf) : Bool := decide (r.kind = 0 ∧ r.dig = z32 ∧ r.inl.length = 0)
def occupied (n : No) : Nat := (n.kids.filter fun r => decide (r.kind ≠ 0)).length + if 0 < n.value.length then 1 else 0
section
variable (D : List UInt8 → Option No)
def rightRef (r : Rf) : Bool :=
  if r.kind = 0 then decide (r.dig = z32 ∧ r.inl.length = 0)
  else if r.kind = 2 then decide (r.inl.length = 0)
  else if r.kind = 1 then decide (r.dig = z32 ∧ r.inl.length < 32 ∧ (D r.inl).isSome = true)
  else false
def branchOf (r : Rf) : Bool := if r.kind = 1 then decide (((D r.inl).getD no0).kind = 3) else decide (r.kind = 2)
def right (n : No) : Bool :=
  if 64 < n.path.length ∨ Nib.right n.path = false ∨ 256 < n.value.length then false
  else if n.kind = 1 then decide (0 < n.value.length ∧ none n.child = true ∧ n.kids.length = 0)
  else if n.kind = 2 then decide (0 < n.path.length ∧ n.value.length = 0 ∧ n.kids.length = 0 ∧ rightRef D n.child = true ∧ branchOf D n.child = true)
  else if n.kind = 3 then decide (n.path.length = 0 ∧ none n.child = true ∧ n.kids.length = 16 ∧ n.kids.all (rightRef D) = true ∧ 2 ≤ occupied n)
  else false
end
def decF : Nat → List UInt8 → Option No
  | 0, _ => .none
  | f + 1, b => match Ns.dec b with
    | .error _ => .none
    | .ok (.inl _) => .none
    | .ok (.inr xs) => if (shape xs).2 = true ∧ right (decF f) (shape xs).1 = true then some (shape xs).1 else .none
/-- the node whose bytes these are -/
def dec (b : List UInt8) : Option No := decF (b.length + 1) b
def refs (n : No) : List Rf := n.child :: n.kids
theorem rightRef_congr {D D' : List UInt8 → Option No} {r : Rf} (h : D r.inl = D' r.inl) : rightRef D r = rightRef D' r := by unfold rightRef; rw [h]
theorem branchOf_congr {D D' : List UInt8 → Option No} {r : Rf} (h : D r.inl = D' r.inl) : branchOf D r = branchOf D' r := by unfold branchOf; rw [h]
theorem right_congr {D D' : List UInt8 → Option No} {n : No} (h : ∀ r ∈ refs n, D r.inl = D' r.inl) : right D n = right D' n := by
  have hc := h n.child (by simp [refs])
  have hk : n.kids.all (rightRef D) = n.kids.all (rightRef D') := by
    have hk' : ∀ r ∈ n.kids, rightRef D r = rightRef D' r := fun r hr => rightRef_congr (h r (by simp [refs, hr]))
    generalize n.kids = ks at hk'
    induction ks with
    | nil => rfl
    | cons r rs ih => rw [List.all_cons, List.all_cons, hk' r (by simp), ih (fun s hs => hk' s (by simp [hs]))]
  unfold right
  rw [rightRef_congr hc, branchOf_congr hc, hk]
theorem refOf_inl (x : Ns.It 8) : (refOf x).1.inl.length ≤ (Ns.enc 8 x).length := by
  unfold refOf
  split
  · exact Nat.le_refl _
  · split
    · exact Nat.zero_le _
    · split <;> exact Nat.zero_le _
/-- what a node refers to is shorter than its bytes -/
theorem shape_shorter {b : List UInt8} {xs : List (Ns.It 8)} (h : Ns.dec b = .ok (.inr xs)) : ∀ r ∈ refs (shape xs).1, r.inl.length < b.length := by
  obtain ⟨hb, -⟩ := Ns.dec_ok b _ h
  have hlen : (xs.flatMap (Ns.enc 8)).length < b.length := by
    rw [hb]
    show _ < (Ns.head 192 (xs.flatMap (Ns.enc 8)).length ++ xs.flatMap (Ns.enc 8)).length
    have := Ns.head_pos 192 (xs.flatMap (Ns.enc 8)).length
    rw [List.length_append]; omega
  have hin : ∀ x ∈ xs, (refOf x).1.inl.length < b.length := fun x hx => Nat.lt_of_le_of_lt (Nat.le_trans (refOf_inl x) (by
    clear h hb hlen
    induction xs with
    | nil => cases hx
    | cons y ys ih =>
      rw [List.flatMap_cons, List.length_append]
      rcases List.mem_cons.1 hx with rfl | hx
      · omega
      · have := ih hx; omega)) hlen
  have h0 : (0 : Nat) < b.length := by omega
  have hz : ∀ r ∈ refs no0, r.inl.length < b.length := by
    intro r hr
    simp only [refs, no0, List.mem_cons, List.not_mem_nil, or_false] at hr
    subst hr; exact h0
  intro r hr
  unfold shape at hr
  split at hr
  · rename_i p o
    unfold two at hr
    split at hr
    · exact hz r hr
    · split at hr
      · simp only [refs, List.mem_cons, List.not_mem_nil, or_false] at hr
        subst hr; exact h0
      · simp only [refs, List.mem_cons, List.not_mem_nil, or_false] at hr
        subst hr; exact hin o (by simp)
  · split at hr
    · simp only [many, refs, List.mem_cons] at hr
      rcases hr with rfl | hr
      · exact h0
      · obtain ⟨x, hx, rfl⟩ := List.mem_map.1 hr
        exact hin x (List.mem_of_mem_take hx)
    · exact hz r hr
theorem decF_enough : ∀ (f : Nat) (b : List UInt8), b.length < f → decF f b = dec b := by
  intro f
  induction f using Nat.strongRecOn with
  | _ f ih =>
    intro b hb
    obtain ⟨f, rfl⟩ : ∃ g, f = g + 1 := ⟨f - 1, by omega⟩
    unfold dec
    simp only [decF]
    cases hd : Ns.dec b with
    | error e => rfl
    | ok x =>
      cases x with
      | inl _ => rfl
      | inr xs =>
        simp only
        have hs := shape_shorter hd
        have : right (decF f) (shape xs).1 = right (decF b.length) (shape xs).1 := right_congr fun r hr => by
          have h1 := hs r hr
          rw [ih f (by omega) r.inl (by omega)]
          rcases Nat.lt_or_ge b.length (f + 1) with h2 | h2
          · rw [ih b.length (by omega) r.inl h1]
          · omega
        rw [this]
theorem dec_eq (b : List UInt8) : dec b = match Ns.dec b with
    | .error _ => .none
    | .ok (.inl _) => .none
    | .ok (.inr xs) => if (shape xs).2 = true ∧ right dec (shape xs).1 = true then some (shape xs).1 else .none := by
  show decF (b.length + 1) b = _
  simp only [decF]
  cases hd : Ns.dec b with
  | error e => rfl
  | ok x =>
    cases x with
    | inl _ => rfl
    | inr xs =>
      simp only
      have hs := shape_shorter hd
      rw [right_congr (D := decF b.length) (D' := dec) fun r hr => decF_enough b.length r.inl (hs r hr)]
end Nd
end Go.Proofs.Yteknhmhmepnfjaa

/-
  Digests as values.
-/
namespace Go.Proofs.Yteknhmhmepnfjaa
open Go.RowKit

/-- a digest's cells, and as a value -/
def row32 (l : List UInt8) : Array Value := (bv l).toArray
def digV (l : List UInt8) : Value := .agg (row32 l)
def zero32 : List UInt8 := List.replicate 32 0
theorem Blk.zeros (w : World) (cs : Array Value) (t : TypeId) (h : cs.toList = bv zero32) : Blk (w.alloc (.cells cs t)) w.heap.size t (row32 zero32) :=
  (Blk.new w t cs).eq (by apply Array.ext'; rw [h]; rfl)

theorem row32_size {l : List UInt8} (h : l.length = 32) : (row32 l).size = 32 := by simp [row32, bv_length, h]
theorem info_digest : (Try.prog.info? 24).map (·.size) = some 32 := by kernel_rfl
theorem row32_one (l : List UInt8) : (row32 l).all (·.oneCell') = true :=
  Array.all_eq_true_iff_forall_mem.2 (by intro u hu; exact bv_one l u (by simpa [row32] using hu))
end Go.Proofs.Yteknhmhmepnfjaa

/-
  Digests compared.
-/
namespace Go.Proofs.Yteknhmhmepnfjaa
open Go.RowKit

theorem dig_law : Maps.Keyed Try.prog 24 := Maps.Keyed.of_law (deep_law_laid (by kernel_rfl) (m := 2) (by omega) (of_decide_eq_true (by kernel_rfl)) (by kernel_rfl) (by kernel_rfl))
theorem mapM_some {α β : Type} (f : α → Option β) : ∀ l : List α, (∀ x ∈ l, ∃ y, f x = some y) → ∃ ys, l.mapM f = some ys
  | [], _ => ⟨[], rfl⟩
  | x :: r, h => by
    obtain ⟨y, hy⟩ := h x (List.mem_cons_self ..)
    obtain ⟨ys, hys⟩ := mapM_some f r (fun z hz => h z (List.mem_cons_of_mem _ hz))
    exact ⟨y :: ys, by simp [List.mapM_cons, hy, hys]⟩
theorem bv_inj : ∀ {a b : List UInt8}, bv a = bv b → a = b
  | [], [], _ => rfl
  | [], _ :: _, h => by simp [bv] at h
  | _ :: _, [], h => by simp [bv] at h
  | x :: a, y :: b, h => by
    simp only [bv, List.map_cons, List.cons.injEq, Value.int.injEq, true_and] at h
    have hx : x = y := UInt8.toNat_inj.1 (by omega)
    rw [hx, bv_inj (a := a) (b := b) h.2]
theorem digV_inj {a b : List UInt8} (h : digV a = digV b) : a = b := by
  simp only [digV, row32, Value.agg.injEq] at h
  exact bv_inj (by simpa using h)
theorem dig_key (l : List UInt8) (h : l.length = 32) : ∃ k, keyOf Try.prog 24 (digV l) = some k := by
  have hu : Try.prog.underlying 24 = some (.array 32 5) := Try.underlying24
  have he : Try.prog.underlying 5 = some (.int .u8) := Try.underlying5
  have hk : Try.prog.keyType 24 = true := by kernel_rfl
  have hc : Try.prog.cellsOf 24 = 32 := by kernel_rfl
  have hc1 : Try.prog.cellsOf 5 = 1 := by kernel_rfl
  obtain ⟨s, hs⟩ : ∃ s, Try.prog.types.size = s + 1 := ⟨Try.prog.types.size - 1, by kernel_rfl⟩
  have hf : (digV l).formed Try.prog 24 = true := by simp [digV, Value.formed, hu, hc, row32_size h]
  unfold keyOf
  simp only [hu, hk, hf, Bool.and_self, if_true]
  have hl : ∃ ls, Try.prog.keyLits (Try.prog.types.size + 1) 24 (digV l).cells.toList = some ls := by
    have hz : (digV l).cells.toList = bv l := by simp [digV, Value.cells, row32]
    rw [hz]
    unfold Program.keyLits
    simp only [hu, bv_length, h, hc, if_true]
    have := mapM_some (fun i => Try.prog.keyLits Try.prog.types.size 5 (((bv l).drop (i * Try.prog.cellsOf 5)).take (Try.prog.cellsOf 5))) (List.range 32) (fun i hi => by
      have hi := List.mem_range.1 hi
      rw [hs, hc1, Nat.mul_one]
      have hd : ((bv l).drop i).take 1 = [.int .u8 (l[i].toNat : Int)] := by
        rw [List.drop_eq_getElem_cons (by rw [bv_length]; omega)]
        simp [bv]
      rw [hd]
      unfold Program.keyLits
      simp only [he]
      have := l[i].toNat_lt
      exact ⟨_, if_pos ⟨trivial, by simp [Lit.wf, IntKind.min, IntKind.max, IntKind.signed, IntKind.bits]; omega⟩⟩)
    obtain ⟨ys, hys⟩ := this
    exact ⟨ys.flatten, by rw [hys]; rfl⟩
  obtain ⟨ls, hls⟩ := hl
  exact ⟨_, by rw [hls]; rfl⟩

set_option maxRecDepth 100000 in
theorem run_equal_dig (a b : List UInt8) (ha : a.length = 32) (hb : b.length = 32) (w : World) : (Op.equal 24 (.agg (row32 a)) (.agg (row32 b))).run Try.prog w = .ok (decide (a = b)) w := by
  obtain ⟨la, hla⟩ := dig_key a ha
  obtain ⟨lb, hlb⟩ := dig_key b hb
  obtain ⟨r, hr, hiff⟩ := run_equal_deep (P := Try.prog) w (m := 2) (by omega) (k := 24) (by kernel_rfl) (by kernel_rfl) hla hlb
  unfold digV at hr
  rw [hr]
  congr 1
  rw [Bool.eq_iff_iff, hiff, decide_eq_true_eq]
  constructor
  · intro e
    subst e
    exact digV_inj (dig_law.inj hla hlb)
  · intro e
    subst e
    rw [hla] at hlb
    exact Option.some.inj hlb
theorem run_eql_dig (a b : List UInt8) (ha : a.length = 32) (hb : b.length = 32) (w : World) : (binOp .eql 24 (.agg (row32 a)) (.agg (row32 b))).run Try.prog w = .ok (.bool (decide (a = b))) w := by
  simp [binOp, run_equal_dig a b ha hb]

end Go.Proofs.Yteknhmhmepnfjaa

/-
  The reader of package nest: fail, take, size.
-/
namespace Go.Proofs.Yteknhmhmepnfjaa
open Go.RowKit

/-- a reader: bytes that lie below it, and no error -/
structure RdIs (w : World) (g : Nat) (A : Option Addr) (n c : Nat) (l : List UInt8) : Prop where
  cells : Blk w g 83 #[.slice A n c, .int .i64 0]
  txt : Bytes w g A n c l
/-- a reader at which something is amiss -/
def RdBad (w : World) (g : Nat) (k : Int) : Prop := ∃ A n c, Blk w g 83 #[.slice A n c, .int .i64 k]
theorem rd_fail (g : Nat) (s : Value) (k : Int) (w : World) (h : Blk w g 83 #[s, .int .i64 0]) :
    Calls Try.prog 63 #[.pointer (some ⟨g, 0, none⟩), .int .i64 k] w fun e w' => e = .returned itemZ ∧ Blk w' g 83 #[s, .int .i64 k] ∧ w.grownBy w' (some g) := by
  have hg := h.lt
  have g1 : w.cell? ⟨g, 1, none⟩ = some (.int .i64 0) := h.cell 1
  have f1 := h.frozen 1
  replace h := Lib.hid h
  go_enter Try.func63, Try.ntmps63
  go_wp2
  refine bodyPost_ret (v := itemZ) (by simp [results, Try.results63, go_sem, itemZ]) rfl ⟨rfl, ?_, grown_alloc (grown_set (World.grownBy.refl w _)) _⟩
  exact ((h.out.set_ 1 _).alloc _).eq rfl
/-- so many bytes are there -/
theorem rd_take (g k : Nat) (A : Option Addr) (n c : Nat) (l : List UInt8) (w : World) (h : RdIs w g A n c l) (hk : k ≤ l.length) :
    Calls Try.prog 62 #[.pointer (some ⟨g, 0, none⟩), .int .i64 k] w fun e w' => e = .returned (.tuple #[.slice A k c, .bool true]) ∧ (∃ A', RdIs w' g A' (n - k) (c - k) (l.drop k)) ∧ w.grownBy w' (some g) := by
  obtain ⟨h1, h2⟩ := h
  have hlen := h2.len
  have hcap := h2.cap
  subst hlen
  have hg := h1.lt
  have g0 : w.cell? ⟨g, 0, none⟩ = some (.slice A l.length c) := h1.cell 0
  have f0 := h1.frozen 0
  have hk' : ¬ (l.length : Int) < (k : Int) := by omega
  have hkc : (k : Int) ≤ (c : Int) := by omega
  replace h1 := Lib.hid h1
  replace h2 := Lib.hid h2
  go_enter Try.func62, Try.ntmps62
  have hcut := Lib.hid (h2.out.cutIf hk)
  have fin : ∀ (A' : Option Addr), A' = (if c = k then A else A.map (·.add k)) → (∃ A2, RdIs (w.setCell ⟨g, 0, none⟩ (.slice A' (l.length - k) (c - k))) g A2 (l.length - k) (c - k) (l.drop k)) ∧ w.grownBy (w.setCell ⟨g, 0, none⟩ (.slice A' (l.length - k) (c - k))) (some g) := by
    intro A' hA
    subst hA
    have hgr := grown_set (g := g) (i := 0) (u := .slice (if c = k then A else A.map (·.add k)) (l.length - k) (c - k)) (World.grownBy.refl w (some g))
    exact ⟨⟨_, ⟨h1.out.set_ 0 _, hcut.out.grown hgr (Nat.le_refl _) (Nat.le_of_lt hg)⟩⟩, hgr⟩
  replace fin := Lib.hid fin
  by_cases hck : c = k
  · have hl : l.length = k := by omega
    have := fin.out A (by rw [if_pos hck])
    rw [hck, Nat.sub_self] at this
    replace this := Lib.hid this
    clear hl
    subst hck
    clear fin
    go_wp2
    go_ret2
    refine ⟨rfl, ?_⟩
    have hz := this.out
    rw [show l.length - c = 0 by omega] at hz
    exact hz
  · have := fin.out (A.map (·.add k)) (by rw [if_neg hck])
    replace this := Lib.hid this
    clear fin
    go_wp2
    go_ret2
    exact ⟨rfl, this.out⟩
theorem rd_take_no (g k : Nat) (A : Option Addr) (n c : Nat) (l : List UInt8) (w : World) (h : RdIs w g A n c l) (hk : l.length < k) :
    Calls Try.prog 62 #[.pointer (some ⟨g, 0, none⟩), .int .i64 k] w fun e w' => e = .returned (.tuple #[.slice none 0 0, .bool false]) ∧ RdBad w' g 22 ∧ w.grownBy w' (some g) := by
  obtain ⟨h1, h2⟩ := h
  have hlen := h2.len
  subst hlen
  have g0 : w.cell? ⟨g, 0, none⟩ = some (.slice A l.length c) := h1.cell 0
  replace h1 := Lib.hid h1
  clear h2
  have hk' : (l.length : Int) < (k : Int) := by omega
  go_enter Try.func62, Try.ntmps62
  go_wp2_with fail
  refine (rd_fail g _ 22 w h1.out).mono ?_
  rintro e w1 ⟨rfl, hb, hgr⟩
  go_wp2_with fail
  go_ret2
  exact ⟨rfl, ⟨_, _, _, hb⟩, hgr⟩

namespace Ns
theorem shl_or (m : Nat) (c : UInt8) (hm : m < 65536) : bits .or .i64 (wrap64 ((m : Int) * 256)) (wrap64 (c.toNat : Int)) = ((m * 256 + c.toNat : Nat) : Int) := by
  have hc := c.toNat_lt
  have e1 : wrap64 ((m : Int) * 256) = (m : Int) * 256 := by unfold wrap64; omega
  have e2 : wrap64 (c.toNat : Int) = (c.toNat : Int) := by unfold wrap64; omega
  rw [e1, e2, bits_join .i64 62 (by decide) (fun n h0 h1 => by rw [IntKind.wrap_i64]; omega) 8 _ _ (by omega) (by omega) (by omega) (by omega) (by omega) (by omega)]
  omega
end Ns
/-- what size answers -/
def SizeQ (x : Except Int (Nat × List UInt8)) (g : Nat) (w : World) (e : Ending) (w' : World) : Prop :=
  w.grownBy w' (some g) ∧ match x with
    | .ok (v, r) => e = .returned (.tuple #[.int .i64 v, .bool true]) ∧ ∃ A n c, RdIs w' g A n c r
    | .error k => e = .returned (.tuple #[.int .i64 0, .bool false]) ∧ RdBad w' g k
theorem SizeQ.ok {x : Except Int (Nat × List UInt8)} {g : Nat} {w w' : World} {e : Ending} {v : Nat} {r : List UInt8} (hx : x = .ok (v, r)) (hg : w.grownBy w' (some g)) (he : e = .returned (.tuple #[.int .i64 v, .bool true])) (hr : ∃ A n c, RdIs w' g A n c r) : SizeQ x g w e w' := by
  subst hx; exact ⟨hg, he, hr⟩
theorem SizeQ.bad {x : Except Int (Nat × List UInt8)} {g : Nat} {w w' : World} {e : Ending} {k : Int} (hx : x = .error k) (hg : w.grownBy w' (some g)) (he : e = .returned (.tuple #[.int .i64 0, .bool false])) (hr : RdBad w' g k) : SizeQ x g w e w' := by
  subst hx; exact ⟨hg, he, hr⟩
theorem RdIs.next {w : World} {g : Nat} {A A' : Option Addr} {n n' c c' : Nat} {l r : List UInt8} (h : RdIs w g A n c l) (hr : RdIs w g A' n' c' r) : n' = r.length := hr.txt.len
set_option maxHeartbeats 1000000 in
theorem rd_size (g k : Nat) (A : Option Addr) (n c : Nat) (l : List UInt8) (w : World) (h : RdIs w g A n c l) (hk : k ≤ 255) :
    Calls Try.prog 65 #[.pointer (some ⟨g, 0, none⟩), .int .i64 k] w fun e w' => SizeQ (Ns.size k l) g w e w' := by
  have hg := h.cells.lt
  by_cases h1 : k ≤ 55
  · have hz := Lib.hid (show Ns.size k l = .ok (k, l) by unfold Ns.size; rw [if_pos h1])
    have h1' : (k : Int) ≤ 55 := by omega
    replace h := Lib.hid h
    go_enter Try.func65, Try.ntmps65
    go_wp2
    go_ret2
    exact SizeQ.ok hz.out (World.grownBy.refl w _) rfl ⟨_, _, _, h.out⟩
  by_cases h2 : 58 < k
  · have hz := Lib.hid (show Ns.size k l = .error 23 by unfold Ns.size; rw [if_neg h1, if_pos h2])
    have h1' : ¬ (k : Int) ≤ 55 := by omega
    have h2' : (58 : Int) < k := by omega
    have hf := rd_fail g _ 23 w h.cells
    replace h := Lib.hid h
    go_enter Try.func65, Try.ntmps65
    go_wp2_with fail
    refine hf.mono ?_
    rintro e w1 ⟨rfl, hb, hgr⟩
    go_wp2_with fail
    go_ret2
    exact SizeQ.bad hz.out hgr rfl ⟨_, _, _, hb⟩
  obtain ⟨m, rfl⟩ : ∃ m, k = m + 55 := ⟨k - 55, by omega⟩
  have hm : m + 55 - 55 = m := by omega
  have h1' : ¬ ((m + 55 : Nat) : Int) ≤ 55 := by omega
  have h2' : ¬ (58 : Int) < ((m + 55 : Nat) : Int) := by omega
  have h3' : IntKind.i64.wrap (((m + 55 : Nat) : Int) - 55) = (m : Int) := by rw [IntKind.wrap_i64]; omega
  by_cases h3 : l.length < m
  · have hz := Lib.hid (show Ns.size (m + 55) l = .error 22 by unfold Ns.size; rw [if_neg h1, if_neg h2, hm, if_pos h3])
    have hf := rd_take_no g m A n c l w h h3
    replace h := Lib.hid h
    go_enter Try.func65, Try.ntmps65
    go_wp2_with fail
    refine hf.mono ?_
    rintro e w1 ⟨rfl, hb, hgr⟩
    go_wp2_with fail
    go_ret2
    exact SizeQ.bad hz.out hgr rfl hb
  have hf := rd_take g m A n c l w h (by omega)
  have hlen := h.txt.len
  have htk := h.txt.takeN (k := m) (by omega)
  replace h := Lib.hid h
  go_enter Try.func65, Try.ntmps65
  go_wp2_with fail
  refine hf.mono ?_
  rintro e w1 ⟨rfl, ⟨A1, hr1⟩, hgr⟩
  have htk1 := htk.grown hgr (Nat.le_refl _) (Nat.le_of_lt hg)
  clear htk hf
  have htl : (l.take m).length = m := by rw [List.length_take]; omega
  have hz := Lib.hid (show Ns.size (m + 55) l = if Wd.tight (l.take m) = false ∨ Wd.rd (l.take m) ≤ 55 then .error 23 else .ok (Wd.rd (l.take m), l.drop m) by unfold Ns.size; rw [if_neg h1, if_neg h2, hm, if_neg h3])
  generalize l.take m = t at htk1 htl hz
  generalize l.drop m = rest at hr1 hz
  clear hlen h3 h
  obtain ⟨hl2, _, _, hrd⟩ := htk1
  clear hm h1 h2
  replace hr1 := Lib.hid hr1
  replace hgr := Lib.hid hgr
  clear hl2
  subst htl
  have hr3 : t.length ≤ 3 := by omega
  have hr0 : 0 < t.length := by omega
  go_wp2
  go_loop [1, 28] (fun n i => ∃ k : Nat, k ≤ t.length ∧ i = .int .i64 k ∧ n = .int .i64 (Wd.rd (t.take k) : Nat)) (fun _ i => t.length - (intOf i).toNat)
  case atStart => exact ⟨0, Nat.zero_le _, rfl, rfl⟩
  case round =>
    obtain ⟨k, hk, rfl, rfl⟩ := hrel
    by_cases hlt : k < t.length
    · obtain ⟨g, o, u, rfl, _, hx, hc⟩ := hrd.at_ (k := k) hlt
      rw [bv_at t k hlt] at hx
      cases hx
      have hlt2 := Wd.rd_lt (t.take k)
      have hb : Wd.rd (t.take k) < 65536 := Nat.lt_of_lt_of_le hlt2 (by rw [List.length_take, Nat.min_eq_left (by omega)]; exact Nat.pow_le_pow_right (n := 256) (i := k) (j := 2) (by omega) (by omega))
      have hs := Ns.shl_or (Wd.rd (t.take k)) t[k] hb
      have he := Wd.rd_snoc (t.take k) t[k]
      rw [← List.take_succ_eq_append_getElem hlt] at he
      rw [← he] at hs
      clear hlt2 hb he
      go_wp2
      refine ⟨⟨k + 1, by omega, by go_num, rfl⟩, ?_⟩
      simp [intOf]; omega
    · obtain rfl : k = t.length := by omega
      rw [List.take_length]
      obtain ⟨g0, o, u, rfl, _, hx, hc⟩ := hrd.at_ (k := 0) hr0
      rw [bv_at t 0 hr0] at hx
      cases hx
      rw [Nat.add_zero] at hc
      have hbad : Ns.size (t.length + 55) l = .error 23 → Hid (RdIs w1 g A1 (n - t.length) (c - t.length) rest) → Calls Try.prog 63 #[.pointer (some ⟨g, 0, none⟩), .int .i64 23] w1 fun e w2 => e = .returned itemZ ∧ SizeQ (Ns.size (t.length + 55) l) g w (.returned (.tuple #[.int .i64 0, .bool false])) w2 := by
        intro e hr
        refine (rd_fail g _ 23 w1 hr.out.cells).mono ?_
        rintro e2 w2 ⟨rfl, hb, hg2⟩
        exact ⟨rfl, SizeQ.bad e (hgr.out.trans hg2) rfl ⟨_, _, _, hb⟩⟩
      have htt : Wd.tight t = (t[0] != 0) := by
        cases t with
        | nil => simp at hr0
        | cons => rfl
      by_cases h0 : t[0] = 0
      · have h0' : (t[0].toNat : Int) = 0 := by rw [h0]; rfl
        have hb := hbad (by rw [hz.out, if_pos (.inl (by rw [htt, h0]; rfl))]) hr1
        clear hbad htt
        go_wp2_with fail
        refine hb.mono ?_
        rintro e w2 ⟨rfl, hq⟩
        go_wp2_with fail
        go_ret2
        exact hq
      · have h0' : ¬ (t[0].toNat : Int) = 0 := fun e => h0 (UInt8.toNat_inj.1 (show t[0].toNat = 0 by omega))
        by_cases h55 : Wd.rd t ≤ 55
        · have h55' : (Wd.rd t : Int) ≤ 55 := by omega
          have hb := hbad (by rw [hz.out, if_pos (.inr h55)]) hr1
          clear hbad htt
          go_wp2_with fail
          refine hb.mono ?_
          rintro e w2 ⟨rfl, hq⟩
          go_wp2_with fail
          go_ret2
          exact hq
        · have h55' : ¬ (Wd.rd t : Int) ≤ 55 := by omega
          have hz2 := Lib.hid (show Ns.size (t.length + 55) l = .ok (Wd.rd t, rest) by
            rw [hz.out, if_neg (by rw [htt]; simp [h0]; omega)])
          clear hbad htt
          go_wp2_with fail
          go_ret2
          exact SizeQ.ok hz2.out hgr.out rfl ⟨_, _, _, hr1.out⟩
end Go.Proofs.Yteknhmhmepnfjaa

/-
  The reader of package nest: item, list.
-/
namespace Go.Proofs.Yteknhmhmepnfjaa
open Go.RowKit

set_option maxHeartbeats 1000000 in
theorem clone_bytes (A : Option Addr) (n c B : Nat) (l : List UInt8) (w : World) (h : Bytes w B A n c l) (hB : B ≤ w.heap.size) (hl : l.length ≤ 140737488355328) :
    Calls Try.prog 40 #[.slice A n c] w (PostB w l) := by
  have hlen := h.len
  rcases A with _ | a
  · have hn : l = [] := by
      rcases Nat.eq_zero_or_pos n with h0 | h0
      · exact List.eq_nil_of_length_eq_zero (by omega)
      · obtain ⟨g, o, e, _⟩ := h.reads.2 h0
        cases e
    subst hn
    have hq := Lib.run_eql_slice_nil w 22 5 none 0 c 0 0 Try.underlying22
    subst hlen
    go_enter Try.func40, Try.ntmps40
    go_wp2
    go_ret
    exact ⟨_, _, _, rfl, NewB.none_ w⟩
  · go_enter Try.func40, Try.ntmps40
    have hq := Lib.run_eql_slice_nil w 22 5 (some a) n c 0 0 Try.underlying22
    have ho := own_lit (n := 0) w #[] [] w.heap.size rfl (by simp [maxLen]) (Nat.le_refl _) rfl
    subst hlen
    go_wp2_with (at_builtin; refine wpList_append_u8 rfl _ _ rfl w.heap.size _ 0 [] rfl ho B _ _ _ l rfl (h.alloc hB _) (by omega) (by simp) ?_; intro A1 c1 w1 hown1 hb1)
    rw [List.nil_append, Nat.zero_add] at hown1
    go_ret
    exact ⟨_, _, _, rfl, by simp, by simpa using hown1, ((Below.refl _ _).alloc (Nat.le_refl _) _).trans hb1⟩

theorem clone_nil (w : World) : Calls Try.prog 40 #[.slice none 0 0] w fun e w' => e = .returned (.slice none 0 0) ∧ w = w' := by
  have hq := Lib.run_eql_slice_nil w 22 5 none 0 0 0 0 Try.underlying22
  go_enter Try.func40, Try.ntmps40
  go_wp2
  go_ret
  exact ⟨rfl, rfl⟩
theorem info_item3 : (Try.prog.info? 48).map (·.size) = some 3 := by kernel_rfl
namespace Ns
theorem size_bad {k : Nat} {l : List UInt8} {e : Int} (h : size k l = .error e) : e = 22 ∨ e = 23 := by
  unfold size at h
  split at h
  · cases h
  · split at h
    · cases h; exact .inr rfl
    · split at h
      · cases h; exact .inl rfl
      · split at h
        · cases h; exact .inr rfl
        · cases h
end Ns
/-- what item answers, and list -/
def ItemQ {d : Nat} (x : Except Int (Ns.It (d + 1) × List UInt8)) (g : Nat) (w : World) (e : Ending) (w' : World) : Prop :=
  w.grownBy w' (some g) ∧ match x with
    | .ok (y, r) => ∃ v, e = .returned v ∧ Sits (Fr w' w.heap.size) w' (d + 1) v y ∧ ∃ A n c, RdIs w' g A n c r
    | .error k => e = .returned itemZ ∧ RdBad w' g k ∧ k ≠ 0
theorem ItemQ.ok {d : Nat} {x : Except Int (Ns.It (d + 1) × List UInt8)} {g : Nat} {w w' : World} {v : Value} {y : Ns.It (d + 1)} {r : List UInt8} (hx : x = .ok (y, r)) (hg : w.grownBy w' (some g))
    (hv : Sits (Fr w' w.heap.size) w' (d + 1) v y) (hr : ∃ A n c, RdIs w' g A n c r) : ItemQ x g w (.returned v) w' := by
  subst hx; exact ⟨hg, v, rfl, hv, hr⟩
theorem ItemQ.bad {d : Nat} {x : Except Int (Ns.It (d + 1) × List UInt8)} {g : Nat} {w w' : World} {k : Int} (hx : x = .error k) (hg : w.grownBy w' (some g)) (hr : RdBad w' g k) (hk : k ≠ 0) : ItemQ x g w (.returned itemZ) w' := by
  subst hx; exact ⟨hg, rfl, hr, hk⟩
def rowZ : Array Value := #[.bool false, .slice none 0 0, .slice none 0 0]
def ItList (d : Nat) (D : Int) : Prop := ∀ (g : Nat) (c0 : UInt8) (A : Option Addr) (n c : Nat) (l : List UInt8) (w : World), RdIs w g A n c l → 192 ≤ c0.toNat →
  Calls Try.prog 64 #[.pointer (some ⟨g, 0, none⟩), .int .i64 ((c0.toNat : Int) - 192), .int .i64 D] w (ItemQ (Ns.item d (c0 :: l)) g w)
theorem RdIs.row {w : World} {g n c R : Nat} {A : Option Addr} {l : List UInt8} (h : RdIs w g A n c l) (hR : g < R) (cs : Array Value) : RdIs (w.setRow R cs) g A n c l :=
  ⟨h.cells.row_far cs (by omega), h.txt.below (below_row (Below.refl g w) (by omega) cs)⟩
theorem RdIs.below {w w' : World} {g n c B : Nat} {A : Option Addr} {l : List UInt8} (h : RdIs w g A n c l) (hb : Below B w w') (hg : g < B) : RdIs w' g A n c l :=
  ⟨h.cells.below hb hg, h.txt.below (hb.mono (Nat.le_of_lt hg))⟩
theorem Sits.text {S : Nat → Prop} {w : World} {d n c : Nat} {A : Option Addr} {b : List UInt8} (hn : n = b.length) (hc : n ≤ c) (hm : c ≤ maxLen) (h : InS S w 1 A n (bv b)) : Sits S w (d + 1) (txV A n c) (Ns.tx b) :=
  ⟨A, n, c, rfl, hn, hc, hm, h⟩
/-- the end: a text of new bytes -/
theorem item_text {d : Nat} {x : Except Int (Ns.It (d + 1) × List UInt8)} {g m c B : Nat} {w w3 : World} {A : Option Addr} {b r : List UInt8} (hx : x = .ok (Ns.tx b, r)) (hg : g < w.heap.size) (hown : w3.ownsRow B 5 1 (.slice A m c) m (bv b))
    (hB : w.heap.size < B) (hm : m = b.length) (hgr : w.grownBy w3 (some g)) (hr : ∃ A n c, RdIs w3 g A n c r) (cs : Array Value) : ItemQ x g w (.returned (txV A m c)) (w3.setRow w.heap.size cs) := by
  have ho := Own.of_row hown
  refine ItemQ.ok hx (grown_row hgr (Nat.le_refl _) _) (Sits.text hm ho.cap ho.lim ((InS.of_ownF ho).move (fun g hg1 hg2 => have h1 := hg1.1; have e := setRow_other w3 w.heap.size g cs (by omega); ⟨hg1.move e (by omega), e⟩) (by simp))) ?_
  obtain ⟨A, n, c, h⟩ := hr
  exact ⟨A, n, c, h.row hg cs⟩
set_option maxHeartbeats 1000000 in
set_option maxRecDepth 100000 in
theorem rd_item_core (d : Nat) (D : Int) (hD : (D = 8 ∧ d = 0) ∨ (D ≠ 8 ∧ 0 < d ∧ ItList d D)) (g : Nat) (A : Option Addr) (n c : Nat) (l : List UInt8) (w : World) (h : RdIs w g A n c l) :
    Calls Try.prog 59 #[.pointer (some ⟨g, 0, none⟩), .int .i64 D] w (ItemQ (Ns.item d l) g w) := by
  have hg := h.cells.lt
  have hr0 : RdIs (w.alloc (.cells rowZ 48)) g A n c l := ⟨h.cells.alloc _, h.txt.alloc (Nat.le_of_lt hg) _⟩
  have hb0 : Blk (w.alloc (.cells rowZ 48)) w.heap.size 48 rowZ := Blk.new w _ _
  have hg0 : w.grownBy (w.alloc (.cells rowZ 48)) (some g) := grown_alloc (World.grownBy.refl w _) _
  clear h
  cases l with
  | nil =>
    have hf := rd_take_no g 1 A n c [] _ hr0 (by simp)
    go_enter Try.func59, Try.ntmps59
    go_wp2_with fail
    refine hf.mono ?_
    rintro e w1 ⟨rfl, hbad, hg1⟩
    have hb1 := hb0.grown hg1 (by omega)
    have hb1l := hb1.lt
    have hgr := hg0.trans hg1
    clear hf hr0 hb0 hg0 hg1
    go_wp2_with (refine wpList_store_row rfl 48 _ _ rfl w.heap.size #[.bool false, .slice none 0 0, .slice none 0 0] rfl rfl _ _ hb1 info_item3 rfl (by simp [Value.oneCell']) ?_)
    go_wp2_with fail
    refine bodyPost_ret (v := .agg #[.bool false, .slice none 0 0, .slice none 0 0]) (results_cell_row rfl _ _ w.heap.size _ #[.bool false, .slice none 0 0, .slice none 0 0] _ _ rfl (hb1.row _) Try.underlying48 rfl info_item3) rfl ?_
    exact ItemQ.bad (Ns.item_nil d) (grown_row hgr (Nat.le_refl _) _) (by obtain ⟨s1, s2, s3, hs⟩ := hbad; exact ⟨s1, s2, s3, hs.row_far _ (by omega)⟩) (by decide)
  | cons c0 l =>
    have hf := rd_take g 1 A n c (c0 :: l) _ hr0 (by simp)
    have htk := hr0.txt.takeN (k := 1) (by have := hr0.txt.len; simp at this; omega)
    go_enter Try.func59, Try.ntmps59
    go_wp2_with fail
    refine hf.mono ?_
    rintro e w1 ⟨rfl, ⟨A1, hr1⟩, hg1⟩
    have hb1 := hb0.grown hg1 (by omega)
    have hb1l := hb1.lt
    have hgr := hg0.trans hg1
    replace htk := htk.grown hg1 (Nat.le_refl _) (by simp; omega)
    clear hf hr0 hb0 hg0 hg1
    have hrd := htk.reads
    clear htk
    obtain ⟨g0, o, u, rfl, _, hx, hc⟩ := hrd.at_ (k := 0) (by omega)
    have hx' : u = .int .u8 (c0.toNat : Int) := by simpa [bv] using hx.symm
    subst hx'
    rw [Nat.add_zero] at hc
    simp only [List.drop_one, List.tail_cons] at hr1
    generalize n - 1 = n1 at hr1
    generalize c - 1 = c1 at hr1
    clear hrd hx
    have hc256 := c0.toNat_lt
    replace hr1 := Lib.hid hr1
    replace hb1 := Lib.hid hb1
    replace hgr := Lib.hid hgr
    replace hD := Lib.hid hD
    by_cases hlow : c0.toNat < 128
    · have hl1 : (c0.toNat : Int) < 128 := by omega
      have hz := Lib.hid (Ns.item_one d c0 l hlow)
      have hown := own_lit (n := 1) w1 #[.int .u8 (c0.toNat : Int)] [c0] w1.heap.size rfl (by simp [maxLen]) (Nat.le_refl _) rfl
      go_wp2_with (refine wpList_store_row rfl 48 _ _ rfl w.heap.size #[.bool false, .slice (some ⟨w1.heap.size, 0, none⟩) 1 1, .slice none 0 0] rfl rfl _ _ (hb1.out.alloc _) info_item3 rfl (by simp [Value.oneCell']) ?_)
      go_wp2_with fail
      refine bodyPost_ret (v := .agg #[.bool false, .slice (some ⟨w1.heap.size, 0, none⟩) 1 1, .slice none 0 0]) (results_cell_row rfl _ _ w.heap.size _ #[.bool false, .slice (some ⟨w1.heap.size, 0, none⟩) 1 1, .slice none 0 0] _ _ rfl ((hb1.out.alloc _).row _) Try.underlying48 rfl info_item3) rfl ?_
      exact item_text hz.out hg hown hb1l rfl (grown_alloc hgr.out _) ⟨_, _, _, hr1.out.cells.alloc _, hr1.out.txt.alloc (by omega) _⟩ _
    by_cases hshort : c0.toNat < 192
    · have hl1 : ¬ (c0.toNat : Int) < 128 := by omega
      have hl2 : ¬ (192 : Int) ≤ (c0.toNat : Int) := by omega
      have e1 : IntKind.i64.wrap ((c0.toNat : Int) - 128) = ((c0.toNat - 128 : Nat) : Int) := by rw [IntKind.wrap_i64]; omega
      have hsz := rd_size g (c0.toNat - 128) A1 n1 c1 l w1 hr1.out (by omega)
      have hx := Ns.item_tx d c0 l hlow hshort
      unfold Ns.textOf at hx
      replace hx := Lib.hid hx
      go_wp2_with fail
      refine hsz.mono ?_
      rintro e w2 ⟨hg2, hq⟩
      have hb2 := Lib.hid (hb1.out.grown hg2 (by omega))
      have hb2l := hb2.out.lt
      have hgr2 := Lib.hid (hgr.out.trans hg2)
      clear hsz hb1 hr1 hgr hg2 hc hb1l e1
      cases hs : Ns.size (c0.toNat - 128) l with
      | error k =>
        rw [hs] at hq
        have hx2 := hx.out
        rw [hs] at hx2
        replace hx2 := Lib.hid hx2
        have hk := Lib.hid (Ns.size_bad hs)
        clear hx hs
        obtain ⟨rfl, hbad⟩ := hq
        go_wp2_with (refine wpList_store_row rfl 48 _ _ rfl w.heap.size #[.bool false, .slice none 0 0, .slice none 0 0] rfl rfl _ _ hb2.out info_item3 rfl (by simp [Value.oneCell']) ?_)
        go_wp2_with fail
        refine bodyPost_ret (v := .agg #[.bool false, .slice none 0 0, .slice none 0 0]) (results_cell_row rfl _ _ w.heap.size _ #[.bool false, .slice none 0 0, .slice none 0 0] _ _ rfl (hb2.out.row _) Try.underlying48 rfl info_item3) rfl ?_
        exact ItemQ.bad hx2.out (grown_row hgr2.out (Nat.le_refl _) _) (by obtain ⟨s1, s2, s3, hs⟩ := hbad; exact ⟨s1, s2, s3, hs.row_far _ (by omega)⟩) (by have := hk.out; omega)
      | ok p =>
        obtain ⟨v, r⟩ := p
        rw [hs] at hq
        have hx2 := hx.out
        rw [hs] at hx2
        replace hx2 := Lib.hid hx2
        have hv24 : v ≤ Ns.maxBytes := (Ns.size_ok (base := 128) (by decide) hs (by omega)).2
        clear hx hs
        obtain ⟨rfl, A2, n2, c2, hr2⟩ := hq
        by_cases hv : r.length < v
        · have hx3 := hx2.out
          simp only [if_pos hv] at hx3
          replace hx3 := Lib.hid hx3
          have hf := rd_take_no g v A2 n2 c2 r w2 hr2 hv
          go_wp2_with fail
          refine hf.mono ?_
          rintro e w3 ⟨rfl, hbad, hg3⟩
          have hb3 := hb2.out.grown hg3 (by omega)
          have hb3l := hb3.lt
          have hgr3 := Lib.hid (hgr2.out.trans hg3)
          clear hf hr2 hgr2 hb2 hg3
          go_wp2_with fail
          refine (clone_nil w3).mono ?_
          rintro e w4 ⟨rfl, rfl⟩
          go_wp2_with (refine wpList_store_row rfl 48 _ _ rfl w.heap.size #[.bool false, .slice none 0 0, .slice none 0 0] rfl rfl _ _ hb3 info_item3 rfl (by simp [Value.oneCell']) ?_)
          go_wp2_with fail
          refine bodyPost_ret (v := .agg #[.bool false, .slice none 0 0, .slice none 0 0]) (results_cell_row rfl _ _ w.heap.size _ #[.bool false, .slice none 0 0, .slice none 0 0] _ _ rfl (hb3.row _) Try.underlying48 rfl info_item3) rfl ?_
          exact ItemQ.bad hx3.out (grown_row hgr3.out (Nat.le_refl _) _) (by obtain ⟨s1, s2, s3, hs⟩ := hbad; exact ⟨s1, s2, s3, hs.row_far _ (by omega)⟩) (by decide)
        · have hf := rd_take g v A2 n2 c2 r w2 hr2 (by omega)
          have htk := hr2.txt.takeN (k := v) (by have := hr2.txt.len; omega)
          have hx3 := hx2.out
          simp only [if_neg hv] at hx3
          replace hx3 := Lib.hid hx3
          clear hx2
          go_wp2_with fail
          refine hf.mono ?_
          rintro e w3 ⟨rfl, ⟨A3, hr3⟩, hg3⟩
          have hb3 := Lib.hid (hb2.out.grown hg3 (by omega))
          have hb3l := hb3.out.lt
          have hgr3 := Lib.hid (hgr2.out.trans hg3)
          replace htk := htk.grown hg3 (Nat.le_refl _) (by omega)
          generalize n2 - v = n3 at hr3
          generalize c2 - v = c3 at hr3
          replace hr3 := Lib.hid hr3
          clear hf hr2 hgr2 hb2 hg3
          by_cases hv1 : v = 1
          · subst hv1
            cases r with
            | nil => simp at hv
            | cons y r =>
            obtain ⟨g4, o4, u, rfl, _, hx, hc⟩ := htk.reads.at_ (k := 0) (by omega)
            have hx' : u = .int .u8 (y.toNat : Int) := by simpa [bv] using hx.symm
            subst hx'
            rw [Nat.add_zero] at hc
            clear hx
            replace htk := Lib.hid htk
            by_cases hy : y.toNat < 128
            · have hy' : (y.toNat : Int) < 128 := by omega
              have hx4 := hx3.out
              rw [if_pos ⟨rfl, hy⟩] at hx4
              replace hx4 := Lib.hid hx4
              clear hx3
              have hf := rd_fail g _ 23 w3 hr3.out.cells
              go_wp2_with fail
              refine hf.mono ?_
              rintro e w4 ⟨rfl, hbad, hg4⟩
              have hb4 := hb3.out.grown hg4 (by omega)
              have hb4l := hb4.lt
              have hgr4 := Lib.hid (hgr3.out.trans hg4)
              clear hf hr3 hgr3 hb3 hg4
              go_wp2_with (refine wpList_store_row rfl 48 _ _ rfl w.heap.size #[.bool false, .slice none 0 0, .slice none 0 0] rfl rfl _ _ hb4 info_item3 rfl (by simp [Value.oneCell']) ?_)
              go_wp2_with fail
              refine bodyPost_ret (v := .agg #[.bool false, .slice none 0 0, .slice none 0 0]) (results_cell_row rfl _ _ w.heap.size _ #[.bool false, .slice none 0 0, .slice none 0 0] _ _ rfl (hb4.row _) Try.underlying48 rfl info_item3) rfl ?_
              exact ItemQ.bad hx4.out (grown_row hgr4.out (Nat.le_refl _) _) ⟨_, _, _, hbad.row_far _ (by omega)⟩ (by decide)
            · have hy' : ¬ (y.toNat : Int) < 128 := by omega
              have hx4 := hx3.out
              rw [if_neg (fun e => hy e.2)] at hx4
              replace hx4 := Lib.hid hx4
              clear hx3
              have hf := clone_bytes _ 1 c2 g _ w3 htk.out (by omega) (by simp)
              go_wp2_with fail
              refine hf.mono ?_
              rintro e w4 ⟨A4, m4, c4, rfl, hm4, hown, hbel⟩
              have hb4 := hb3.out.below hbel hb3l
              have hb4l := hb4.lt
              have hgr4 := Lib.hid (hgr3.out.trans (grown_below hbel))
              have hr4 := hr3.out.below hbel (by omega)
              clear hf hr3 hgr3 hb3
              replace hm4 := Lib.hid hm4
              go_wp2_with (refine wpList_store_row rfl 48 _ _ rfl w.heap.size #[.bool false, .slice A4 m4 c4, .slice none 0 0] rfl rfl _ _ hb4 info_item3 rfl (by simp [Value.oneCell']) ?_)
              go_wp2_with fail
              refine bodyPost_ret (v := .agg #[.bool false, .slice A4 m4 c4, .slice none 0 0]) (results_cell_row rfl _ _ w.heap.size _ #[.bool false, .slice A4 m4 c4, .slice none 0 0] _ _ rfl (hb4.row _) Try.underlying48 rfl info_item3) rfl ?_
              exact item_text hx4.out hg hown hb3l hm4.out hgr4.out ⟨_, _, _, hr4⟩ _
          · have hv1' : ¬ (v : Int) = 1 := by omega
            have hx4 := hx3.out
            rw [if_neg (fun e => hv1 e.1)] at hx4
            replace hx4 := Lib.hid hx4
            clear hx3
            have hf := clone_bytes _ v c2 g _ w3 htk (by omega) (by have := htk.len; unfold Ns.maxBytes at hv24; omega)
            clear htk
            go_wp2_with fail
            refine hf.mono ?_
            rintro e w4 ⟨A4, m4, c4, rfl, hm4, hown, hbel⟩
            have hb4 := hb3.out.below hbel hb3l
            have hb4l := hb4.lt
            have hgr4 := Lib.hid (hgr3.out.trans (grown_below hbel))
            have hr4 := hr3.out.below hbel (by omega)
            clear hf hr3 hgr3 hb3
            replace hm4 := Lib.hid hm4
            go_wp2_with (refine wpList_store_row rfl 48 _ _ rfl w.heap.size #[.bool false, .slice A4 m4 c4, .slice none 0 0] rfl rfl _ _ hb4 info_item3 rfl (by simp [Value.oneCell']) ?_)
            go_wp2_with fail
            refine bodyPost_ret (v := .agg #[.bool false, .slice A4 m4 c4, .slice none 0 0]) (results_cell_row rfl _ _ w.heap.size _ #[.bool false, .slice A4 m4 c4, .slice none 0 0] _ _ rfl (hb4.row _) Try.underlying48 rfl info_item3) rfl ?_
            exact item_text hx4.out hg hown hb3l hm4.out hgr4.out ⟨_, _, _, hr4⟩ _
    · have hl1 : ¬ (c0.toNat : Int) < 128 := by omega
      have hl2 : (192 : Int) ≤ (c0.toNat : Int) := by omega
      have e1 : IntKind.i64.wrap ((c0.toNat : Int) - 192) = (c0.toNat : Int) - 192 := by rw [IntKind.wrap_i64]; omega
      rcases hD.out with ⟨hD8, hd⟩ | ⟨hD8, hd, hlist⟩
      · subst hD8
        subst hd
        have hx := Lib.hid (Ns.item_ls0 c0 l hshort)
        have hf := rd_fail g _ 21 w1 hr1.out.cells
        clear hD
        go_wp2_with fail
        refine hf.mono ?_
        rintro e w4 ⟨rfl, hbad, hg4⟩
        have hb4 := hb1.out.grown hg4 (by omega)
        have hb4l := hb4.lt
        have hgr4 := Lib.hid (hgr.out.trans hg4)
        clear hf hr1 hgr hb1 hg4 hc hb1l
        go_wp2_with (refine wpList_store_row rfl 48 _ _ rfl w.heap.size #[.bool false, .slice none 0 0, .slice none 0 0] rfl rfl _ _ hb4 info_item3 rfl (by simp [Value.oneCell']) ?_)
        go_wp2_with fail
        refine bodyPost_ret (v := .agg #[.bool false, .slice none 0 0, .slice none 0 0]) (results_cell_row rfl _ _ w.heap.size _ #[.bool false, .slice none 0 0, .slice none 0 0] _ _ rfl (hb4.row _) Try.underlying48 rfl info_item3) rfl ?_
        exact ItemQ.bad hx.out (grown_row hgr4.out (Nat.le_refl _) _) ⟨_, _, _, hbad.row_far _ (by omega)⟩ (by decide)
      · have hf := hlist g c0 A1 n1 c1 l w1 hr1.out (by omega)
        clear hlist hD
        go_wp2_with fail
        refine hf.mono ?_
        rintro e w4 ⟨hg4, hq⟩
        have hb4 := hb1.out.grown hg4 (by omega)
        have hb4l := hb4.lt
        have hgr4 := Lib.hid (hgr.out.trans hg4)
        clear hf hr1 hgr hb1 hg4 hc e1
        cases hs : Ns.item d (c0 :: l) with
        | error k =>
          rw [hs] at hq
          replace hs := Lib.hid hs
          obtain ⟨rfl, ⟨s1, s2, s3, hbad⟩, hk⟩ := hq
          replace hk := Lib.hid hk
          go_wp2_with (refine wpList_store_row rfl 48 _ _ rfl w.heap.size #[.bool false, .slice none 0 0, .slice none 0 0] rfl rfl _ _ hb4 info_item3 rfl (by simp [Value.oneCell']) ?_)
          go_wp2_with fail
          refine bodyPost_ret (v := .agg #[.bool false, .slice none 0 0, .slice none 0 0]) (results_cell_row rfl _ _ w.heap.size _ #[.bool false, .slice none 0 0, .slice none 0 0] _ _ rfl (hb4.row _) Try.underlying48 rfl info_item3) rfl ?_
          exact ItemQ.bad hs.out (grown_row hgr4.out (Nat.le_refl _) _) ⟨_, _, _, hbad.row_far _ (by omega)⟩ hk.out
        | ok p =>
          obtain ⟨y, r⟩ := p
          rw [hs] at hq
          replace hs := Lib.hid hs
          obtain ⟨v, rfl, hv, A4, n4, c4, hr4⟩ := hq
          obtain ⟨a, b, c, rfl, _, hone⟩ := hv.cells
          replace hone := Lib.hid hone
          replace hv := Lib.hid hv
          replace hr4 := Lib.hid hr4
          go_wp2_with (refine wpList_store_row rfl 48 _ _ rfl w.heap.size #[a, b, c] rfl rfl _ _ hb4 info_item3 rfl (by have := hone.out; simpa using this) ?_)
          go_wp2_with fail
          refine bodyPost_ret (v := .agg #[a, b, c]) (results_cell_row rfl _ _ w.heap.size _ #[a, b, c] _ _ rfl (hb4.row _) Try.underlying48 rfl info_item3) rfl ?_
          refine ItemQ.ok hs.out (grown_row hgr4.out (Nat.le_refl _) _) (hv.out.move _ _ _ (fun g hg1 hg2 => have h1 := hg1.1; have e := setRow_other w4 w.heap.size g #[a, b, c] (by omega); ⟨hg1.move e (by omega), e⟩) (by simp)) ⟨_, _, _, hr4.out.row hg _⟩
end Go.Proofs.Yteknhmhmepnfjaa

/-
  Regions that draw their order, taken by hand, under a condition S that holds only till one of the operations M has come up: what M's operations await may be taken first.
-/
namespace Go.Proofs.Yteknhmhmepnfjaa
open Go.RowKit
section
variable {P : Program} {ops : Array Oper} {Q : Exit → Act → World → Prop} {md : Region.Mode} {S : World → Prop} {M : List Nat}
def HeldM (M : List Nat) (S : World → Prop) (listed : Array Bool) (w : World) : Prop := (∃ m ∈ M, listed.getD m false = true) ∨ S w
def wpAnyM (P : Program) (md : Region.Mode) (ops : Array Oper) (Q : Exit → Act → World → Prop) (M : List Nat) (S : World → Prop) : Nat → Array Bool → Act → World → Prop
  | 0, listed, a, w => Region.ready md ops listed = [] ∧ Q .normal a w
  | fuel + 1, listed, a, w =>
    (Region.ready md ops listed = [] → Q .normal a w) ∧
    ∀ i ∈ Region.ready md ops listed, wpOp P ops Q i (fun a' w' => HeldM M S (listed.setIfInBounds i true) w' ∧ wpAnyM P md ops Q M S fuel (listed.setIfInBounds i true) a' w') a w
theorem wpAny_of_M : ∀ (fuel : Nat) (listed : Array Bool) (a : Act) (w : World), wpAnyM P md ops Q M S fuel listed a w → wpAny P md ops Q fuel listed a w
  | 0, _, _, _, h => h
  | fuel + 1, _, _, _, h => ⟨h.1, fun i hi => wpOp_mono (fun a' w' h' => wpAny_of_M fuel _ a' w' h'.2) (h.2 i hi)⟩
/-- each of M awaits i, or another of M -/
def late (md : Region.Mode) (ops : Array Oper) (M : List Nat) (i : Nat) : Bool :=
  M.all fun m => match ops[m]? with
    | some o => o.after.any fun e => Region.binds md e && (e.on == i || M.contains e.on)
    | none => false
def unlisted (M : List Nat) (listed : Array Bool) : Bool := M.all fun m => listed.getD m false == false
theorem not_ready {listed : Array Bool} {i j : Nat} (hl : late md ops M i = true) (hu : unlisted M listed = true) (hr : i ∈ Region.ready md ops listed) (hj : j ∈ Region.ready md ops listed) : j ∉ M := by
  intro hM
  obtain ⟨_, o, ho, hall⟩ := mem_ready.1 hj
  have h1 := List.all_eq_true.1 hl j hM
  simp only [ho] at h1
  obtain ⟨e, he, h2⟩ := Array.any_eq_true'.1 h1
  simp only [Bool.and_eq_true, Bool.or_eq_true, beq_iff_eq, List.contains_iff_mem] at h2
  have h3 := hall e he h2.1
  rcases h2.2 with h4 | h4
  · subst h4
    have h0 := (mem_ready.1 hr).1
    rcases Nat.lt_or_ge e.on listed.size with h' | h'
    · simp [h'] at h0 h3; rw [h0] at h3; cases h3
    · simp [Array.getElem?_eq_none h'] at h3
  · have h5 := List.all_eq_true.1 hu e.on h4
    rw [h3] at h5
    cases h5
theorem unlisted_set {listed : Array Bool} {j : Nat} (hu : unlisted M listed = true) (hj : j ∉ M) : unlisted M (listed.setIfInBounds j true) = true := by
  refine List.all_eq_true.2 fun m hm => ?_
  have h := List.all_eq_true.1 hu m hm
  rwa [getD_set_ne false (show j ≠ m from fun e => hj (by rw [e]; exact hm))]
theorem held_out {listed : Array Bool} {w : World} (h : HeldM M S listed w) (hu : unlisted M listed = true) : S w := by
  rcases h with ⟨m, hm, h⟩ | h
  · have h1 := List.all_eq_true.1 hu m hm
    rw [h] at h1
    cases h1
  · exact h
theorem wpAnyM_first {i : Nat} {oi : Oper} {v : Value} (hi : ops[i]? = some oi) (hsel : ∀ (j : Nat) (o : Oper) cs b, ops[j]? = some o → o.op ≠ .select cs b)
    (hQ : ∀ c a w, Q (.panic c) (a.put oi.dst v) w → Q (.panic c) a w) (hl : late md ops M i = true) (hiM : i ∉ M) :
    ∀ (fuel : Nat) (listed : Array Bool) (a : Act) (w : World), unlisted M listed = true →
      (∀ j oj, ops[j]? = some oj → j ≠ i → listed.getD j true = false → (∀ e ∈ oj.after, Region.binds md e = true → e.on ≠ i) → oi.apart ops oj = true) →
      i ∈ Region.ready md ops listed → YieldsIf P ops S oi v a → S w →
      wpAnyM P md ops Q M S fuel (listed.setIfInBounds i true) (a.put oi.dst v) w → wpAnyM P md ops Q M S (fuel + 1) listed a w := by
  intro fuel
  induction fuel with
  | zero =>
    intro listed a w hu _ hr hy hS H
    refine ⟨fun h => (by rw [h] at hr; cases hr), fun j hj => ?_⟩
    by_cases hji : j = i
    · subst hji; exact hy.wpOp hi hS ⟨.inr hS, H⟩
    · have := ready_mono hj hji
      rw [H.1] at this
      cases this
  | succ fuel ih =>
    intro listed a w hu hfree hr hy hS H
    refine ⟨fun h => (by rw [h] at hr; cases hr), fun j hj => ?_⟩
    by_cases hji : j = i
    · subst hji; exact hy.wpOp hi hS ⟨.inr hS, H⟩
    · have hjM := not_ready hl hu hr hj
      have hu2 : unlisted M (listed.setIfInBounds j true) = true := unlisted_set hu hjM
      have hu3 : unlisted M ((listed.setIfInBounds i true).setIfInBounds j true) = true := unlisted_set (unlisted_set hu hiM) hjM
      have h1 := H.2 j (ready_mono hj hji)
      obtain ⟨hjun, oj, hoj, hall⟩ := mem_ready.1 hj
      have hnot : ∀ e ∈ oj.after, Region.binds md e = true → e.on ≠ i := fun e he hb heq => by
        have h1 := hall e he hb
        have h0 := (mem_ready.1 hr).1
        rw [heq] at h1
        rcases Nat.lt_or_ge i listed.size with h' | h'
        · simp [h'] at h0 h1; rw [h0] at h1; cases h1
        · simp [Array.getElem?_eq_none h'] at h1
      have h2 := wpOp_putIf hoj (hfree j oj hoj hji hjun hnot) (fun cs b => hsel i oi cs b hi) (fun cs b => hsel j oj cs b hoj) hQ hy h1
      have hfree' : ∀ k ok, ops[k]? = some ok → k ≠ i → (listed.setIfInBounds j true).getD k true = false →
          (∀ e ∈ ok.after, Region.binds md e = true → e.on ≠ i) → oi.apart ops ok = true := fun k ok hk hki hun hno => by
        refine hfree k ok hk hki ?_ hno
        by_cases hjk : j = k
        · subst hjk; exact hjun
        · rw [getD_set_ne true hjk] at hun; exact hun
      refine wpOp_mono (fun a' w' h3 => ?_) h2
      have hSw := held_out h3.2.1 hu3
      refine ⟨.inr hSw, ih (listed.setIfInBounds j true) a' w' hu2 hfree' (ready_mono hr (Ne.symm hji)) h3.1 hSw ?_⟩
      rw [Array.setIfInBounds_comm _ _ hji]
      exact h3.2.2
theorem held_set {listed : Array Bool} {i : Nat} {w : World} (h : HeldM M S listed w) : HeldM M S (listed.setIfInBounds i true) w := by
  rcases h with ⟨m, hm, h⟩ | h
  · exact .inl ⟨m, hm, getD_set_true h⟩
  · exact .inr h
theorem held_less {listed : Array Bool} {i : Nat} {w : World} (hi : i ∉ M) (h : HeldM M S (listed.setIfInBounds i true) w) : HeldM M S listed w := by
  rcases h with ⟨m, hm, h⟩ | h
  · exact .inl ⟨m, hm, by rwa [getD_set_ne false (show i ≠ m from fun e => hi (by rw [e]; exact hm))] at h⟩
  · exact .inr h
theorem wpAnyM_pure {i : Nat} {oi : Oper} {v : Value} (hi : ops[i]? = some oi) (hsel : ∀ (j : Nat) (o : Oper) cs b, ops[j]? = some o → o.op ≠ .select cs b)
    (hQ : ∀ c a w, Q (.panic c) (a.put oi.dst v) w → Q (.panic c) a w) (hiM : i ∉ M) :
    ∀ (fuel : Nat) (listed : Array Bool) (a : Act) (w : World), HeldM M S listed w →
      (∀ j oj, ops[j]? = some oj → j ≠ i → listed.getD j true = false → (∀ e ∈ oj.after, Region.binds md e = true → e.on ≠ i) → oi.apart ops oj = true) →
      i ∈ Region.ready md ops listed → YieldsIf P ops (fun _ => True) oi v a →
      wpAnyM P md ops Q M S fuel (listed.setIfInBounds i true) (a.put oi.dst v) w → wpAnyM P md ops Q M S (fuel + 1) listed a w := by
  intro fuel
  induction fuel with
  | zero =>
    intro listed a w hS _ hr hy H
    refine ⟨fun h => (by rw [h] at hr; cases hr), fun j hj => ?_⟩
    by_cases hji : j = i
    · subst hji; exact hy.wpOp hi trivial ⟨held_set hS, H⟩
    · have := ready_mono hj hji
      rw [H.1] at this
      cases this
  | succ fuel ih =>
    intro listed a w hS hfree hr hy H
    refine ⟨fun h => (by rw [h] at hr; cases hr), fun j hj => ?_⟩
    by_cases hji : j = i
    · subst hji; exact hy.wpOp hi trivial ⟨held_set hS, H⟩
    · have h1 := H.2 j (ready_mono hj hji)
      obtain ⟨hjun, oj, hoj, hall⟩ := mem_ready.1 hj
      have hnot : ∀ e ∈ oj.after, Region.binds md e = true → e.on ≠ i := fun e he hb heq => by
        have h1 := hall e he hb
        have h0 := (mem_ready.1 hr).1
        rw [heq] at h1
        rcases Nat.lt_or_ge i listed.size with h' | h'
        · simp [h'] at h0 h1; rw [h0] at h1; cases h1
        · simp [Array.getElem?_eq_none h'] at h1
      have h2 := wpOp_putIf hoj (hfree j oj hoj hji hjun hnot) (fun cs b => hsel i oi cs b hi) (fun cs b => hsel j oj cs b hoj) hQ hy h1
      have hfree' : ∀ k ok, ops[k]? = some ok → k ≠ i → (listed.setIfInBounds j true).getD k true = false →
          (∀ e ∈ ok.after, Region.binds md e = true → e.on ≠ i) → oi.apart ops ok = true := fun k ok hk hki hun hno => by
        refine hfree k ok hk hki ?_ hno
        by_cases hjk : j = k
        · subst hjk; exact hjun
        · rw [getD_set_ne true hjk] at hun; exact hun
      refine wpOp_mono (fun a' w' h3 => ?_) h2
      have hSw : HeldM M S (listed.setIfInBounds j true) w' := held_less hiM (by rw [Array.setIfInBounds_comm _ _ hji]; exact h3.2.1)
      refine ⟨hSw, ih (listed.setIfInBounds j true) a' w' hSw hfree' (ready_mono hr (Ne.symm hji)) h3.1 ?_⟩
      rw [Array.setIfInBounds_comm _ _ hji]
      exact h3.2.2
theorem wpAnyM_done {listed : Array Bool} {a : Act} {w : World} (hr : Region.ready md ops listed = []) (h : Q .normal a w) :
    ∀ fuel, wpAnyM P md ops Q M S fuel listed a w
  | 0 => ⟨hr, h⟩
  | _ + 1 => ⟨fun _ => h, by rw [hr]; simp⟩
theorem wp_region_M {id : Nat} {a : Act} {w : World} (hm : P.follows .mixedOrders = true) (hS : S w.drew)
    (h : S w.drew → wpAnyM P .any ops Q M S ops.size (Array.replicate ops.size false) a w.drew) : (Code.region id ops true).wp P Q a w :=
  wp_region_any hm (wpAny_of_M _ _ _ _ (h hS))
end
section
variable {P : Program} {md : Region.Mode} {Q : Exit → Act → World → Prop} {S : World → Prop} {M : List Nat}
theorem mTake {l r : List Oper} {i : Nat} {oi : Oper} {v : Value} {fuel : Nat} {listed : Array Bool} {a : Act} {w : World} (hi : l.drop i = oi :: r)
    (hs : (Region.noSelect l.toArray && (Region.free md l.toArray listed i && ((Region.ready md l.toArray listed).contains i && (late md l.toArray M i && (!M.contains i && unlisted M listed))))) = true)
    (hQ : ∀ c a w, Q (.panic c) (a.put oi.dst v) w → Q (.panic c) a w) (hy : YieldsIf P l.toArray S oi v a) (hS : S w)
    (h : wpAnyM P md l.toArray Q M S fuel (listed.setIfInBounds i true) (a.put oi.dst v) w) : wpAnyM P md l.toArray Q M S (fuel + 1) listed a w := by
  simp only [Bool.and_eq_true, Bool.not_eq_true'] at hs
  obtain ⟨h1, h2, h3, h4, h5, h6⟩ := hs
  exact wpAnyM_first (at_drop hi) (Region.noSelect_spec h1) hQ h4 (by simpa using h5) fuel listed a w h6 (Region.free_spec (at_drop hi) h2) (by simpa using h3) hy hS h
/-- one that yields whatever the world -/
theorem mPure {l r : List Oper} {i : Nat} {oi : Oper} {v : Value} {fuel : Nat} {listed : Array Bool} {a : Act} {w : World} (hi : l.drop i = oi :: r)
    (hs : (Region.noSelect l.toArray && (Region.free md l.toArray listed i && ((Region.ready md l.toArray listed).contains i && !M.contains i))) = true)
    (hQ : ∀ c a w, Q (.panic c) (a.put oi.dst v) w → Q (.panic c) a w) (hy : YieldsIf P l.toArray (fun _ => True) oi v a) (hS : HeldM M S listed w)
    (h : wpAnyM P md l.toArray Q M S fuel (listed.setIfInBounds i true) (a.put oi.dst v) w) : wpAnyM P md l.toArray Q M S (fuel + 1) listed a w := by
  simp only [Bool.and_eq_true, Bool.not_eq_true'] at hs
  obtain ⟨h1, h2, h3, h5⟩ := hs
  exact wpAnyM_pure (at_drop hi) (Region.noSelect_spec h1) hQ (by simpa using h5) fuel listed a w hS (Region.free_spec (at_drop hi) h2) (by simpa using h3) hy h
/-- the one that is ready -/
theorem mOne {l r : List Oper} {i : Nat} {o : Oper} {fuel : Nat} {listed : Array Bool} {a : Act} {w : World} (hi : l.drop i = o :: r) (hr : Region.ready md l.toArray listed = [i])
    (h : ∀ K' : Act → World → Prop, Shut (∀ a w, HeldM M S (listed.setIfInBounds i true) w → wpAnyM P md l.toArray Q M S fuel (listed.setIfInBounds i true) a w → K' a w) → if Region.wanted o (yielded l.toArray a.tmps) = true then Oper.wp P o a w K' Q else K' (a.put o.dst undef) w) :
    wpAnyM P md l.toArray Q M S (fuel + 1) listed a w := by
  refine ⟨fun h0 => absurd (hr ▸ h0) (by simp), fun j hj => ?_⟩
  rw [hr, List.mem_singleton] at hj
  subst hj
  exact wpOp_step (at_drop hi) (fun K' hK => h K' (fun a w hS hW => hK a w ⟨hS, hW⟩))
end
end Go.Proofs.Yteknhmhmepnfjaa
