/-
  Texts of a proof, one behind the other: Mem, By, DigP, Dig1, Mid, Reg, Blk, Dig2, Dig3, Dig4, DgV, Dig5, Dig6, RDig1, RDig2, RDig3, DgK.
-/
import Derived.Below
import Derived.Laws.OwnMore
import Derived.Deep.AppendLies
import Derived.Deep.Draws
import Derived.Laws.Rows
import Derived.Maps.AppendAt
import Derived.RegionTactic
import Derived.OwnWalk
import Derived.Lib.Hide
import Derived.Laws.BytesArg
import Derived.Lib.Bytealg
import Derived.Test.YtioanppnkhiokaaRows
import Derived.WalkKit
import Derived.WalkSpells
import Derived.Deep.RegionHeld3
import Derived.Laws.BitsAllLaws
import Derived.Laws.BitsLemmas
import Derived.BigQuiet
import Derived.Deep.QuietTactic
import Derived.StillTailTactics
import Derived.Deep.MidRow
import Derived.WalkMore
import Derived.Still
import Derived.Deep.LoopGhost
import Derived.Deep.RegionLaw
import Derived.Lib.AppendZeros
import Derived.Maps.Keyed
import Derived.Maps.Own
import Derived.DeepKeys4
import Derived.DeepKeys
/-
  Memory words: slices that read as lists, whole blocks, append onto a row of the call's own.
-/
namespace Go.Proofs.Ytioanppnkhiokaa
open Go.RowKit

theorem add_mk (g o j : Nat) : (⟨g, o, none⟩ : Addr).add j = ⟨g, o + j, none⟩ := by unfold Addr.add; split <;> simp_all

/-- the slice value '.slice A n c' holds the cells xs, below block B -/
def Reads (w : World) (B size : Nat) (A : Option Addr) (n : Nat) (xs : List Value) : Prop :=
  xs.length = n * size ∧ (0 < n → ∃ g o, A = some ⟨g, o, none⟩ ∧ g < B ∧ ∀ j u, xs[j]? = some u → w.cell? ⟨g, o + j, none⟩ = some u)

section
variable {w w' : World} {B B' size n : Nat} {A : Option Addr} {xs : List Value}
theorem Reads.none_ : Reads w B size A 0 [] := ⟨by simp, fun h => absurd h (by omega)⟩
theorem Reads.at_ {k : Nat} (h : Reads w B 1 A n xs) (hk : k < n) : ∃ g o u, A = some ⟨g, o, none⟩ ∧ g < B ∧ xs[k]? = some u ∧ w.cell? ⟨g, o + k, none⟩ = some u := by
  obtain ⟨g, o, e, hb, hc⟩ := h.2 (by omega)
  have hl : k < xs.length := by have := h.1; omega
  exact ⟨g, o, xs[k], e, hb, List.getElem?_eq_getElem hl, hc k _ (List.getElem?_eq_getElem hl)⟩
theorem Reads.keep (h : Reads w B size A n xs) (hk : ∀ p : Addr, p.block < B → w'.cell? p = w.cell? p) : Reads w' B size A n xs :=
  ⟨h.1, fun hn => by
    obtain ⟨g, o, e, hb, hc⟩ := h.2 hn
    exact ⟨g, o, e, hb, fun j u hu => (hk ⟨g, o + j, none⟩ hb).trans (hc j u hu)⟩⟩
theorem Reads.more (h : Reads w B size A n xs) (hB : B ≤ B') : Reads w B' size A n xs :=
  ⟨h.1, fun hn => by
    obtain ⟨g, o, e, hb, hc⟩ := h.2 hn
    exact ⟨g, o, e, by omega, hc⟩⟩
theorem Reads.below (h : Reads w B size A n xs) (hb : Below B w w') : Reads w' B size A n xs := h.keep fun _ hp => hb.cell hp
theorem Reads.drew (h : Reads w B size A n xs) : Reads w.drew B size A n xs := h
theorem Reads.drewN (h : Reads w B size A n xs) (k : Nat) : Reads (w.drewN k) B size A n xs := h
theorem Reads.alloc (h : Reads w B size A n xs) (hB : B ≤ w.heap.size) (o : Obj) : Reads (w.alloc o) B size A n xs := h.keep fun p hp => World.cell?_alloc_lt w o p (by omega)
theorem Reads.setCell (h : Reads w B size A n xs) {p : Addr} (hB : B ≤ p.block) (u : Value) : Reads (w.setCell p u) B size A n xs :=
  h.keep fun q hq => World.cell?_setCell_other w p q u (fun e => by subst e; omega)
theorem Reads.grown (h : Reads w B size A n xs) {row : Option Nat} (hg : w.grownBy w' row) (hB : B ≤ w.heap.size) (hr : ∀ g, row = some g → B ≤ g) : Reads w' B size A n xs :=
  h.keep fun p hp => World.cell?_of_block (hg.block p.block (by omega) (fun e => by have := hr _ e.symm; omega))
/-- 'x[k:]' -/
theorem Reads.cut (h : Reads w B size A n xs) {k cap : Nat} (hk : k ≤ n) (hc : n ≤ cap) :
    Reads w B size (if cap = k then A else A.map (·.add (k * size))) (n - k) (xs.drop (k * size)) := by
  refine ⟨by rw [List.length_drop, h.1, Nat.sub_mul], fun hn => ?_⟩
  obtain ⟨g, o, rfl, hb, hcell⟩ := h.2 (by omega)
  rw [if_neg (by omega)]
  refine ⟨g, o + k * size, by simp only [Option.map_some, add_mk], hb, fun j u hu => ?_⟩
  rw [Nat.add_assoc]
  exact hcell _ u (by rw [← hu, List.getElem?_drop])
/-- 'x[:k]' -/
theorem Reads.take (h : Reads w B size A n xs) {k : Nat} (hk : k ≤ n) : Reads w B size A k (xs.take (k * size)) := by
  refine ⟨by rw [List.length_take, h.1, Nat.min_eq_left (Nat.mul_le_mul_right _ hk)], fun hn => ?_⟩
  obtain ⟨g, o, rfl, hb, hcell⟩ := h.2 (by omega)
  refine ⟨g, o, rfl, hb, fun j u hu => hcell j u ?_⟩
  rw [List.getElem?_take] at hu
  split at hu
  · exact hu
  · cases hu
theorem Reads.of_own {base : Nat} {e : TypeId} {c : Nat} (h : w.ownsRow base e size (.slice A n c) n xs) : Reads w w.heap.size size A n xs := by
  refine ⟨h.1, fun hn => ?_⟩
  obtain ⟨g, cap, hv, _, hlt⟩ := h.form hn
  have hA : A = some ⟨g, 0, none⟩ := by injection hv
  subst hA
  refine ⟨g, 0, rfl, hlt, fun j u hu => ?_⟩
  have := h.cells (g := g) rfl j u hu
  rwa [add_mk] at this
end

theorem below_drewN {B : Nat} {a w : World} (h : Below B a w) (n : Nat) : Below B a (w.drewN n) := ⟨h.os, h.tape, h.output, h.size, h.block⟩

/-- bytes as values -/
def bv (l : List UInt8) : List Value := l.map fun b => Value.int .u8 (b.toNat : Int)
theorem bv_length (l : List UInt8) : (bv l).length = l.length := by simp [bv]
theorem bv_at (l : List UInt8) (k : Nat) (h : k < l.length) : (bv l)[k]? = some (.int .u8 (l[k].toNat : Int)) := by
  simp [bv, h]
theorem bv_one (l : List UInt8) : ∀ u ∈ bv l, u.oneCell' = true := by
  intro u hu
  simp only [bv, List.mem_map] at hu
  obtain ⟨_, _, rfl⟩ := hu
  rfl

/-- the slice '.slice A n c' holds the bytes l, below block B -/
structure Bytes (w : World) (B : Nat) (A : Option Addr) (n c : Nat) (l : List UInt8) : Prop where
  len : n = l.length
  cap : n ≤ c
  lim : c ≤ maxLen
  reads : Reads w B 1 A n (bv l)

section
variable {w w' : World} {B B' n c : Nat} {A : Option Addr} {l : List UInt8}
theorem Bytes.at_ (h : Bytes w B A n c l) {k : Nat} (hk : k < l.length) : ∃ g o, A = some ⟨g, o, none⟩ ∧ g < B ∧ w.cell? ⟨g, o + k, none⟩ = some (.int .u8 (l[k].toNat : Int)) := by
  obtain ⟨g, o, u, e, hb, hx, hc⟩ := h.reads.at_ (k := k) (by have := h.len; omega)
  rw [bv_at l k hk] at hx
  cases hx
  exact ⟨g, o, e, hb, hc⟩
theorem Bytes.below (h : Bytes w B A n c l) (hb : Below B w w') : Bytes w' B A n c l := ⟨h.len, h.cap, h.lim, h.reads.below hb⟩
theorem Bytes.more (h : Bytes w B A n c l) (hb : B ≤ B') : Bytes w B' A n c l := ⟨h.len, h.cap, h.lim, h.reads.more hb⟩
end


theorem bv_append (a b : List UInt8) : bv (a ++ b) = bv a ++ bv b := by simp [bv]
theorem bv_nums (l : List UInt8) : bv l = (l.map fun b => (b.toNat : Int)).map (Value.int .u8) := by simp [bv]
theorem strOf_bytes (l : List UInt8) : strOfNums (l.map fun b => (b.toNat : Int)) = ⟨l.toArray⟩ := by
  unfold strOfNums
  rw [List.map_map, show ((fun n : Int => UInt8.ofNat n.toNat) ∘ fun b : UInt8 => (b.toNat : Int)) = id from by funext b; simp, List.map_id]

section
variable {P : Program} {w : World} {B n c : Nat} {A : Option Addr} {l : List UInt8}
/-- 'string(b)' -/
theorem Bytes.toStr (h : Bytes w B A n c l) {src e : TypeId} (hs : P.underlying src = some (.slice e)) (he : P.underlying e = some (.int .u8)) :
    ∀ dst, P.underlying dst = some .string → (convert src dst (.slice A n c)).run P w = .ok (.string ⟨l.toArray⟩) w := by
  obtain ⟨hlen, _, _, hr⟩ := h
  subst hlen
  rcases Nat.eq_zero_or_pos l.length with h0 | h0
  · have hl : l = [] := List.eq_nil_of_length_eq_zero h0
    subst hl
    intro dst hd
    rw [run_convert_bytes_string w src dst e _ _ c hs he hd]
    rcases A with _ | ad
    · simp [Conv.bytesToString]; rfl
    · simp [Conv.bytesToString, loadCells, loadCellsFrom]; rfl
  · obtain ⟨g, o, rfl, _, hc⟩ := hr.2 h0
    have := run_convert_bytes_arg (P := P) w src e hs he g o l.length c (l.map fun b => (b.toNat : Int)) (by simp) (fun i hi => by
      have h1 := hc i _ (bv_at l i hi)
      rw [h1]
      simp [List.getD, hi])
    rw [strOf_bytes] at this
    exact this
/-- what bytealg.Compare and its kin read -/
theorem Bytes.ofVal (h : Bytes w B A n c l) : (Extern.Bytes.bytesOf (.slice A n c)).run P w = .ok ⟨l.toArray⟩ w := by
  obtain ⟨hlen, _, _, hr⟩ := h
  subst hlen
  have key : ∀ (m : List UInt8) (g o : Nat) (acc : List UInt8), (∀ j (h : j < m.length), w.cell? ⟨g, o + j, none⟩ = some (.int .u8 (m[j].toNat : Int))) →
      (Extern.Bytes.loadBytes ⟨g, o, none⟩ m.length ⟨acc.toArray⟩).run P w = .ok ⟨(acc ++ m).toArray⟩ w := by
    intro m
    induction m with
    | nil => intro g o acc _; simp [Extern.Bytes.loadBytes]
    | cons x m ih =>
      intro g o acc hc
      have h0 := hc 0 (by simp)
      simp only [Nat.add_zero, List.getElem_cons_zero] at h0
      have h1 := ih g (o + 1) (acc ++ [x]) (fun j hj => by
        have := hc (j + 1) (by simp; omega)
        rw [show o + 1 + j = o + (j + 1) by omega]
        simpa using this)
      simp only [List.length_cons, Extern.Bytes.loadBytes]
      have hx : (ByteArray.push ⟨acc.toArray⟩ ((x.toNat : Int).toNat.toUInt8)) = ⟨(acc ++ [x]).toArray⟩ := by
        simp [ByteArray.push]
      have hl : (load (⟨g, o, none⟩ : Addr)).run P w = .ok (.int .u8 (x.toNat : Int)) w := by simp [h0]
      simp only [Sem.run_bind, hl, Result.andThen_ok, add_mk, hx]
      simpa using h1
  rcases Nat.eq_zero_or_pos l.length with h0 | h0
  · have hl : l = [] := List.eq_nil_of_length_eq_zero h0
    subst hl
    rcases A with _ | ad
    · simp [Extern.Bytes.bytesOf]; rfl
    · simp [Extern.Bytes.bytesOf, Extern.Bytes.loadBytes]; rfl
  · obtain ⟨g, o, rfl, _, hc⟩ := hr.2 h0
    have := key l g o [] (fun j hj => hc j _ (bv_at l j hj))
    simp only [Extern.Bytes.bytesOf]
    exact this
end

/-- what a call has made: the slice '.slice A n c' over a block from B on, not frozen; it may begin in the block's middle -/
structure Own (w : World) (B : Nat) (e : TypeId) (size : Nat) (A : Option Addr) (n c : Nat) (xs : List Value) : Prop where
  len : xs.length = n * size
  cap : n ≤ c
  lim : c ≤ maxLen
  nil : A = none → c = 0
  blk : 0 < c → ∃ g off cur, A = some ⟨g, off, none⟩ ∧ B ≤ g ∧ w.heap[g]? = some (.cells cur e (0, 0)) ∧ off + c * size ≤ cur.size ∧ (cur.toList.drop off).take (n * size) = xs

section
variable {w w' : World} {B B' size n c : Nat} {e : TypeId} {A : Option Addr} {xs : List Value}
theorem Own.reads (h : Own w B e size A n c xs) : Reads w w.heap.size size A n xs := by
  refine ⟨h.len, fun hn => ?_⟩
  obtain ⟨g, off, cur, rfl, hb, hg, hsz, ht⟩ := h.blk (by have := h.cap; omega)
  have hlt : g < w.heap.size := (Array.getElem?_eq_some_iff.1 hg).1
  refine ⟨g, off, rfl, hlt, fun j u hu => ?_⟩
  rw [cell_of_row w g (off + j) cur e (0, 0) hg]
  rw [← ht, List.getElem?_take] at hu
  split at hu
  · rw [List.getElem?_drop] at hu; simpa using hu
  · cases hu
/-- 'x[k:]' -/
theorem Own.cut (h : Own w B e size A n c xs) {k : Nat} (hk : k ≤ n) : Own w B e size (if c = k then A else A.map (·.add (k * size))) (n - k) (c - k) (xs.drop (k * size)) := by
  refine ⟨by rw [List.length_drop, h.len, Nat.sub_mul], by have := h.cap; omega, by have := h.lim; omega, fun hn => ?_, fun hc => ?_⟩
  · split at hn
    · omega
    · have : c = 0 := h.nil (by simpa using hn)
      omega
  obtain ⟨g, off, cur, rfl, hb, hg, hsz, ht⟩ := h.blk (by omega)
  rw [if_neg (by omega)]
  have hkc : k * size + (c - k) * size = c * size := by rw [← Nat.add_mul]; congr 1; omega
  have hkn : k * size + (n - k) * size = n * size := by rw [← Nat.add_mul]; congr 1; omega
  refine ⟨g, off + k * size, cur, by simp only [Option.map_some, add_mk], hb, hg, by omega, ?_⟩
  rw [← ht, List.drop_take, List.drop_drop]
  congr 1
  omega
theorem Own.below {w' : World} (h : Own w B e size A n c xs) {B' : Nat} (hb : Below B' w w') (hB : w.heap.size ≤ B') : Own w' B e size A n c xs := by
  refine ⟨h.len, h.cap, h.lim, h.nil, fun hc => ?_⟩
  obtain ⟨g, off, cur, rfl, hb', hg, r⟩ := h.blk hc
  exact ⟨g, off, cur, rfl, hb', by rw [hb.block g (by have := (Array.getElem?_eq_some_iff.1 hg).1; omega)]; exact hg, r⟩
theorem Own.less {B' : Nat} (h : Own w B e size A n c xs) (hB : B' ≤ B) : Own w B' e size A n c xs := by
  refine ⟨h.len, h.cap, h.lim, h.nil, fun hc => ?_⟩
  obtain ⟨g, off, cur, rfl, hb', r⟩ := h.blk hc
  exact ⟨g, off, cur, rfl, by omega, r⟩
theorem Own.of_row (h : w.ownsRow B e size (.slice A n c) n xs) : Own w B e size A n c xs := by
  refine ⟨h.1, ?_, ?_, fun hn => ?_, fun hc => ?_⟩
  · rcases h.2 with ⟨h1, h2⟩ | ⟨g, cap, cur, hv, _, _, hnc, _, _⟩
    · omega
    · simp only [Value.slice.injEq] at hv; obtain ⟨_, _, rfl⟩ := hv; exact hnc
  · rcases h.2 with ⟨h1, h2⟩ | ⟨g, cap, cur, hv, _, _, _, hm, _⟩
    · simp only [Value.slice.injEq] at h1; obtain ⟨_, _, rfl⟩ := h1; exact Nat.zero_le _
    · simp only [Value.slice.injEq] at hv; obtain ⟨_, _, rfl⟩ := hv; exact hm
  · subst hn
    rcases h.2 with ⟨h1, h2⟩ | ⟨g, cap, cur, hv, _⟩
    · simp only [Value.slice.injEq] at h1; exact h1.2.2
    · simp at hv
  · rcases h.2 with ⟨h1, h2⟩ | ⟨g, cap, cur, hv, hb, hg, hnc, hm, hs, ht⟩
    · simp only [Value.slice.injEq] at h1; omega
    · simp only [Value.slice.injEq] at hv
      obtain ⟨rfl, _, rfl⟩ := hv
      exact ⟨g, 0, cur, rfl, hb, hg, by omega, by simpa using ht⟩
end

section
variable {P : Program} (w : World)

theorem run_append_of_nil (base : Nat) (t ty e : TypeId) (i : TypeInfo) (size : Nat) (ht : P.underlying t = some (.slice e)) (hi : P.info? e = some i)
    (v : Value) (n : Nat) (xs : List Value) (hown : w.ownsRow base e size v n xs) (c : Nat) : (Builtin.append_ #[t, t] ty #[v, .slice none 0 c]).run P w = .ok v w := by
  rcases hown.2 with ⟨rfl, rfl⟩ | ⟨g, cap, cur, rfl, _, _, hnc, _⟩
  · simp [Builtin.append_, run_underlying ht, sizeOf, typeInfo, hi, Builtin.lenOf, Builtin.firstCells]
  · simp [Builtin.append_, run_underlying ht, sizeOf, typeInfo, hi, Builtin.lenOf, Builtin.firstCells, hnc, storeCells]

theorem run_append_any (base : Nat) (t ty e : TypeId) (i : TypeInfo) (z : Value) (size bytes : Nat) (ht : P.underlying t = some (.slice e)) (hi : P.info? e = some i) (hz : i.zero = some z)
    (hsize : i.size = size) (hby : i.bytes = bytes) (hzs : z.cells.size = size) (hsz : 0 < size)
    (v : Value) (n : Nat) (xs : List Value) (hown : w.ownsRow base e size v n xs)
    (B : Nat) (A : Option Addr) (m c : Nat) (news : List Value) (hr : Reads w B size A m news) (h1 : ∀ u ∈ news, u.oneCell' = true)
    (h63 : n + m ≤ maxLen) (hbytes : (n + m) * bytes ≤ 140737488355328) (hbase : base ≤ w.heap.size) :
    ∃ v' w', (Builtin.append_ #[t, t] ty #[v, .slice A m c]).run P w = .ok v' w' ∧ w'.ownsRow base e size v' (n + m) (xs ++ news) ∧ w.grownBy w' v.ownBlock ∧
      (v'.ownBlock = v.ownBlock ∨ v'.ownBlock = some w.heap.size) := by
  rcases A with _ | ad
  · have hm : m = 0 := by
      rcases Nat.eq_zero_or_pos m with h0 | h0
      · exact h0
      · obtain ⟨g, o, h, _⟩ := hr.2 h0
        cases h
    subst hm
    have hn : news = [] := List.eq_nil_of_length_eq_zero (by simpa using hr.1)
    subst hn
    exact ⟨v, w, run_append_of_nil w base t ty e i size ht hi v n xs hown c, by simpa using hown, World.grownBy.refl w _, .inl rfl⟩
  · have hcells : ∀ j u, news[j]? = some u → w.cell? (ad.add j) = some u := by
      intro j u hu
      rcases Nat.eq_zero_or_pos m with h0 | h0
      · subst h0
        have hn : news = [] := List.eq_nil_of_length_eq_zero (by simpa using hr.1)
        subst hn
        simp at hu
      · obtain ⟨g, o, h, _, hc⟩ := hr.2 h0
        injection h with h
        subst h
        rw [add_mk]
        exact hc j u hu
    obtain ⟨v', w', hrun, h2, h3, _, h5⟩ := run_append_own_at (P := P) w base t ty e i z size bytes ht hi hz hsize hby hzs hsz v n xs hown ad m c news hr.1 hcells h1 h63 hbytes hbase
    exact ⟨v', w', hrun, h2, h3, h5⟩

theorem wp_append_any {o : Oper} {a : Act} {K : Act → World → Prop} {Q : Exit → Act → World → Prop} (s x : Operand) (t : TypeId)
    (ho : o.op = .call { callee := .builtin .append, args := #[s, x], argTypes := #[t, t] })
    (base : Nat) (e : TypeId) (i : TypeInfo) (z : Value) (size bytes : Nat) (ht : P.underlying t = some (.slice e)) (hi : P.info? e = some i) (hz : i.zero = some z)
    (hsize : i.size = size) (hby : i.bytes = bytes) (hzs : z.cells.size = size) (hsz : 0 < size)
    (v : Value) (n : Nat) (xs : List Value) (hs : a.eval s = v) (hown : w.ownsRow base e size v n xs)
    (B : Nat) (A : Option Addr) (m c : Nat) (news : List Value) (hx : a.eval x = .slice A m c) (hr : Reads w B size A m news) (h1 : ∀ u ∈ news, u.oneCell' = true)
    (h63 : n + m ≤ maxLen) (hbytes : (n + m) * bytes ≤ 140737488355328) (hbase : base ≤ w.heap.size)
    (h : ∀ v' w', w'.ownsRow base e size v' (n + m) (xs ++ news) → w.grownBy w' v.ownBlock → (v'.ownBlock = v.ownBlock ∨ v'.ownBlock = some w.heap.size) → K (a.put o.dst v') w') : o.wp P a w K Q := by
  obtain ⟨v', w', hrun, h2, h3, h4⟩ := run_append_any (P := P) w base t o.type e i z size bytes ht hi hz hsize hby hzs hsz v n xs hown B A m c news hr h1 h63 hbytes hbase
  unfold Oper.wp execOp
  simp only [ho, resolve, invoke, builtin, Sem.run_bind, Sem.run_pure, Result.andThen_ok, List.map_toArray, List.map_cons, List.map_nil, hs, hx, hrun]
  exact h v' w' h2 h3 h4

theorem wpList_append_any {ops : Array Oper} {rest : List Oper} {o : Oper} {a : Act} {Q : Exit → Act → World → Prop} (hgd : o.guard = none) (s x : Operand) (t : TypeId)
    (ho : o.op = .call { callee := .builtin .append, args := #[s, x], argTypes := #[t, t] })
    (base : Nat) (e : TypeId) (i : TypeInfo) (z : Value) (size bytes : Nat) (ht : P.underlying t = some (.slice e)) (hi : P.info? e = some i) (hz : i.zero = some z)
    (hsize : i.size = size) (hby : i.bytes = bytes) (hzs : z.cells.size = size) (hsz : 0 < size)
    (v : Value) (n : Nat) (xs : List Value) (hs : a.eval s = v) (hown : w.ownsRow base e size v n xs)
    (B : Nat) (A : Option Addr) (m c : Nat) (news : List Value) (hx : a.eval x = .slice A m c) (hr : Reads w B size A m news) (h1 : ∀ u ∈ news, u.oneCell' = true)
    (h63 : n + m ≤ maxLen) (hbytes : (n + m) * bytes ≤ 140737488355328) (hbase : base ≤ w.heap.size)
    (h : ∀ v' w', w'.ownsRow base e size v' (n + m) (xs ++ news) → w.grownBy w' v.ownBlock → (v'.ownBlock = v.ownBlock ∨ v'.ownBlock = some w.heap.size) → wpList P ops Q rest (a.put o.dst v') w') : wpList P ops Q (o :: rest) a w :=
  wpList_plain hgd fun _ hK => wp_append_any w s x t ho base e i z size bytes ht hi hz hsize hby hzs hsz v n xs hs hown B A m c news hx hr h1 h63 hbytes hbase fun v' w' h2 h3 h4 => hK _ _ (h v' w' h2 h3 h4)
end

end Go.Proofs.Ytioanppnkhiokaa

/-
  Slices of bytes: what a call makes, hands back and appends to.
-/
namespace Go.Proofs.Ytioanppnkhiokaa
open Go.RowKit

theorem info_u8 : (Try.prog.info? 5).map (fun i => (i.zero, i.size, i.bytes)) = some (some (.int .u8 0), 1, 1) := by kernel_rfl

/-- a call that hands back new bytes: what was there is as it was -/
def NewB (w w' : World) (A : Option Addr) (m c : Nat) (l : List UInt8) : Prop :=
  m = l.length ∧ w'.ownsRow w.heap.size 5 1 (.slice A m c) m (bv l) ∧ Below w.heap.size w w'
theorem NewB.bytes {w w' : World} {A : Option Addr} {m c : Nat} {l : List UInt8} (h : NewB w w' A m c l) : Bytes w' w'.heap.size A m c l :=
  ⟨h.1, (Own.of_row h.2.1).cap, (Own.of_row h.2.1).lim, Reads.of_own h.2.1⟩
theorem NewB.none_ (w : World) : NewB w w none 0 0 [] := ⟨rfl, World.ownsRow_nil _ _ _ _, Below.refl _ _⟩
theorem Bytes.none_ (w : World) (B c : Nat) (hc : c ≤ maxLen) : Bytes w B none 0 c [] := ⟨rfl, Nat.zero_le _, hc, Reads.none_⟩
theorem Bytes.alloc {w : World} {B n c : Nat} {A : Option Addr} {l : List UInt8} (h : Bytes w B A n c l) (hB : B ≤ w.heap.size) (o : Obj) : Bytes (w.alloc o) B A n c l :=
  ⟨h.len, h.cap, h.lim, h.reads.alloc hB o⟩
theorem Bytes.drew {w : World} {B n c : Nat} {A : Option Addr} {l : List UInt8} (h : Bytes w B A n c l) : Bytes w.drew B A n c l := ⟨h.len, h.cap, h.lim, h.reads⟩
theorem Bytes.drewN {w : World} {B n c : Nat} {A : Option Addr} {l : List UInt8} (h : Bytes w B A n c l) (k : Nat) : Bytes (w.drewN k) B A n c l := ⟨h.len, h.cap, h.lim, h.reads⟩
theorem size_set (w : World) (a : Addr) (v : Value) : (w.setCell a v).heap.size = w.heap.size := by simp [World.setCell]
theorem Bytes.setCell {w : World} {B n c : Nat} {A : Option Addr} {l : List UInt8} (h : Bytes w B A n c l) {p : Addr} (hB : B ≤ p.block) (u : Value) : Bytes (w.setCell p u) B A n c l :=
  ⟨h.len, h.cap, h.lim, h.reads.setCell hB u⟩
theorem Bytes.step {w w' : World} {n c : Nat} {A : Option Addr} {l : List UInt8} (h : Bytes w w.heap.size A n c l) (hb : Below w.heap.size w w') : Bytes w' w'.heap.size A n c l :=
  (h.below hb).more hb.size
/-- a literal of bytes -/
theorem Bytes.lit {n : Nat} (w : World) (cs : Array Value) (l : List UInt8) (t : TypeId) (h : cs.toList = bv l) (hm : l.length ≤ maxLen) (hn : n = l.length) :
    Bytes (w.alloc (.cells cs t)) (w.heap.size + 1) (some ⟨w.heap.size, 0, none⟩) n n l := by
  subst hn
  refine ⟨rfl, Nat.le_refl _, hm, ⟨by simp [bv], fun _ => ⟨w.heap.size, 0, rfl, Nat.lt_succ_self _, fun j u hu => ?_⟩⟩⟩
  rw [Nat.zero_add, cell_of_row (w.alloc (.cells cs t)) w.heap.size j cs t (0, 0) (heap_alloc_new w _)]
  rw [← h] at hu
  simpa using hu
theorem Bytes.lit' {n g : Nat} (w : World) (cs : Array Value) (l : List UInt8) (t : TypeId) (hg : g = w.heap.size) (h : cs.toList = bv l) (hm : l.length ≤ maxLen) (hn : n = l.length) :
    Bytes (w.alloc (.cells cs t)) (g + 1) (some ⟨g, 0, none⟩) n n l := by
  subst hg; exact Bytes.lit w cs l t h hm hn
theorem Bytes.lit1 {w : World} {z : Int} {y : UInt8} {t : TypeId} (h : z = (y.toNat : Int)) : Bytes (w.alloc (.cells #[.int .u8 z] t)) (w.heap.size + 1) (some ⟨w.heap.size, 0, none⟩) 1 1 [y] :=
  Bytes.lit w _ [y] t (by subst h; rfl) (by simp [maxLen]) rfl
theorem own_lit {n : Nat} (w : World) (cs : Array Value) (l : List UInt8) (base : Nat) (h : cs.toList = bv l) (hm : l.length ≤ maxLen) (hb : base ≤ w.heap.size) (hn : n = l.length) :
    (w.alloc (.cells cs 5)).ownsRow base 5 1 (.slice (some ⟨w.heap.size, 0, none⟩) n n) n (bv l) := by
  subst hn
  rw [← h]
  refine World.ownsRow_lit w cs l.length hb hm ?_
  have := congrArg List.length h
  simpa [bv_length] using this

/-- new bytes of a callee, behind steps of the call's own -/
theorem new_of {w0 w1 w2 : World} {A : Option Addr} {m m' c : Nat} {l : List UInt8} (hm : m = m') (hl : m' = l.length) (hb : Below w0.heap.size w0 w1)
    (hown : w2.ownsRow w1.heap.size 5 1 (.slice A m c) m (bv l)) (hb2 : Below w1.heap.size w1 w2) : NewB w0 w2 A m' c l := by
  subst hm
  have hs := hb.size
  refine ⟨hl, ?_, hb.trans (hb2.mono hs)⟩
  obtain ⟨h1, h2⟩ := hown
  refine ⟨h1, ?_⟩
  rcases h2 with h2 | ⟨g', cap, cur, hv, hg, r⟩
  · exact .inl h2
  · exact .inr ⟨g', cap, cur, hv, by omega, r⟩

theorem own_cut_to {w : World} {B : Nat} {e : TypeId} {A A' : Option Addr} {n c m d k : Nat} {xs ys : List Value} (h : Own w B e 1 A n c xs) (hk : k ≤ n) (hA : c = k ∨ A' = A.map (·.add k))
    (hm : m = n - k) (hd : d = c - k) (hy : ys = xs.drop k) : Own w B e 1 A' m d ys := by
  subst hm; subst hd; subst hy
  have := h.cut hk
  rw [Nat.mul_one] at this
  rcases hA with hA | hA
  · subst hA
    exact ⟨this.len, this.cap, this.lim, fun _ => by omega, fun hc => by omega⟩
  · subst hA
    by_cases hck : c = k
    · subst hck
      exact ⟨this.len, this.cap, this.lim, fun _ => by omega, fun hc => by omega⟩
    · rw [if_neg hck] at this
      simpa using this

/-- new bytes, which may lie in the middle of a new block -/
def NewO (w w' : World) (A : Option Addr) (m c : Nat) (l : List UInt8) : Prop := m = l.length ∧ Own w' w.heap.size 5 1 A m c (bv l) ∧ Below w.heap.size w w'
theorem NewO.bytes {w w' : World} {A : Option Addr} {m c : Nat} {l : List UInt8} (h : NewO w w' A m c l) : Bytes w' w'.heap.size A m c l :=
  ⟨h.1, h.2.1.cap, h.2.1.lim, h.2.1.reads⟩
theorem NewO.none_ (w : World) : NewO w w none 0 0 [] := ⟨rfl, Own.of_row (World.ownsRow_nil _ _ _ _), Below.refl _ _⟩
theorem NewB.mid {w w' : World} {A : Option Addr} {m c : Nat} {l : List UInt8} (h : NewB w w' A m c l) : NewO w w' A m c l := ⟨h.1, Own.of_row h.2.1, h.2.2⟩
def PostObe (w : World) (l : List UInt8) (b : Bool) (k : Int) (e : Ending) (w' : World) : Prop := ∃ A m c, e = .returned (.tuple #[.slice A m c, .bool b, .int .i64 k]) ∧ NewO w w' A m c l

theorem bool_eq {a b : Bool} (h : a = b) : Value.bool a = Value.bool b := by rw [h]
theorem ret_bool {a b : Bool} (h : a = b) : Ending.returned (.bool a) = .returned (.bool b) := by rw [h]
theorem ret_pair {a b x y : Value} (h : a = x) (h' : b = y) : Ending.returned (.tuple #[a, b]) = .returned (.tuple #[x, y]) := by rw [h, h']
theorem ret_three {a b c x y z : Value} (h : a = x) (h' : b = y) (h'' : c = z) : Ending.returned (.tuple #[a, b, c]) = .returned (.tuple #[x, y, z]) := by rw [h, h', h'']

/-- POSTS: a call hands back new bytes; with a bool; with an error's number; with both -/
def PostB (w : World) (l : List UInt8) (e : Ending) (w' : World) : Prop := ∃ A m c, e = .returned (.slice A m c) ∧ NewB w w' A m c l
def PostBb (w : World) (l : List UInt8) (b : Bool) (e : Ending) (w' : World) : Prop := ∃ A m c, e = .returned (.tuple #[.slice A m c, .bool b]) ∧ NewB w w' A m c l
def PostBe (w : World) (l : List UInt8) (k : Int) (e : Ending) (w' : World) : Prop := ∃ A m c, e = .returned (.tuple #[.slice A m c, .int .i64 k]) ∧ NewB w w' A m c l
def PostBbe (w : World) (l : List UInt8) (b : Bool) (k : Int) (e : Ending) (w' : World) : Prop := ∃ A m c, e = .returned (.tuple #[.slice A m c, .bool b, .int .i64 k]) ∧ NewB w w' A m c l
/-- a call that hands back a bool, and only draws -/
def PostQ (w : World) (v : Value) (e : Ending) (w' : World) : Prop := e = .returned v ∧ ∃ n, w' = w.drewN n

theorem PostQ.below {w : World} {v : Value} {e : Ending} {w' : World} (h : PostQ w v e w') : e = .returned v ∧ Below w.heap.size w w' := by
  obtain ⟨he, n, rfl⟩ := h
  exact ⟨he, below_drewN (Below.refl _ _) n⟩

section
variable {w : World}
/-- where an owned row that isn't empty lies -/
theorem own_at {base n c : Nat} {e : TypeId} {A : Option Addr} {xs : List Value} (h : w.ownsRow base e 1 (.slice A n c) n xs) (hn : 0 < n) : ∃ g, A = some ⟨g, 0, none⟩ ∧ base ≤ g ∧ g < w.heap.size := by
  obtain ⟨g, cap, hv, hb, hlt⟩ := h.form hn
  exact ⟨g, by injection hv, hb, hlt⟩

theorem own_cell {base n c g : Nat} {e : TypeId} {xs : List Value} (h : w.ownsRow base e 1 (.slice (some ⟨g, 0, none⟩) n c) n xs) (j : Nat) (v : Value) (hj : xs[j]? = some v) : w.cell? ⟨g, j, none⟩ = some v := by
  have hl := h.1
  have : j < xs.length := (List.getElem?_eq_some_iff.1 hj).1
  rw [h.cellAt j (by omega), hj]

/-- 'append(v, x...)' onto bytes of the call's own -/
theorem wp_append_u8 {o : Oper} {a : Act} {K : Act → World → Prop} {Q : Exit → Act → World → Prop} (s x : Operand)
    (ho : o.op = .call { callee := .builtin .append, args := #[s, x], argTypes := #[26, 26] })
    (base : Nat) (v : Value) (n : Nat) (xs : List UInt8) (hs : a.eval s = v) (hown : w.ownsRow base 5 1 v n (bv xs))
    (B : Nat) (A : Option Addr) (m c : Nat) (news : List UInt8) (hx : a.eval x = .slice A m c) (hr : Bytes w B A m c news)
    (hlim : n + m ≤ 140737488355328) (hbase : base ≤ w.heap.size)
    (h : ∀ A' c' w', w'.ownsRow base 5 1 (.slice A' (n + m) c') (n + m) (bv (xs ++ news)) → Below base w w' → w.grownBy w' v.ownBlock → K (a.put o.dst (.slice A' (n + m) c')) w') : o.wp Try.prog a w K Q := by
  obtain ⟨i0, hi, hz0, hz1, hz2⟩ := info_parts info_u8
  refine wp_append_any w s x 26 ho base 5 i0 (.int .u8 0) 1 1 Try.underlying26 hi hz0 hz1 hz2 rfl (by omega) v n (bv xs) hs hown B A m c (bv news) hx hr.reads (bv_one _) (by unfold maxLen; omega) (by omega) hbase ?_
  intro v' w' h1 h2 _
  rw [← bv_append] at h1
  have hb : Below base w w' := (Below.refl _ _).grown h2 hbase (fun k hk => by have := hown.lt k hk; exact this.1)
  rcases h1.2 with ⟨rfl, h0⟩ | ⟨g, cap, cur, rfl, _⟩
  · rw [h0] at h1 h
    exact h none 0 w' h1 hb h2
  · exact h _ _ w' h1 hb h2

theorem wpList_append_u8 {ops : Array Oper} {rest : List Oper} {o : Oper} {a : Act} {Q : Exit → Act → World → Prop} (hgd : o.guard = none) (s x : Operand)
    (ho : o.op = .call { callee := .builtin .append, args := #[s, x], argTypes := #[26, 26] })
    (base : Nat) (v : Value) (n : Nat) (xs : List UInt8) (hs : a.eval s = v) (hown : w.ownsRow base 5 1 v n (bv xs))
    (B : Nat) (A : Option Addr) (m c : Nat) (news : List UInt8) (hx : a.eval x = .slice A m c) (hr : Bytes w B A m c news)
    (hlim : n + m ≤ 140737488355328) (hbase : base ≤ w.heap.size)
    (h : ∀ A' c' w', w'.ownsRow base 5 1 (.slice A' (n + m) c') (n + m) (bv (xs ++ news)) → Below base w w' → wpList Try.prog ops Q rest (a.put o.dst (.slice A' (n + m) c')) w') : wpList Try.prog ops Q (o :: rest) a w :=
  wpList_plain hgd fun _ hK => wp_append_u8 s x ho base v n xs hs hown B A m c news hx hr hlim hbase fun A' c' w' h1 h2 _ => hK _ _ (h A' c' w' h1 h2)

/-- the same, as a step of a region that draws -/
theorem step_append_u8 {ops : Array Oper} {o : Oper} {a : Act} {K : Act → World → Prop} {Q : Exit → Act → World → Prop} {E : Prop} (hgd : o.guard = none) (s x : Operand)
    (ho : o.op = .call { callee := .builtin .append, args := #[s, x], argTypes := #[26, 26] })
    (base : Nat) (v : Value) (n : Nat) (xs : List UInt8) (hs : a.eval s = v) (hown : w.ownsRow base 5 1 v n (bv xs))
    (B : Nat) (A : Option Addr) (m c : Nat) (news : List UInt8) (hx : a.eval x = .slice A m c) (hr : Bytes w B A m c news)
    (hlim : n + m ≤ 140737488355328) (hbase : base ≤ w.heap.size)
    (h : ∀ A' c' w', w'.ownsRow base 5 1 (.slice A' (n + m) c') (n + m) (bv (xs ++ news)) → Below base w w' → w.grownBy w' v.ownBlock → K (a.put o.dst (.slice A' (n + m) c')) w') :
    if Region.wanted o (yielded ops a.tmps) = true then Oper.wp Try.prog o a w K Q else E := by
  have hw : Region.wanted o (yielded ops a.tmps) = true := by simp [Region.wanted, hgd]
  rw [if_pos hw]
  exact wp_append_u8 s x ho base v n xs hs hown B A m c news hx hr hlim hbase h

/-- 'append(v, x)': one byte, which lies in a block of its own -/
theorem wpList_append1_u8 {ops : Array Oper} {rest : List Oper} {o : Oper} {a : Act} {Q : Exit → Act → World → Prop} (hgd : o.guard = none) (s x : Operand)
    (ho : o.op = .call { callee := .builtin .append, args := #[s, x], argTypes := #[26, 26] })
    (base : Nat) (v : Value) (n : Nat) (xs : List UInt8) (hs : a.eval s = v) (hown : w.ownsRow base 5 1 v n (bv xs))
    (z : Int) (y : UInt8) (hz : z = (y.toNat : Int)) (gx : Nat) (hx : a.eval x = .slice (some ⟨gx, 0, none⟩) 1 1) (hgx : gx = w.heap.size)
    (hlim : n + 1 ≤ 140737488355328) (hbase : base ≤ w.heap.size)
    (h : ∀ g c' w', w'.ownsRow base 5 1 (.slice (some ⟨g, 0, none⟩) (n + 1) c') (n + 1) (bv (xs ++ [y])) → base ≤ g → Below base w w' → base < w'.heap.size → wpList Try.prog ops Q rest (a.put o.dst (.slice (some ⟨g, 0, none⟩) (n + 1) c')) w') :
    wpList Try.prog ops Q (o :: rest) a (w.alloc (.cells #[.int .u8 z] 5)) := by
  subst hz
  subst hgx
  refine wpList_append_u8 hgd s x ho base v n xs hs (hown.alloc _) (w.heap.size + 1) _ 1 1 [y] hx (Bytes.lit w _ [y] _ rfl (by simp [maxLen]) rfl) hlim (by simp; omega) ?_
  intro A' c' w' h1 h2
  obtain ⟨g, rfl, hg, _⟩ := own_at h1 (by omega)
  refine h g c' w' h1 hg (((Below.refl _ _).alloc hbase _).trans h2) ?_
  have := h2.size
  simp at this
  omega
end
end Go.Proofs.Ytioanppnkhiokaa

/-
  The digest as a plain function on lists of bytes: no program.
-/
namespace Go.Proofs.Ytioanppnkhiokaa
namespace Dig

/-- a word, as a walk writes it: kept closed -/
def v (x : UInt64) : Int := (x.toNat : Int)
theorem v_nonneg (x : UInt64) : 0 ≤ v x := by unfold v; omega
theorem v_lt (x : UInt64) : v x < 18446744073709551616 := by
  have := x.toNat_lt
  unfold v; omega
theorem wrap_u64 (n : Int) : IntKind.u64.wrap n = n % 18446744073709551616 := by simp [IntKind.wrap, IntKind.bits, IntKind.signed]
theorem add_v (x y : UInt64) : IntKind.u64.wrap (v x + v y) = v (x + y) := by
  rw [wrap_u64]; unfold v
  rw [UInt64.toNat_add]; omega
theorem xor_v (x y : UInt64) : bits .xor .u64 (v x) (v y) = v (x ^^^ y) := by
  unfold v
  rw [u64_xor_nat _ _ x.toNat_lt y.toNat_lt, UInt64.toNat_xor]
theorem or_v (x y : UInt64) : bits .or .u64 (v x) (v y) = v (x ||| y) := by
  unfold v
  rw [u64_or_nat _ _ x.toNat_lt y.toNat_lt, UInt64.toNat_or]

structure St where
  a : UInt64
  b : UInt64
  c : UInt64
  d : UInt64

def golden : UInt64 := 11400714819323198485

def rot (x k : UInt64) : UInt64 := (x <<< k) ||| (x >>> (64 - k))

def round (s : St) (m k : UInt64) : St :=
  let a := s.a + (s.b + m + k)
  let d := rot (s.d ^^^ a) 32
  let c := s.c + d
  let b := rot (s.b ^^^ c) 24
  let a := a + b
  let d := rot (d ^^^ a) 16
  let c := c + d
  let b := rot (b ^^^ c) 63
  ⟨b, c, d, a⟩

/-- eight bytes, the highest first -/
def word (l : List UInt8) : UInt64 := l.foldl (fun n c => n * 256 + UInt64.ofNat c.toNat) 0

def at4 (m : St) : Nat → UInt64
  | 0 => m.a
  | 1 => m.b
  | 2 => m.c
  | _ => m.d

/-- rounds by these words: the state, the constant (what is added to it is a variable: the kernel must never count it down) -/
def roundsG (G : UInt64) : List UInt64 → St → UInt64 → St
  | [], s, _ => s
  | m :: ms, s, k => roundsG G ms (round s m k) (k + G)
theorem roundsG_cons (G m : UInt64) (ms : List UInt64) (s : St) (k : UInt64) : roundsG G (m :: ms) s k = roundsG G ms (round s m k) (k + G) := by rw [roundsG]
def words (m : St) : List UInt64 := [m.a, m.b, m.c, m.d, m.a, m.b, m.c, m.d]
theorem words_at (m : St) (r : Nat) (h : r < 8) : (words m).drop r = at4 m (r % 4) :: (words m).drop (r + 1) := by
  match r, h with
  | 0, _ => rfl
  | 1, _ => rfl
  | 2, _ => rfl
  | 3, _ => rfl
  | 4, _ => rfl
  | 5, _ => rfl
  | 6, _ => rfl
  | 7, _ => rfl
theorem roundsG_step (G : UInt64) (m s : St) (K : UInt64) (r : Nat) (h : r < 8) : roundsG G ((words m).drop r) s K = roundsG G ((words m).drop (r + 1)) (round s (at4 m (r % 4)) K) (K + G) := by
  rw [words_at m r h, roundsG_cons]
def rounds (l : List UInt64) (s : St) (k : UInt64) : St := roundsG golden l s k
theorem rounds_step (m s : St) (K : UInt64) (r : Nat) (h : r < 8) : rounds ((words m).drop r) s K = rounds ((words m).drop (r + 1)) (round s (at4 m (r % 4)) K) (K + golden) :=
  roundsG_step golden m s K r h

def piece (b : List UInt8) : St := ⟨word (b.take 8), word ((b.drop 8).take 8), word ((b.drop 16).take 8), word ((b.drop 24).take 8)⟩
def xor4 (s m : St) : St := ⟨s.a ^^^ m.a, s.b ^^^ m.b, s.c ^^^ m.c, s.d ^^^ m.d⟩
def mixed (s : St) (b : List UInt8) : St := xor4 (rounds (words (piece b)) (xor4 s (piece b)) golden) s
def begun : St := ⟨golden, golden + golden, golden + golden + golden, golden + golden + golden + golden⟩

def absorb : Nat → St → List UInt8 → St
  | 0, s, _ => s
  | k + 1, s, l => absorb k (mixed s (l.take 32)) (l.drop 32)

theorem absorb_add : ∀ (j k : Nat) (s : St) (l : List UInt8), absorb (j + k) s l = absorb k (absorb j s l) (l.drop (32 * j))
  | 0, k, s, l => by simp [absorb]
  | j + 1, k, s, l => by
    rw [show j + 1 + k = (j + k) + 1 by omega]
    simp only [absorb]
    rw [absorb_add j k, List.drop_drop]
    congr 2; omega
theorem absorb_front : ∀ (j : Nat) (s : St) (a b : List UInt8), 32 * j ≤ a.length → absorb j s (a ++ b) = absorb j s a
  | 0, s, a, b, _ => rfl
  | j + 1, s, a, b, h => by
    simp only [absorb]
    rw [List.take_append_of_le_length (by omega), List.drop_append_of_le_length (by omega), absorb_front j _ _ b (by rw [List.length_drop]; omega)]

/-- a word's eight bytes -/
def bytes8 (n : UInt64) : List UInt8 := (List.range 8).map fun i => UInt8.ofNat ((n >>> (UInt64.ofNat (56 - 8 * i))).toNat)
theorem bytes8_length (n : UInt64) : (bytes8 n).length = 8 := by simp [bytes8]
/-- how many noughts -/
def noughts (n : Nat) : Nat := (32 + 23 - n % 32) % 32
def tail (r : List UInt8) (n : UInt64) : List UInt8 := r ++ [128] ++ List.replicate (noughts r.length) 0 ++ bytes8 n
def padded (t : List UInt8) : List UInt8 := tail t (UInt64.ofNat t.length)
def out (s : St) : List UInt8 := bytes8 s.a ++ bytes8 s.b ++ bytes8 s.c ++ bytes8 s.d
theorem out_length (s : St) : (out s).length = 32 := by simp [out, bytes8_length]
def of (t : List UInt8) : List UInt8 := out (absorb ((padded t).length / 32) begun (padded t))
theorem of_length (t : List UInt8) : (of t).length = 32 := out_length _

theorem tail_length (r : List UInt8) (n : UInt64) : (tail r n).length = r.length + 9 + noughts r.length := by
  simp only [tail, List.length_append, List.length_replicate, bytes8_length, List.length_cons, List.length_nil]; omega
theorem tail_mod (r : List UInt8) (n : UInt64) : (tail r n).length % 32 = 0 := by
  rw [tail_length]; unfold noughts; omega

/-- piece by piece, with a rest: as the whole at once -/
theorem of_rest (t : List UInt8) : of t = out (absorb ((tail (t.drop (32 * (t.length / 32))) (UInt64.ofNat t.length)).length / 32) (absorb (t.length / 32) begun t) (tail (t.drop (32 * (t.length / 32))) (UInt64.ofNat t.length))) := by
  have hl : (t.drop (32 * (t.length / 32))).length = t.length % 32 := by rw [List.length_drop]; omega
  have hn : noughts (t.drop (32 * (t.length / 32))).length = noughts t.length := by rw [hl]; unfold noughts; omega
  have hd : tail (t.drop (32 * (t.length / 32))) (UInt64.ofNat t.length) = (padded t).drop (32 * (t.length / 32)) := by
    unfold padded tail
    rw [hn]
    rw [List.append_assoc, List.append_assoc, List.append_assoc, List.append_assoc, List.drop_append_of_le_length (by omega)]
  have hp := tail_length t (UInt64.ofNat t.length)
  have hq : (padded t).length / 32 = t.length / 32 + ((padded t).drop (32 * (t.length / 32))).length / 32 := by
    rw [List.length_drop]; unfold padded; omega
  rw [hd]
  unfold of
  rw [hq, absorb_add]
  congr 2
  unfold padded tail
  rw [List.append_assoc, List.append_assoc, absorb_front _ _ _ _ (by omega)]
end Dig
end Go.Proofs.Ytioanppnkhiokaa

namespace Go.Proofs.Ytioanppnkhiokaa
open Go.RowKit

namespace Dig
theorem conv_v (c : UInt8) : (c.toNat : Int) = v (UInt64.ofNat c.toNat) := by
  have := c.toNat_lt
  unfold v; simp
@[go_sem] theorem wrap_c (c : UInt8) : IntKind.u64.wrap (c.toNat : Int) = (c.toNat : Int) := by
  have := c.toNat_lt
  rw [wrap_u64]; omega
theorem shl8 (n : UInt64) (c : UInt8) : bits .or .u64 (IntKind.u64.wrap (v n * 256)) (c.toNat : Int) = v (n * 256 + UInt64.ofNat c.toNat) := by
  have h1 := n.toNat_lt
  have h2 := c.toNat_lt
  rw [wrap_u64]
  unfold v
  rw [show (n.toNat : Int) * 256 % 18446744073709551616 = ((n.toNat * 256 % 18446744073709551616 : Nat) : Int) by omega, u64_or_nat _ _ (by omega) (by omega),
    nat_join 8 _ c.toNat (by omega) (by omega)]
  rw [UInt64.toNat_add, UInt64.toNat_mul]
  simp; omega
theorem word_take (l : List UInt8) (k : Nat) (h : k < l.length) : word (l.take (k + 1)) = word (l.take k) * 256 + UInt64.ofNat l[k].toNat := by
  rw [List.take_succ_eq_append_getElem h]
  unfold word
  rw [List.foldl_append]
  rfl
theorem rot_any (x : UInt64) (p q : Nat) (k j : Nat) (hk : k < 64) (hk0 : 0 < k) (hp : p = 2 ^ k) (hq : q = 2 ^ j) (hj : j = 64 - k) :
    bits .or .u64 (IntKind.u64.wrap (v x * (p : Int))) (v x / (q : Int)) = v (rot x (UInt64.ofNat k)) := by
  have h1 := x.toNat_lt
  subst hj
  unfold v rot
  rw [wrap_u64]
  have hq0 : 0 < q := by rw [hq]; exact Nat.two_pow_pos _
  have e1 : (x.toNat : Int) * (p : Int) % 18446744073709551616 = ((x.toNat * p % 18446744073709551616 : Nat) : Int) := by
    rw [Int.natCast_emod, Int.natCast_mul]; rfl
  have e2 : (x.toNat : Int) / (q : Int) = ((x.toNat / q : Nat) : Int) := by rw [Int.natCast_ediv]
  rw [e1, e2, u64_or_nat _ _ (Nat.mod_lt _ (by omega)) (Nat.lt_of_le_of_lt (Nat.div_le_self _ _) h1)]
  congr 1
  rw [UInt64.toNat_or, UInt64.toNat_shiftLeft, UInt64.toNat_shiftRight, hp, hq, Nat.shiftLeft_eq, Nat.shiftRight_eq_div_pow]
  have e3 : (UInt64.ofNat k).toNat % 64 = k := by simp; omega
  have e4 : (64 - UInt64.ofNat k).toNat % 64 = 64 - k := by
    rw [UInt64.toNat_sub]
    simp; omega
  rw [e3, e4]
theorem rot32 (x : UInt64) : bits .or .u64 (IntKind.u64.wrap (v x * 4294967296)) (v x / 4294967296) = v (rot x 32) := rot_any x 4294967296 4294967296 32 32 (by decide) (by decide) (by decide) (by decide) rfl
theorem rot24 (x : UInt64) : bits .or .u64 (IntKind.u64.wrap (v x * 16777216)) (v x / 1099511627776) = v (rot x 24) := rot_any x 16777216 1099511627776 24 40 (by decide) (by decide) (by decide) (by decide) rfl
theorem rot16 (x : UInt64) : bits .or .u64 (IntKind.u64.wrap (v x * 65536)) (v x / 281474976710656) = v (rot x 16) := rot_any x 65536 281474976710656 16 48 (by decide) (by decide) (by decide) (by decide) rfl
theorem rot63 (x : UInt64) : bits .or .u64 (IntKind.u64.wrap (v x * 9223372036854775808)) (v x / 2) = v (rot x 63) := rot_any x 9223372036854775808 2 63 1 (by decide) (by decide) (by decide) (by decide) rfl
end Dig

set_option maxHeartbeats 1000000 in
theorem dig_rot32 (x : UInt64) (w : World) : Calls Try.prog 53 #[.int .u64 (Dig.v x), .int .i64 32] w fun e w' => e = .returned (.int .u64 (Dig.v (Dig.rot x 32))) ∧ w = w' := by
  have h := Dig.rot32 x
  have hb : bits .and .u64 32 63 = 32 := by decide
  go_enter Try.func53, Try.ntmps53
  go_wp2
  go_ret
  exact ⟨rfl, rfl⟩
theorem dig_rot24 (x : UInt64) (w : World) : Calls Try.prog 53 #[.int .u64 (Dig.v x), .int .i64 24] w fun e w' => e = .returned (.int .u64 (Dig.v (Dig.rot x 24))) ∧ w = w' := by
  have h := Dig.rot24 x
  have hb : bits .and .u64 24 63 = 24 := by decide
  go_enter Try.func53, Try.ntmps53
  go_wp2
  go_ret
  exact ⟨rfl, rfl⟩
theorem dig_rot16 (x : UInt64) (w : World) : Calls Try.prog 53 #[.int .u64 (Dig.v x), .int .i64 16] w fun e w' => e = .returned (.int .u64 (Dig.v (Dig.rot x 16))) ∧ w = w' := by
  have h := Dig.rot16 x
  have hb : bits .and .u64 16 63 = 16 := by decide
  go_enter Try.func53, Try.ntmps53
  go_wp2
  go_ret
  exact ⟨rfl, rfl⟩
theorem dig_rot63 (x : UInt64) (w : World) : Calls Try.prog 53 #[.int .u64 (Dig.v x), .int .i64 63] w fun e w' => e = .returned (.int .u64 (Dig.v (Dig.rot x 63))) ∧ w = w' := by
  have h := Dig.rot63 x
  have hb : bits .and .u64 63 63 = 63 := by decide
  go_enter Try.func53, Try.ntmps53
  go_wp2
  go_ret
  exact ⟨rfl, rfl⟩

set_option maxHeartbeats 1000000 in
theorem dig_word (l : List UInt8) (A : Option Addr) (n c B : Nat) (w : World) (h : Bytes w B A n c l) (hl : 8 ≤ l.length) :
    Calls Try.prog 52 #[.slice A n c] w fun e w' => e = .returned (.int .u64 (Dig.v (Dig.word (l.take 8)))) ∧ w = w' := by
  obtain ⟨hlen, hcap, hlim, hr⟩ := h
  subst hlen
  have h8 : (8 : Int) ≤ (c : Int) := by omega
  clear hlim
  go_enter Try.func52, Try.ntmps52
  go_wp2
  go_loop [3, 9] (fun n i => ∃ k : Nat, k ≤ 8 ∧ i = .int .i64 k ∧ n = .int .u64 (Dig.v (Dig.word (l.take k)))) (fun _ i => 8 - (intOf i).toNat)
  case atStart => exact ⟨0, Nat.zero_le _, rfl, rfl⟩
  case round =>
    obtain ⟨k, hk, rfl, rfl⟩ := hrel
    by_cases hlt : k < 8
    · obtain ⟨g, o, u, rfl, _, hx, hc⟩ := hr.at_ (k := k) (by omega)
      rw [bv_at l k (by omega)] at hx
      cases hx
      have hs := Dig.shl8 (Dig.word (l.take k)) l[k]
      rw [← Dig.word_take l k (by omega)] at hs
      go_wp2
      refine ⟨⟨k + 1, by omega, by go_num, rfl⟩, ?_⟩
      simp [intOf]; omega
    · obtain rfl : k = 8 := by omega
      go_wp2
      go_ret
      exact ⟨rfl, rfl⟩

/-- a row of four words -/
def row4 (s : Dig.St) : Array Value := #[.int .u64 (Dig.v s.a), .int .u64 (Dig.v s.b), .int .u64 (Dig.v s.c), .int .u64 (Dig.v s.d)]

set_option maxHeartbeats 1000000 in
theorem dig_begun (w : World) : Calls Try.prog 46 #[] w fun e w' => e = .returned (.agg (row4 Dig.begun)) ∧ Below w.heap.size w w' := by
  go_enter Try.func46, Try.ntmps46
  go_wp2
  refine wp_loop_rounds 5 ?_
  rw [rounds_succ]; go_wp2
  rw [rounds_succ]; go_wp2
  rw [rounds_succ]; go_wp2
  rw [rounds_succ]; go_wp2
  rw [rounds_succ]; go_wp2
  refine bodyPost_ret (v := .agg (row4 Dig.begun)) ?_ rfl ⟨rfl, by repeat (first | exact Below.refl _ _ | refine Below.alloc ?_ (by simp) _)⟩
  simp [results, Try.results46, go_sem, row4]
  exact ⟨by decide, by decide, by decide, by decide⟩
end Go.Proofs.Ytioanppnkhiokaa

/-
  append onto a slice of the call's own that may begin in the middle of its block; writing over what is one's own.
-/
namespace Go.Proofs.Ytioanppnkhiokaa
open Go.RowKit

section
variable {P : Program} (w : World)

theorem run_append_room_mid (t ty e : TypeId) (i : TypeInfo) (ht : P.underlying t = some (.slice e)) (hi : P.info? e = some i)
    (g off n c : Nat) (cur : Array Value) (hg : w.heap[g]? = some (.cells cur e (0, 0)))
    (a : Addr) (m c2 : Nat) (news : List Value) (hl : news.length = m * i.size) (hnews : ∀ j u, news[j]? = some u → w.cell? (a.add j) = some u) (h1 : ∀ u ∈ news, u.oneCell' = true)
    (hroom : n + m ≤ c) (hfit : off + n * i.size + news.length ≤ cur.size) :
    (Builtin.append_ #[t, t] ty #[.slice (some ⟨g, off, none⟩) n c, .slice (some a) m c2]).run P w =
      .ok (.slice (some ⟨g, off, none⟩) (n + m) c) (w.setRow g (cur.toList.take (off + n * i.size) ++ news ++ cur.toList.drop (off + n * i.size + news.length)).toArray) := by
  have hf := run_firstCells_some (P := P) w i.size m a m c2 news hl hnews
  have hst := run_storeCells_at P g (off + n * i.size) e news 0 cur w hg (by simpa using hfit) h1
  simp only [Nat.add_zero] at hst
  simp [Builtin.append_, run_underlying ht, sizeOf, typeInfo, hi, Builtin.lenOf, hroom, hf, add_mk, hst]

theorem run_append_mid (t ty e : TypeId) (i : TypeInfo) (z : Value) (size bytes : Nat) (ht : P.underlying t = some (.slice e)) (hi : P.info? e = some i) (hz : i.zero = some z)
    (hsize : i.size = size) (hby : i.bytes = bytes) (hzs : z.cells.size = size)
    (B : Nat) (A : Option Addr) (n c : Nat) (xs : List Value) (hown : Own w B e size A n c xs)
    (B2 : Nat) (A2 : Option Addr) (m c2 : Nat) (news : List Value) (hr : Reads w B2 size A2 m news) (h1 : ∀ u ∈ news, u.oneCell' = true)
    (h63 : n + m ≤ maxLen) (hbytes : (n + m) * bytes ≤ 140737488355328) (hB : B ≤ w.heap.size) (hm : 0 < m) :
    ∃ A' c' w', (Builtin.append_ #[t, t] ty #[.slice A n c, .slice A2 m c2]).run P w = .ok (.slice A' (n + m) c') w' ∧ Own w' B e size A' (n + m) c' (xs ++ news) ∧ Below B w w' := by
  subst hsize
  subst hby
  obtain ⟨g2, o2, rfl, _, hc2⟩ := hr.2 hm
  have hcells : ∀ j u, news[j]? = some u → w.cell? ((⟨g2, o2, none⟩ : Addr).add j) = some u := fun j u hu => by rw [add_mk]; exact hc2 j u hu
  have hsmall : n + m ≤ 9223372036854775807 := by unfold maxLen at h63; omega
  have hlen : (xs ++ news).length = (n + m) * i.size := by rw [List.length_append, hown.len, hr.1, Nat.add_mul]
  by_cases hroom : n + m ≤ c
  · obtain ⟨g, off, cur, rfl, hbg, hg, hsz, htake⟩ := hown.blk (by omega)
    have hmul : (n + m) * i.size ≤ c * i.size := Nat.mul_le_mul_right _ hroom
    have hfit : off + n * i.size + news.length ≤ cur.size := by rw [hr.1]; rw [Nat.add_mul] at hmul; omega
    refine ⟨_, _, _, run_append_room_mid w t ty e i ht hi g off n c cur hg ⟨g2, o2, none⟩ m c2 news hr.1 hcells h1 hroom hfit, ⟨hlen, hroom, hown.lim, (fun h => by cases h), fun _ => ⟨g, off, _, rfl, hbg, setRow_heap w g cur _ e _ hg, ?_, ?_⟩⟩, ⟨rfl, rfl, rfl, by simp, fun k hk => setRow_other w g k _ (by omega)⟩⟩
    · simp only [List.size_toArray, List.length_append, List.length_take, List.length_drop, Array.length_toList]
      omega
    · have hl1 : (cur.toList.take (off + n * i.size)).length = off + n * i.size := by rw [List.length_take, Array.length_toList]; omega
      show List.take ((n + m) * i.size) (List.drop off (cur.toList.take (off + n * i.size) ++ news ++ cur.toList.drop (off + n * i.size + news.length))) = xs ++ news
      have hd : List.drop off (cur.toList.take (off + n * i.size)) = xs := by
        rw [List.drop_take, Nat.add_sub_cancel_left]
        exact htake
      rw [List.append_assoc, List.drop_append_of_le_length (by omega), hd, ← List.append_assoc, ← hlen]
      exact List.take_left
  · have grown : ∀ old, Own (w.drew.alloc (.cells (xs.toArray ++ news.toArray ++ Builtin.zeroCells z.cells (grownCap w (n + m) old e - (n + m))) e)) B e i.size (some ⟨w.heap.size, 0, none⟩) (n + m) (grownCap w (n + m) old e) (xs ++ news) ∧
        Below B w (w.drew.alloc (.cells (xs.toArray ++ news.toArray ++ Builtin.zeroCells z.cells (grownCap w (n + m) old e - (n + m))) e)) := by
      intro old
      have hge := grownCap_ge w (n + m) old e
      have hcm : grownCap w (n + m) old e ≤ maxLen := grownCap_le_maxLen w (n + m) old e h63
      refine ⟨⟨hlen, hge, hcm, (fun h => by cases h), fun _ => ⟨w.heap.size, 0, _, rfl, hB, heap_alloc_new w.drew _, ?_, ?_⟩⟩, ⟨rfl, rfl, rfl, by simp, fun k hk => Below.heap_alloc w.drew _ k (by show k < w.heap.size; omega)⟩⟩
      · simp only [Array.size_append, List.size_toArray, size_zeroCells, hzs, hown.len, hr.1, ← Nat.add_mul]
        rw [Nat.zero_add]
        exact Nat.mul_le_mul_right _ (by omega)
      · simp only [Array.toList_append, List.append_assoc, List.drop_zero]
        rw [← List.append_assoc, ← hlen]
        exact List.take_left
    rcases A with _ | ad
    · have hc0 := hown.nil rfl
      subst hc0
      have hn0 : n = 0 := by have := hown.cap; omega
      subst hn0
      have hx : xs = [] := List.eq_nil_of_length_eq_zero (by simpa using hown.len)
      subst hx
      have hrun := run_append_nil (P := P) w t ty e i z ht hi hz ⟨g2, o2, none⟩ m c2 news hr.1 hcells hm (by omega) (by rw [Nat.zero_add] at hbytes; omega)
      have hgr := grown 0
      simp only [Nat.zero_add, List.nil_append, Array.empty_append] at hgr ⊢
      exact ⟨_, _, _, hrun, hgr.1, hgr.2⟩
    · have holds : ∀ j u, xs[j]? = some u → w.cell? (ad.add j) = some u := by
        intro j u hu
        have hj := (List.getElem?_eq_some_iff.1 hu).1
        have hn0 : 0 < n := by
          rcases Nat.eq_zero_or_pos n with h0 | h0
          · subst h0; have := hown.len; simp at this; simp [this] at hj
          · exact h0
        obtain ⟨g, o, e1, _, hc⟩ := hown.reads.2 hn0
        injection e1 with e1
        subst e1
        rw [add_mk]
        exact hc j u hu
      have hrun := run_append_grow (P := P) w t ty e i z ht hi hz ad n c xs hown.len holds ⟨g2, o2, none⟩ m c2 news hr.1 hcells (by omega) (by omega) (growslice_fits (by omega) hbytes)
      exact ⟨_, _, _, hrun, (grown c).1, (grown c).2⟩
end

/-- one byte more behind bytes of the call's own, wherever they begin -/
theorem wpList_append1_mid {w : World} {ops : Array Oper} {rest : List Oper} {o : Oper} {a : Act} {Q : Exit → Act → World → Prop} (hgd : o.guard = none) (s x : Operand)
    (ho : o.op = .call { callee := .builtin .append, args := #[s, x], argTypes := #[26, 26] })
    (B : Nat) (A : Option Addr) (n c : Nat) (xs : List Value) (hs : a.eval s = .slice A n c) (hown : Own w B 5 1 A n c xs)
    (z : Int) (gx : Nat) (hx : a.eval x = .slice (some ⟨gx, 0, none⟩) 1 1) (hgx : gx = w.heap.size)
    (hlim : n + 1 ≤ 140737488355328) (hB : B ≤ w.heap.size)
    (h : ∀ A' c' w', Own w' B 5 1 A' (n + 1) c' (xs ++ [.int .u8 z]) → Below B w w' → wpList Try.prog ops Q rest (a.put o.dst (.slice A' (n + 1) c')) w') :
    wpList Try.prog ops Q (o :: rest) a (w.alloc (.cells #[.int .u8 z] 5)) := by
  subst hgx
  obtain ⟨i0, hi, hz0, hz1, hz2⟩ := info_parts info_u8
  have hown1 : Own (w.alloc (.cells #[.int .u8 z] 5)) B 5 1 A n c xs := hown.below (B' := w.heap.size) ((Below.refl _ _).alloc (Nat.le_refl _) _) (Nat.le_refl _)
  have hr : Reads (w.alloc (.cells #[.int .u8 z] 5)) (w.heap.size + 1) 1 (some ⟨w.heap.size, 0, none⟩) 1 [.int .u8 z] := by
    refine ⟨rfl, fun _ => ⟨w.heap.size, 0, rfl, Nat.lt_succ_self _, fun j u hu => ?_⟩⟩
    rw [Nat.zero_add, cell_of_row (w.alloc (.cells #[.int .u8 z] 5)) w.heap.size j _ 5 (0, 0) (heap_alloc_new w _)]
    simpa using hu
  obtain ⟨A', c', w', hrun, h2, h3⟩ := run_append_mid (P := Try.prog) (w.alloc (.cells #[.int .u8 z] 5)) 26 o.type 5 i0 (.int .u8 0) 1 1 Try.underlying26 hi hz0 hz1 hz2 rfl B A n c xs hown1
    (w.heap.size + 1) (some ⟨w.heap.size, 0, none⟩) 1 1 [.int .u8 z] hr (by intro u hu; simp at hu; subst hu; rfl) (by unfold maxLen; omega) (by omega) (by simp; omega) (by omega)
  refine wpList_plain hgd fun _ hK => ?_
  unfold Oper.wp execOp
  simp only [ho, resolve, invoke, builtin, Sem.run_bind, Sem.run_pure, Result.andThen_ok, List.map_toArray, List.map_cons, List.map_nil, hs, hx, hrun]
  exact hK _ _ (h A' c' w' h2 (((Below.refl _ _).alloc hB _).trans h3))

/-- one of its own cells is written -/
theorem Own.stored {w : World} {B : Nat} {e : TypeId} {g o n c : Nat} {xs : List Value} (h : Own w B e 1 (some ⟨g, o, none⟩) n c xs) (j : Nat) (hj : j < n) (u : Value) :
    Own (w.setCell ⟨g, o + j, none⟩ u) B e 1 (some ⟨g, o, none⟩) n c (xs.set j u) := by
  refine ⟨by rw [List.length_set]; exact h.len, h.cap, h.lim, h.nil, fun hc => ?_⟩
  obtain ⟨g', off, cur, hA, hB, hg, hsz, ht⟩ := h.blk hc
  cases hA
  have hcap := h.cap
  refine ⟨g, o, cur.setIfInBounds (o + j) u, rfl, hB, ?_, by simpa using hsz, ?_⟩
  · simp [World.setCell, Array.getElem?_modify, hg]
  · rw [← ht]
    rw [Array.toList_setIfInBounds, List.drop_set, if_neg (by omega), List.take_set]
    congr 1; omega
/-- a cell below its own is written -/
theorem Own.far {w : World} {B size : Nat} {e : TypeId} {A : Option Addr} {n c : Nat} {xs : List Value} (h : Own w B e size A n c xs) {p : Addr} (hp : p.block < B) (u : Value) : Own (w.setCell p u) B e size A n c xs := by
  refine ⟨h.len, h.cap, h.lim, h.nil, fun hc => ?_⟩
  obtain ⟨g, off, cur, rfl, hB, hg, r⟩ := h.blk hc
  exact ⟨g, off, cur, rfl, hB, by rw [Below.heap_setCell _ _ _ _ (by omega)]; exact hg, r⟩
/-- where it lies, and what may be done there -/
theorem Own.at_ {w : World} {B : Nat} {e : TypeId} {A : Option Addr} {n c : Nat} {xs : List Value} (h : Own w B e 1 A n c xs) (hn : 0 < n) : ∃ g o, A = some ⟨g, o, none⟩ ∧ B ≤ g ∧ g < w.heap.size ∧
    ∀ j, j < n → (∃ v, w.cell? ⟨g, o + j, none⟩ = some v) ∧ w.frozen? ⟨g, o + j, none⟩ = false := by
  have hcap := h.cap
  obtain ⟨g, off, cur, rfl, hB, hg, hsz, ht⟩ := h.blk (by omega)
  have hlt : g < w.heap.size := (Array.getElem?_eq_some_iff.1 hg).1
  refine ⟨g, off, rfl, hB, hlt, fun j hj => ⟨⟨cur[off + j]'(by omega), ?_⟩, by simp [World.frozen?, hg]⟩⟩
  rw [cell_of_row w g (off + j) cur e (0, 0) hg]
  simp

/-- a slice into which may be written -/
def Room (w : World) (B : Nat) (A : Option Addr) (n : Nat) : Prop :=
  0 < n → ∃ g o, A = some ⟨g, o, none⟩ ∧ B ≤ g ∧ ∀ j, j < n → (∃ v, w.cell? ⟨g, o + j, none⟩ = some v) ∧ w.frozen? ⟨g, o + j, none⟩ = false
theorem Room.set_ {w : World} {B : Nat} {A : Option Addr} {n : Nat} (h : Room w B A n) (p : Addr) (u : Value) : Room (w.setCell p u) B A n := by
  intro hn
  obtain ⟨g, o, rfl, hB, hc⟩ := h hn
  refine ⟨g, o, rfl, hB, fun j hj => ?_⟩
  obtain ⟨⟨v, hv⟩, hf⟩ := hc j hj
  exact ⟨cell?_setCell_some hv, by rw [World.frozen?_setCell]; exact hf⟩
theorem Own.room {w : World} {B : Nat} {e : TypeId} {A : Option Addr} {n c : Nat} {xs : List Value} (h : Own w B e 1 A n c xs) : Room w B A n := by
  intro hn
  obtain ⟨g, off, cur, rfl, hB, hg, hsz, ht⟩ := h.blk (by have := h.cap; omega)
  refine ⟨g, off, rfl, hB, fun j hj => ?_⟩
  have := h.cap
  refine ⟨⟨cur[off + j]'(by omega), ?_⟩, by simp [World.frozen?, hg]⟩
  rw [cell_of_row w g (off + j) cur e (0, 0) hg]
  simp
theorem Room.below {w w' : World} {B B' : Nat} {A : Option Addr} {n : Nat} (h : Room w B A n) (hb : Below B' w w') (hB : w.heap.size ≤ B') : Room w' B A n := by
  intro hn
  obtain ⟨g, o, rfl, hB, hc⟩ := h hn
  refine ⟨g, o, rfl, hB, fun j hj => ?_⟩
  obtain ⟨⟨v, hv⟩, hf⟩ := hc j hj
  have hlt : g < w.heap.size := World.block_lt_of_cell? w _ hv
  exact ⟨⟨v, (hb.cell (p := ⟨g, o + j, none⟩) (by show g < B'; omega)).trans hv⟩, (hb.frozen (p := ⟨g, o + j, none⟩) (by show g < B'; omega)).trans hf⟩
end Go.Proofs.Ytioanppnkhiokaa

/-
  Regions that draw their order, taken by hand: the operation written out.
-/
namespace Go.Proofs.Ytioanppnkhiokaa
open Go.RowKit
section
variable {P : Program} {md : Region.Mode} {Q : Exit → Act → World → Prop} {S : World → Prop}
theorem at_drop {l : List Oper} {i : Nat} {o : Oper} {r : List Oper} (h : l.drop i = o :: r) : l.toArray[i]? = some o := by
  have : (l.drop i)[0]? = some o := by rw [h]; rfl
  simpa using this
theorem hTake {l r : List Oper} {i : Nat} {oi : Oper} {v : Value} {fuel : Nat} {listed : Array Bool} {a : Act} {w : World} (hi : l.drop i = oi :: r)
    (hs : Region.noSelect l.toArray = true) (hf : Region.free md l.toArray listed i = true) (hr : (Region.ready md l.toArray listed).contains i = true)
    (hQ : ∀ c a w, Q (.panic c) (a.put oi.dst v) w → Q (.panic c) a w) (hy : YieldsIf P l.toArray S oi v a) (hS : S w)
    (h : wpAnyH P md l.toArray Q S fuel (listed.setIfInBounds i true) (a.put oi.dst v) w) : wpAnyH P md l.toArray Q S (fuel + 1) listed a w :=
  wpAnyH_take (at_drop hi) hs hf hr hQ hy hS h
theorem hOne {l r : List Oper} {i : Nat} {o : Oper} {fuel : Nat} {listed : Array Bool} {a : Act} {w : World} (hi : l.drop i = o :: r) (hr : Region.ready md l.toArray listed = [i])
    (h : ∀ K' : Act → World → Prop, Shut (∀ a w, S w → (S w → wpAnyH P md l.toArray Q S fuel (listed.setIfInBounds i true) a w) → K' a w) → if Region.wanted o (yielded l.toArray a.tmps) = true then Oper.wp P o a w K' Q else K' (a.put o.dst undef) w) :
    wpAnyH P md l.toArray Q S (fuel + 1) listed a w :=
  wpAnyH_ready hr (by simp) (AllReadyH.cons (at_drop hi) h AllReadyH.nil)
theorem hTwo {l r r' : List Oper} {i i' : Nat} {o o' : Oper} {fuel : Nat} {listed : Array Bool} {a : Act} {w : World} (hi : l.drop i = o :: r) (hi' : l.drop i' = o' :: r') (hr : Region.ready md l.toArray listed = [i, i'])
    (h : ∀ K' : Act → World → Prop, Shut (∀ a w, S w → (S w → wpAnyH P md l.toArray Q S fuel (listed.setIfInBounds i true) a w) → K' a w) → if Region.wanted o (yielded l.toArray a.tmps) = true then Oper.wp P o a w K' Q else K' (a.put o.dst undef) w)
    (h' : ∀ K' : Act → World → Prop, Shut (∀ a w, S w → (S w → wpAnyH P md l.toArray Q S fuel (listed.setIfInBounds i' true) a w) → K' a w) → if Region.wanted o' (yielded l.toArray a.tmps) = true then Oper.wp P o' a w K' Q else K' (a.put o'.dst undef) w) :
    wpAnyH P md l.toArray Q S (fuel + 1) listed a w :=
  wpAnyH_ready hr (by simp) (AllReadyH.cons (at_drop hi) h (AllReadyH.cons (at_drop hi') h' AllReadyH.nil))
end
end Go.Proofs.Ytioanppnkhiokaa

/-
  Blocks known whole; worlds that have grown; small steps of walks. No function of the program.
-/
namespace Go.Proofs.Ytioanppnkhiokaa
open Go.RowKit

/-- block g is just these cells -/
def Blk (w : World) (g : Nat) (t : TypeId) (cs : Array Value) : Prop := w.heap[g]? = some (.cells cs t (0, 0))
section
variable {w w' : World} {g : Nat} {t : TypeId} {cs : Array Value}
theorem Blk.lt (h : Blk w g t cs) : g < w.heap.size := (Array.getElem?_eq_some_iff.1 h).1
theorem Blk.cell (h : Blk w g t cs) (i : Nat) : w.cell? ⟨g, i, none⟩ = cs[i]? := cell_of_row w g i cs t (0, 0) h
theorem Blk.frozen (h : Blk w g t cs) (i : Nat) : w.frozen? ⟨g, i, none⟩ = false := by
  unfold Blk at h
  simp [World.frozen?, h]
theorem Blk.new (w : World) (t : TypeId) (cs : Array Value) : Blk (w.alloc (.cells cs t)) w.heap.size t cs := heap_alloc_new w _
theorem Blk.new' {w : World} {g : Nat} {t : TypeId} {cs : Array Value} (hg : g = w.heap.size) : Blk (w.alloc (.cells cs t)) g t cs := by subst hg; exact heap_alloc_new w _
theorem Blk.drew (h : Blk w g t cs) : Blk w.drew g t cs := h
theorem Blk.alloc (h : Blk w g t cs) (o : Obj) : Blk (w.alloc o) g t cs := (Below.heap_alloc w o g h.lt).trans h
theorem Blk.set_ (h : Blk w g t cs) (i : Nat) (u : Value) : Blk (w.setCell ⟨g, i, none⟩ u) g t (cs.setIfInBounds i u) := by
  unfold Blk at h ⊢
  simp [World.setCell, Array.getElem?_modify, h]
theorem Blk.far (h : Blk w g t cs) {p : Addr} (hp : g ≠ p.block) (u : Value) : Blk (w.setCell p u) g t cs := (Below.heap_setCell w p u g hp).trans h
theorem Blk.below {B : Nat} (h : Blk w g t cs) (hb : Below B w w') (hg : g < B) : Blk w' g t cs := (hb.block g hg).trans h
theorem Blk.eq {cs' : Array Value} (h : Blk w g t cs) (e : cs = cs') : Blk w g t cs' := e ▸ h
end
theorem Blk.row {w : World} {g : Nat} {t : TypeId} {cs : Array Value} (h : Blk w g t cs) (cs' : Array Value) : Blk (w.setRow g cs') g t cs' := setRow_heap w g cs cs' t _ h
theorem Blk.row_far {w : World} {g g' : Nat} {t : TypeId} {cs : Array Value} (h : Blk w g t cs) (cs' : Array Value) (hg : g ≠ g') : Blk (w.setRow g' cs') g t cs := (setRow_other w g' g cs' hg).trans h
theorem below_row {a w : World} {B g : Nat} (h : Below B a w) (hg : B ≤ g) (cs : Array Value) : Below B a (w.setRow g cs) :=
  h.trans ⟨rfl, rfl, rfl, by simp, fun k hk => setRow_other w g k cs (by omega)⟩
theorem calls_at {P : Program} {f : FuncId} {args : Array Value} {w : World} {post : Ending → World → Prop} (I : World → Prop) (hI : I w) (h : ∀ w2, I w2 → Calls P f args w2 post) : Calls P f args w post := h w hI
theorem grown_set {w wr : World} {g i : Nat} {u : Value} (h : w.grownBy wr (some g)) : w.grownBy (wr.setCell ⟨g, i, none⟩ u) (some g) :=
  ⟨h.os, h.tape, h.output, by rw [size_set]; exact h.size, fun k hk hne => by
    rw [Below.heap_setCell _ _ _ _ (fun e => hne (by rw [e]))]; exact h.block k hk hne⟩
theorem own_block {w : World} {base n c g : Nat} {e : TypeId} {xs : List Value} (h : w.ownsRow base e 1 (.slice (some ⟨g, 0, none⟩) n c) n xs) : ∃ cur, Blk w g e cur ∧ cur.size = c ∧ cur.toList.take n = xs ∧ n ≤ c ∧ c ≤ maxLen := by
  rcases h.2 with ⟨h, _⟩ | ⟨g0, cap, cur, hv, hbg, hg, hnc, hcm, hcs, htake⟩
  · cases h
  · simp only [Value.slice.injEq, Option.some.injEq, Addr.mk.injEq] at hv
    obtain ⟨⟨rfl, _⟩, _, rfl⟩ := hv
    exact ⟨cur, hg, by omega, by simpa using htake, hnc, hcm⟩
theorem Bytes.of_blk {w : World} {g n c : Nat} {t : TypeId} {cs : Array Value} {l : List UInt8} (h : Blk w g t cs) (ht : cs.toList.take n = bv l) (hn : n = l.length) (hc : n ≤ c) (hm : c ≤ maxLen) :
    Bytes w (g + 1) (some ⟨g, 0, none⟩) n c l := by
  refine ⟨hn, hc, hm, by rw [bv_length]; omega, fun _ => ⟨g, 0, rfl, Nat.lt_succ_self g, fun j u hu => ?_⟩⟩
  rw [Nat.zero_add, h.cell j, ← Array.getElem?_toList]
  rw [← ht, List.getElem?_take] at hu
  split at hu
  · exact hu
  · cases hu
theorem below_grown {B g : Nat} {a w w' : World} (h : Below B a w) (hg : w.grownBy w' (some g)) (hB : B ≤ g) (hs : B ≤ w.heap.size) : Below B a w' :=
  h.trans ⟨hg.os, hg.tape, hg.output, hg.size, fun k hk => hg.block k (by omega) (by simp; omega)⟩
theorem Blk.grown {w w' : World} {g g' : Nat} {t : TypeId} {cs : Array Value} (h : Blk w g t cs) (hg : w.grownBy w' (some g')) (hne : g ≠ g') : Blk w' g t cs := (hg.block g h.lt (by simp; omega)).trans h
theorem code_at {P : Program} {c : Code} {w : World} {a : Act} {Q : Exit → Act → World → Prop} (I : World → Prop) (hI : I w) (h : ∀ w2, I w2 → Code.wp P c Q a w2) : Code.wp P c Q a w := h w hI
/-- reads of whole rows, in a region that draws -/
theorem wpStill_load_row {P : Program} {ops : Array Oper} {w : World} {Q : Act → Prop} {o : Oper} {rest : List Oper} {a : Act} (hgd : o.guard = none) (ty : TypeId) (x : Operand) (ho : o.op = .load ty x)
    (g : Nat) (hx : a.eval x = .pointer (some ⟨g, 0, none⟩)) (t : TypeId) (cs : Array Value) (fr : Nat × Nat) (d : TypeDesc) (hg : w.heap[g]? = some (.cells cs t fr))
    (hu : P.underlying ty = some d) (hd : (match d with | .struct _ | .array _ _ => true | _ => false) = true) (hi : (P.info? ty).map (·.size) = some cs.size)
    (h : wpStill P ops w Q rest (a.put o.dst (.agg cs))) : wpStill P ops w Q (o :: rest) a := by
  refine wpStill_step fun K hK => ?_
  have hw : Region.wanted o (yielded ops a.tmps) = true := by simp [Region.wanted, hgd]
  rw [if_pos hw]
  unfold Oper.still execOp
  simp only [ho, hx, Instr.loadAt, Instr.sureAddr, Sem.run_bind, Sem.run_pure, Result.andThen_ok, run_loadVar_row w g t ty cs fr d hg hu hd hi]
  exact ⟨rfl, hK _ h⟩
/-- two results, the first of them a whole row -/
theorem results_row_tmp {P : Program} {fn : Func} {p q : Tmp} {ty : TypeId} (h : fn.results = #[.cell p ty, .tmp q]) (tmps : Array Value) (w : World) (g : Nat) (t : TypeId) (cs : Array Value) (fr : Nat × Nat) (d : TypeDesc) (v : Value)
    (hp : tmps.getD p undef = .pointer (some ⟨g, 0, none⟩)) (hq : tmps.getD q undef = v) (hg : w.heap[g]? = some (.cells cs t fr))
    (hu : P.underlying ty = some d) (hd : (match d with | .struct _ | .array _ _ => true | _ => false) = true) (hi : (P.info? ty).map (·.size) = some cs.size) :
    (results fn tmps).run P w = .ok (.tuple #[.agg cs, v]) w := by
  have hp' : tmps[p]?.getD undef = .pointer (some ⟨g, 0, none⟩) := by simpa using hp
  have hq' : tmps[q]?.getD undef = v := by simpa using hq
  simp [results, h, hp', hq', asAddr, run_loadVar_row w g t ty cs fr d hg hu hd hi]
theorem grown_below {w w' : World} {b : Nat} (h : Below w.heap.size w w') : w.grownBy w' (some b) := ⟨h.os, h.tape, h.output, h.size, fun k hk _ => h.block k hk⟩
theorem grown_trans {w w1 w2 : World} {b : Nat} (h : Below w.heap.size w w1) (hg : w1.grownBy w2 (some b)) : w.grownBy w2 (some b) :=
  ⟨hg.os.trans h.os, hg.tape.trans h.tape, hg.output.trans h.output, Nat.le_trans h.size hg.size, fun k hk hne => (hg.block k (Nat.lt_of_lt_of_le hk h.size) hne).trans (h.block k hk)⟩
theorem grown_row {w w1 : World} {b g : Nat} (h : w.grownBy w1 (some b)) (hg : w.heap.size ≤ g) (cs : Array Value) : w.grownBy (w1.setRow g cs) (some b) :=
  ⟨h.os, h.tape, h.output, by simp; exact h.size, fun k hk hne => (setRow_other w1 g k cs (by omega)).trans (h.block k hk hne)⟩
theorem bytes_ext {a b : ByteArray} (h : a.data.toList = b.data.toList) : a = b := by
  cases a; cases b
  simp only at h
  congr 1
  exact Array.ext' h
section
variable {w w1 : World} {g : Nat}
theorem grown_alloc (h : w.grownBy w1 (some g)) (o : Obj) : w.grownBy (w1.alloc o) (some g) :=
  ⟨h.os, h.tape, h.output, by simp; have := h.size; omega, fun k hk hne => (Below.heap_alloc w1 o k (Nat.lt_of_lt_of_le hk h.size)).trans (h.block k hk hne)⟩
theorem grown_drew (h : w.grownBy w1 (some g)) : w.grownBy w1.drew (some g) := ⟨h.os, h.tape, h.output, h.size, h.block⟩
theorem grown_far (h : w.grownBy w1 (some g)) {p : Addr} (hp : w.heap.size ≤ p.block) (u : Value) : w.grownBy (w1.setCell p u) (some g) :=
  ⟨h.os, h.tape, h.output, by rw [size_set]; exact h.size, fun k hk hne => (Below.heap_setCell w1 p u k (by omega)).trans (h.block k hk hne)⟩
theorem grown_step {w2 : World} (h : w.grownBy w1 (some g)) (hb : Below w1.heap.size w1 w2) : w.grownBy w2 (some g) :=
  ⟨hb.os.trans h.os, hb.tape.trans h.tape, hb.output.trans h.output, Nat.le_trans h.size hb.size, fun k hk hne => (hb.block k (Nat.lt_of_lt_of_le hk h.size)).trans (h.block k hk hne)⟩
end
theorem Bytes.cutIf {w : World} {B n c k : Nat} {A : Option Addr} {l : List UInt8} (h : Bytes w B A n c l) (hk : k ≤ n) : Bytes w B (if c = k then A else A.map (·.add k)) (n - k) (c - k) (l.drop k) := by
  have := h.reads.cut hk h.cap
  simp only [Nat.mul_one] at this
  exact ⟨by rw [List.length_drop, h.len], by have := h.cap; omega, by have := h.lim; omega, by rw [bv, List.map_drop]; exact this⟩
theorem Bytes.takeN {w : World} {B n c k : Nat} {A : Option Addr} {l : List UInt8} (h : Bytes w B A n c l) (hk : k ≤ n) : Bytes w B A k c (l.take k) := by
  have := h.reads.take hk
  rw [Nat.mul_one] at this
  exact ⟨by rw [List.length_take, ← h.len]; omega, by have := h.cap; omega, h.lim, by rw [bv, List.map_take]; exact this⟩
theorem Bytes.grown {w w1 : World} {g B n c : Nat} {A : Option Addr} {l : List UInt8} (h : Bytes w B A n c l) (hg : w.grownBy w1 (some g)) (hB : B ≤ g) (hs : B ≤ w.heap.size) : Bytes w1 B A n c l :=
  ⟨h.len, h.cap, h.lim, h.reads.keep fun p hp => World.cell?_of_block (hg.block p.block (by omega) (by simp; omega))⟩
end Go.Proofs.Ytioanppnkhiokaa

namespace Go.Proofs.Ytioanppnkhiokaa
open Go.RowKit
attribute [go_sem] Dig.add_v Dig.xor_v

/-- the first k of four words are of one row, the others of another -/
def Dig.fill (k : Nat) (x y : Dig.St) : Dig.St := ⟨if 0 < k then x.a else y.a, if 1 < k then x.b else y.b, if 2 < k then x.c else y.c, if 3 < k then x.d else y.d⟩
theorem row4_at (s : Dig.St) (k : Nat) (h : k < 4) : (row4 s)[k]? = some (.int .u64 (Dig.v (Dig.at4 s k))) := by
  match k, h with
  | 0, _ => rfl
  | 1, _ => rfl
  | 2, _ => rfl
  | 3, _ => rfl
theorem row4_fill (x y : Dig.St) (k : Nat) (h : k < 4) (z : UInt64) (hz : z = Dig.at4 x k) : (row4 (Dig.fill k x y)).setIfInBounds k (.int .u64 (Dig.v z)) = row4 (Dig.fill (k + 1) x y) := by
  subst hz
  match k, h with
  | 0, _ => rfl
  | 1, _ => rfl
  | 2, _ => rfl
  | 3, _ => rfl
theorem Dig.fill_at (x y : Dig.St) (k : Nat) (h : k < 4) : Dig.at4 (Dig.fill k x y) k = Dig.at4 y k := by
  match k, h with
  | 0, _ => rfl
  | 1, _ => rfl
  | 2, _ => rfl
  | 3, _ => rfl

theorem info_state : (Try.prog.info? 100).map (·.size) = some 4 := by kernel_rfl
theorem row4_one (s : Dig.St) : (row4 s).all (·.oneCell') = true :=
  Array.all_eq_true_iff_forall_mem.2 (by intro u hu; simp [row4] at hu; rcases hu with rfl | rfl | rfl | rfl <;> rfl)
/-- a row of words is stored -/
theorem store_row4 {w : World} {ops : Array Oper} {rest : List Oper} {o : Oper} {a : Act} {Q : Exit → Act → World → Prop} (hgd : o.guard = none) (x y : Operand) (ho : o.op = .store 100 x y)
    (g : Nat) (s : Dig.St) (hx : a.eval x = .pointer (some ⟨g, 0, none⟩)) (hy : a.eval y = .agg (row4 s)) (old : Array Value) (hg : Blk w g 100 old) (hold : old.size = 4)
    (h : wpList Try.prog ops Q rest (a.put o.dst undef) (w.setRow g (row4 s))) : wpList Try.prog ops Q (o :: rest) a w :=
  wpList_store_row hgd 100 x y ho g (row4 s) hx hy _ old hg info_state hold (row4_one s) h
theorem load_row4 {w : World} {ops : Array Oper} {rest : List Oper} {o : Oper} {a : Act} {Q : Exit → Act → World → Prop} (hgd : o.guard = none) (x : Operand) (ho : o.op = .load 100 x)
    (g : Nat) (s : Dig.St) (hx : a.eval x = .pointer (some ⟨g, 0, none⟩)) (hg : Blk w g 100 (row4 s))
    (h : wpList Try.prog ops Q rest (a.put o.dst (.agg (row4 s))) w) : wpList Try.prog ops Q (o :: rest) a w :=
  wpList_load_row hgd 100 x ho g hx _ (row4 s) _ _ hg Try.underlying100 rfl info_state h
theorem row4_size (s : Dig.St) : (row4 s).size = 4 := rfl

/-- the first loop of a piece: so many words are in -/
def MixA (w : World) (s m : Dig.St) (k : Nat) (wr : World) : Prop :=
  Blk wr w.heap.size 100 (row4 (Dig.fill k (Dig.xor4 s m) s)) ∧ Blk wr (w.heap.size + 1) 100 (row4 ⟨0, 0, 0, 0⟩) ∧ Blk wr (w.heap.size + 1 + 1) 100 (row4 s) ∧
  Blk wr (w.heap.size + 1 + 1 + 1) 99 (row4 (Dig.fill k m ⟨0, 0, 0, 0⟩)) ∧ Below w.heap.size w wr
theorem Bytes.cut {w : World} {B n c k : Nat} {A : Option Addr} {l : List UInt8} {g o : Nat} (h : Bytes w B A n c l) (hA : A = some ⟨g, o, none⟩) (hk : k < n) :
    Bytes w B (some ⟨g, o + k, none⟩) (n - k) (c - k) (l.drop k) := by
  obtain ⟨h1, h2, h3, h4⟩ := h
  refine ⟨by rw [List.length_drop]; omega, by omega, by omega, ?_⟩
  have := h4.cut (k := k) (cap := c) (by omega) h2
  rw [if_neg (by omega), hA] at this
  rw [bv, List.map_drop]
  simpa [add_mk, bv] using this
theorem Dig.xor4_at (x y : Dig.St) (k : Nat) (h : k < 4) : Dig.at4 (Dig.xor4 x y) k = Dig.at4 x k ^^^ Dig.at4 y k := by
  match k, h with
  | 0, _ => rfl
  | 1, _ => rfl
  | 2, _ => rfl
  | 3, _ => rfl
/-- the rounds of a piece: so many are done -/
def MixB (w : World) (m s : Dig.St) (r : Nat) (s' : Dig.St) (K : UInt64) (wr : World) : Prop :=
  Dig.rounds (Dig.words m) (Dig.xor4 s m) Dig.golden = Dig.rounds ((Dig.words m).drop r) s' K ∧
  Blk wr w.heap.size 100 (row4 s') ∧ Blk wr (w.heap.size + 1) 100 (row4 ⟨0, 0, 0, 0⟩) ∧ Blk wr (w.heap.size + 1 + 1) 100 (row4 s) ∧
  Blk wr (w.heap.size + 1 + 1 + 1) 99 (row4 m) ∧ Below w.heap.size w wr
def MixC (w : World) (m s s' : Dig.St) (wr : World) : Prop :=
  Blk wr w.heap.size 100 (row4 s') ∧ Blk wr (w.heap.size + 1) 100 (row4 ⟨0, 0, 0, 0⟩) ∧ Blk wr (w.heap.size + 1 + 1) 100 (row4 s) ∧
  Blk wr (w.heap.size + 1 + 1 + 1) 99 (row4 m) ∧ Below w.heap.size w wr
/-- the last loop of a piece -/
def MixD (w : World) (s s' : Dig.St) (k : Nat) (wr : World) : Prop :=
  Blk wr w.heap.size 100 (row4 (Dig.fill k (Dig.xor4 s' s) s')) ∧ Blk wr (w.heap.size + 1) 100 (row4 ⟨0, 0, 0, 0⟩) ∧ Blk wr (w.heap.size + 1 + 1) 100 (row4 s) ∧ Below w.heap.size w wr
theorem Dig.at_piece (l : List UInt8) (k : Nat) (h : k < 4) : Dig.word ((l.drop (8 * k)).take 8) = Dig.at4 (Dig.piece l) k := by
  match k, h with
  | 0, _ => rfl
  | 1, _ => rfl
  | 2, _ => rfl
  | 3, _ => rfl

set_option maxHeartbeats 2000000 in
set_option maxRecDepth 100000 in
theorem dig_mixed (s : Dig.St) (l : List UInt8) (A : Option Addr) (n c B : Nat) (w : World) (h : Bytes w B A n c l) (hl : l.length = 32) (hB : B ≤ w.heap.size) :
    Calls Try.prog 47 #[.agg (row4 s), .slice A n c] w fun e w' => e = .returned (.agg (row4 (Dig.mixed s l))) ∧ Below w.heap.size w w' := by
  have hlen := h.len
  have hcap := h.cap
  rw [hl] at hlen
  subst hlen
  obtain ⟨g, o, rfl, hgB, _⟩ := h.at_ (k := 0) (by omega)
  replace h := Lib.hid h
  go_enter Try.func47, Try.ntmps47
  go_wp2_with fail
  go_step3
  go_wp2_with (first
    | (refine load_row4 rfl _ rfl _ _ rfl (Blk.alloc (Blk.new _ _ _) _) ?_)
    | (refine store_row4 rfl _ _ rfl _ _ rfl rfl _ (Blk.new' (by simp)) rfl ?_))
  go_loopw [12] (fun i wr => ∃ k : Nat, k ≤ 4 ∧ i = .int .i64 k ∧ MixA w s (Dig.piece l) k wr) (fun i _ => 4 - (intOf i).toNat)
  case atStart =>
    refine ⟨0, Nat.zero_le _, rfl, ?_, ?_, ?_, ?_, ?_⟩
    · exact ((((Blk.new w _ _).alloc _).alloc _).row_far _ (by omega)).alloc _
    · exact (Blk.eq ((((Blk.new' (by simp)).alloc _).row_far _ (by omega)).alloc _) rfl)
    · exact ((Blk.new' (by simp)).row _).alloc _
    · exact Blk.eq (Blk.new' (by simp)) rfl
    · exact Below.alloc (below_row (Below.alloc (Below.alloc (Below.alloc (Below.refl _ _) (by simp <;> omega) _) (by simp <;> omega) _) (by simp <;> omega) _) (by omega) _) (by simp; omega) _
  case round =>
    obtain ⟨k, hk, rfl, h0, h1, h2, h3, hbel⟩ := hrel
    have hgN : g < w.heap.size := by omega
    by_cases hlt : k < 4
    · replace h0 := Lib.hid h0
      replace h1 := Lib.hid h1
      replace h2 := Lib.hid h2
      replace h3 := Lib.hid h3
      have hi : IntKind.i64.wrap (8 * (k : Int)) = 8 * (k : Int) := by simp [IntKind.wrap, IntKind.bits, IntKind.signed]; omega
      have hi2 : (8 * (k : Int)).toNat = 8 * k := by omega
      have hi3 : (c : Int) ≠ 8 * (k : Int) := by omega
      have c3 := (h3.out.cell k).trans (row4_at _ k hlt)
      have f3 := h3.out.frozen k
      go_wp2_with fail
      refine (dig_word (l.drop (8 * k)) _ _ _ _ wr (((h.out.more hB).below hbel).cut rfl (by omega)) (by simp; omega)).mono ?_
      rintro _ _ ⟨rfl, rfl⟩
      rw [Dig.at_piece l k hlt]
      go_wp2_with fail
      have n0 := h0.out.far (p := ⟨w.heap.size + 1 + 1 + 1, k, none⟩) (by simp; omega) (.int .u64 (Dig.v (Dig.at4 (Dig.piece l) k)))
      have n1 := h1.out.far (p := ⟨w.heap.size + 1 + 1 + 1, k, none⟩) (by simp) (.int .u64 (Dig.v (Dig.at4 (Dig.piece l) k)))
      have n2 := h2.out.far (p := ⟨w.heap.size + 1 + 1 + 1, k, none⟩) (by simp) (.int .u64 (Dig.v (Dig.at4 (Dig.piece l) k)))
      have n3 := (h3.out.set_ k (.int .u64 (Dig.v (Dig.at4 (Dig.piece l) k)))).eq (row4_fill _ _ k hlt _ rfl)
      have nb := hbel.setCell (p := ⟨w.heap.size + 1 + 1 + 1, k, none⟩) (by simp; omega) (.int .u64 (Dig.v (Dig.at4 (Dig.piece l) k)))
      clear c3 f3 h0 h1 h2 h3 hbel
      generalize wr.setCell ⟨w.heap.size + 1 + 1 + 1, k, none⟩ (.int .u64 (Dig.v (Dig.at4 (Dig.piece l) k))) = w2 at *
      have c0 := (n0.cell k).trans (row4_at _ k hlt)
      rw [Dig.fill_at _ _ k hlt] at c0
      have f0 := n0.frozen k
      have c3 := (n3.cell k).trans (row4_at _ k hlt)
      have hx : Dig.at4 (Dig.fill (k + 1) (Dig.piece l) ⟨0, 0, 0, 0⟩) k = Dig.at4 (Dig.piece l) k := by
        match k, hlt with
        | 0, _ => rfl
        | 1, _ => rfl
        | 2, _ => rfl
        | 3, _ => rfl
      rw [hx] at c3
      replace n0 := Lib.hid n0
      replace n1 := Lib.hid n1
      replace n2 := Lib.hid n2
      replace n3 := Lib.hid n3
      clear hx
      go_still_tail 8, (by kernel_rfl)
      change wpList _ _ _ _ _ w2.drew
      go_wp2_with fail
      refine ⟨⟨k + 1, by omega, by go_num, ?_, ?_, ?_, ?_, ?_⟩, ?_⟩
      · exact ((n0.out.set_ k _).eq (row4_fill (Dig.xor4 s (Dig.piece l)) s k hlt _ (Dig.xor4_at _ _ k hlt).symm)).drew
      · exact (n1.out.far (by simp) _).drew
      · exact (n2.out.far (by simp; omega) _).drew
      · exact (n3.out.far (by simp; omega) _).drew
      · exact (nb.setCell (Nat.le_refl _) _).drew
      · simp [intOf]; omega
    · obtain rfl : k = 4 := by omega
      replace h0 := h0.eq (cs' := row4 (Dig.xor4 s (Dig.piece l))) rfl
      replace h3 := h3.eq (cs' := row4 (Dig.piece l)) rfl
      replace h0 := Lib.hid h0
      replace h1 := Lib.hid h1
      replace h2 := Lib.hid h2
      replace h3 := Lib.hid h3
      go_wp2_with fail
      go_step3
      go_wp2_with fail
      have hgold : (11400714819323198485 : Int) = Dig.v Dig.golden := by decide
      rw [hgold]
      go_loopw [8, 9] (fun kv rv wx => ∃ (r : Nat) (s' : Dig.St) (K : UInt64), r < 8 ∧ kv = .int .u64 (Dig.v K) ∧ rv = .int .i64 r ∧ MixB w (Dig.piece l) s r s' K wx) (fun _ rv _ => 8 - (intOf rv).toNat)
      case atStart => exact ⟨0, Dig.xor4 s (Dig.piece l), Dig.golden, by omega, rfl, rfl, ⟨rfl, h0.out, h1.out, h2.out, h3.out, hbel⟩⟩
      case round =>
        clear h0 h1 h2 h3 hbel
        obtain ⟨r, s', K, hr8, rfl, rfl, hro, h0, h1, h2, h3, hbel⟩ := hrel
        rw [Dig.rounds_step _ _ _ r hr8] at hro
        have c0 : _ = some (Value.int .u64 (Dig.v s'.a)) := h0.cell 0
        have c1 : _ = some (Value.int .u64 (Dig.v s'.b)) := h0.cell 1
        have c2 : _ = some (Value.int .u64 (Dig.v s'.c)) := h0.cell 2
        have c3 : _ = some (Value.int .u64 (Dig.v s'.d)) := h0.cell 3
        have f0 := h0.frozen 0
        have f1 := h0.frozen 1
        have f2 := h0.frozen 2
        have f3 := h0.frozen 3
        have d0 := (h3.cell (r % 4)).trans (row4_at _ (r % 4) (by omega))
        replace h0 := Lib.hid h0
        replace h1 := Lib.hid h1
        replace h2 := Lib.hid h2
        replace h3 := Lib.hid h3
        replace hro := Lib.hid hro
        have q1 : (r : Int).tmod 4 = (r : Int) % 4 := Int.tmod_eq_emod_of_nonneg (by omega)
        have q2 : (r : Int) % 4 < 4 := by omega
        have q3 : ((r : Int) % 4).toNat = r % 4 := by omega
        have q4 : 0 ≤ (r : Int) % 4 := by omega
        go_wp2_with fail
        go_still_tail 13, (by kernel_rfl)
        change wpList _ _ _ _ _ wr.drew
        go_wp2_with fail
        refine calls_at (MixC w (Dig.piece l) s ⟨s'.a + (s'.b + Dig.at4 (Dig.piece l) (r % 4) + K), s'.b, s'.c, s'.d⟩) ⟨by (apply Blk.eq; (repeat (first | with_reducible apply Blk.set_ | with_reducible apply Blk.drew | with_reducible exact h0.out)); rfl), by (repeat (first | with_reducible refine Blk.drew ?_ | (with_reducible refine Blk.far ?_ (by simp <;> omega) _) | with_reducible exact h1.out)), by (repeat (first | with_reducible refine Blk.drew ?_ | (with_reducible refine Blk.far ?_ (by simp <;> omega) _) | with_reducible exact h2.out)), by (repeat (first | with_reducible refine Blk.drew ?_ | (with_reducible refine Blk.far ?_ (by simp <;> omega) _) | with_reducible exact h3.out)), by (repeat (first | with_reducible refine Below.drew ?_ | (with_reducible refine Below.setCell ?_ (by simp <;> omega) _) | with_reducible exact hbel))⟩ ?_
        clear h0 h1 h2 h3 hbel c0 c1 c2 c3 f0 f1 f2 f3 d0
        generalize ha1 : s'.a + (s'.b + Dig.at4 (Dig.piece l) (r % 4) + K) = a1
        rintro wn ⟨n0, n1, n2, n3, hbel⟩
        have c0 : _ = some (Value.int .u64 (Dig.v a1)) := n0.cell 0
        have c1 : _ = some (Value.int .u64 (Dig.v s'.b)) := n0.cell 1
        have c2 : _ = some (Value.int .u64 (Dig.v s'.c)) := n0.cell 2
        have c3 : _ = some (Value.int .u64 (Dig.v s'.d)) := n0.cell 3
        have f0 := n0.frozen 0
        have f1 := n0.frozen 1
        have f2 := n0.frozen 2
        have f3 := n0.frozen 3
        replace n0 := Lib.hid n0
        replace n1 := Lib.hid n1
        replace n2 := Lib.hid n2
        replace n3 := Lib.hid n3
        refine (dig_rot32 _ _).mono ?_
        rintro _ _ ⟨rfl, rfl⟩
        go_wp2_with fail
        refine calls_at (MixC w (Dig.piece l) s ⟨a1, s'.b, s'.c + Dig.rot (s'.d ^^^ a1) 32, Dig.rot (s'.d ^^^ a1) 32⟩) ⟨by (apply Blk.eq; (repeat (first | with_reducible apply Blk.set_ | with_reducible apply Blk.drew | with_reducible exact n0.out)); rfl), by (repeat (first | with_reducible refine Blk.drew ?_ | (with_reducible refine Blk.far ?_ (by simp <;> omega) _) | with_reducible exact n1.out)), by (repeat (first | with_reducible refine Blk.drew ?_ | (with_reducible refine Blk.far ?_ (by simp <;> omega) _) | with_reducible exact n2.out)), by (repeat (first | with_reducible refine Blk.drew ?_ | (with_reducible refine Blk.far ?_ (by simp <;> omega) _) | with_reducible exact n3.out)), by (repeat (first | with_reducible refine Below.drew ?_ | (with_reducible refine Below.setCell ?_ (by simp <;> omega) _) | with_reducible exact hbel))⟩ ?_
        clear n0 n1 n2 n3 hbel c0 c1 c2 c3 f0 f1 f2 f3
        generalize hd1 : Dig.rot (s'.d ^^^ a1) 32 = d1
        generalize he1 : s'.c + d1 = e1
        rintro wn ⟨n0, n1, n2, n3, hbel⟩
        have c0 : _ = some (Value.int .u64 (Dig.v a1)) := n0.cell 0
        have c1 : _ = some (Value.int .u64 (Dig.v s'.b)) := n0.cell 1
        have c2 : _ = some (Value.int .u64 (Dig.v e1)) := n0.cell 2
        have c3 : _ = some (Value.int .u64 (Dig.v d1)) := n0.cell 3
        have f0 := n0.frozen 0
        have f1 := n0.frozen 1
        have f2 := n0.frozen 2
        have f3 := n0.frozen 3
        replace n0 := Lib.hid n0
        replace n1 := Lib.hid n1
        replace n2 := Lib.hid n2
        replace n3 := Lib.hid n3
        refine (dig_rot24 _ _).mono ?_
        rintro _ _ ⟨rfl, rfl⟩
        go_wp2_with fail
        refine calls_at (MixC w (Dig.piece l) s ⟨a1 + Dig.rot (s'.b ^^^ e1) 24, Dig.rot (s'.b ^^^ e1) 24, e1, d1⟩) ⟨by (apply Blk.eq; (repeat (first | with_reducible apply Blk.set_ | with_reducible apply Blk.drew | with_reducible exact n0.out)); rfl), by (repeat (first | with_reducible refine Blk.drew ?_ | (with_reducible refine Blk.far ?_ (by simp <;> omega) _) | with_reducible exact n1.out)), by (repeat (first | with_reducible refine Blk.drew ?_ | (with_reducible refine Blk.far ?_ (by simp <;> omega) _) | with_reducible exact n2.out)), by (repeat (first | with_reducible refine Blk.drew ?_ | (with_reducible refine Blk.far ?_ (by simp <;> omega) _) | with_reducible exact n3.out)), by (repeat (first | with_reducible refine Below.drew ?_ | (with_reducible refine Below.setCell ?_ (by simp <;> omega) _) | with_reducible exact hbel))⟩ ?_
        clear n0 n1 n2 n3 hbel c0 c1 c2 c3 f0 f1 f2 f3
        generalize hb1 : Dig.rot (s'.b ^^^ e1) 24 = b1
        generalize ha2 : a1 + b1 = a2
        rintro wn ⟨n0, n1, n2, n3, hbel⟩
        have c0 : _ = some (Value.int .u64 (Dig.v a2)) := n0.cell 0
        have c1 : _ = some (Value.int .u64 (Dig.v b1)) := n0.cell 1
        have c2 : _ = some (Value.int .u64 (Dig.v e1)) := n0.cell 2
        have c3 : _ = some (Value.int .u64 (Dig.v d1)) := n0.cell 3
        have f0 := n0.frozen 0
        have f1 := n0.frozen 1
        have f2 := n0.frozen 2
        have f3 := n0.frozen 3
        replace n0 := Lib.hid n0
        replace n1 := Lib.hid n1
        replace n2 := Lib.hid n2
        replace n3 := Lib.hid n3
        refine (dig_rot16 _ _).mono ?_
        rintro _ _ ⟨rfl, rfl⟩
        go_wp2_with fail
        refine calls_at (MixC w (Dig.piece l) s ⟨a2, b1, e1 + Dig.rot (d1 ^^^ a2) 16, Dig.rot (d1 ^^^ a2) 16⟩) ⟨by (apply Blk.eq; (repeat (first | with_reducible apply Blk.set_ | with_reducible apply Blk.drew | with_reducible exact n0.out)); rfl), by (repeat (first | with_reducible refine Blk.drew ?_ | (with_reducible refine Blk.far ?_ (by simp <;> omega) _) | with_reducible exact n1.out)), by (repeat (first | with_reducible refine Blk.drew ?_ | (with_reducible refine Blk.far ?_ (by simp <;> omega) _) | with_reducible exact n2.out)), by (repeat (first | with_reducible refine Blk.drew ?_ | (with_reducible refine Blk.far ?_ (by simp <;> omega) _) | with_reducible exact n3.out)), by (repeat (first | with_reducible refine Below.drew ?_ | (with_reducible refine Below.setCell ?_ (by simp <;> omega) _) | with_reducible exact hbel))⟩ ?_
        clear n0 n1 n2 n3 hbel c0 c1 c2 c3 f0 f1 f2 f3
        generalize hd2 : Dig.rot (d1 ^^^ a2) 16 = d2
        generalize he2 : e1 + d2 = e2
        rintro wn ⟨n0, n1, n2, n3, hbel⟩
        have c0 : _ = some (Value.int .u64 (Dig.v a2)) := n0.cell 0
        have c1 : _ = some (Value.int .u64 (Dig.v b1)) := n0.cell 1
        have c2 : _ = some (Value.int .u64 (Dig.v e2)) := n0.cell 2
        have c3 : _ = some (Value.int .u64 (Dig.v d2)) := n0.cell 3
        have f0 := n0.frozen 0
        have f1 := n0.frozen 1
        have f2 := n0.frozen 2
        have f3 := n0.frozen 3
        replace n0 := Lib.hid n0
        replace n1 := Lib.hid n1
        replace n2 := Lib.hid n2
        replace n3 := Lib.hid n3
        refine (dig_rot63 _ _).mono ?_
        rintro _ _ ⟨rfl, rfl⟩
        have hro := hro.out
        rw [show Dig.round s' (Dig.at4 (Dig.piece l) (r % 4)) K = ⟨Dig.rot (b1 ^^^ e2) 63, e2, d2, a2⟩ by subst ha1 hd1 he1 hb1 ha2 hd2 he2; rfl] at hro
        rcases Nat.lt_or_ge r 7 with h7 | h7
        · have q5 : ¬ (r : Int) + 1 = 8 := by omega
          replace hro := Lib.hid hro
          go_wp2_with fail
          go_roundw
          case rel =>
            (repeat apply Exists.intro)
            refine ⟨⟨r + 1, ⟨Dig.rot (b1 ^^^ e2) 63, e2, d2, a2⟩, K + Dig.golden, by omega, rfl, by go_num, hro.out, ?_, ?_, ?_, ?_, ?_⟩, rfl⟩
            · (apply Blk.eq; (repeat (first | with_reducible apply Blk.set_ | with_reducible apply Blk.drew | with_reducible exact n0.out)); rfl)
            · (repeat (first | with_reducible refine Blk.drew ?_ | (with_reducible refine Blk.far ?_ (by simp <;> omega) _) | with_reducible exact n1.out))
            · (repeat (first | with_reducible refine Blk.drew ?_ | (with_reducible refine Blk.far ?_ (by simp <;> omega) _) | with_reducible exact n2.out))
            · (repeat (first | with_reducible refine Blk.drew ?_ | (with_reducible refine Blk.far ?_ (by simp <;> omega) _) | with_reducible exact n3.out))
            · (repeat (first | with_reducible refine Below.drew ?_ | (with_reducible refine Below.setCell ?_ (by simp <;> omega) _) | with_reducible exact hbel))
          case measure => simp [intOf]; omega
        · obtain rfl : r = 7 := by omega
          have hend : Dig.mixed s l = Dig.xor4 ⟨Dig.rot (b1 ^^^ e2) 63, e2, d2, a2⟩ s := by
            unfold Dig.mixed
            rw [hro]; rfl
          clear hro
          replace hend := Lib.hid hend
          go_wp2_with fail
          go_loopw [105] (fun i wy => ∃ k : Nat, k ≤ 4 ∧ i = .int .i64 k ∧ MixD w s ⟨Dig.rot (b1 ^^^ e2) 63, e2, d2, a2⟩ k wy) (fun i _ => 4 - (intOf i).toNat)
          case atStart =>
            refine ⟨0, Nat.zero_le _, rfl, ?_, ?_, ?_, ?_⟩
            · (apply Blk.eq; (repeat (first | with_reducible apply Blk.set_ | with_reducible apply Blk.drew | with_reducible exact n0.out)); rfl)
            · (repeat (first | with_reducible refine Blk.drew ?_ | (with_reducible refine Blk.far ?_ (by simp <;> omega) _) | with_reducible exact n1.out))
            · (repeat (first | with_reducible refine Blk.drew ?_ | (with_reducible refine Blk.far ?_ (by simp <;> omega) _) | with_reducible exact n2.out))
            · (repeat (first | with_reducible refine Below.drew ?_ | (with_reducible refine Below.setCell ?_ (by simp <;> omega) _) | with_reducible exact hbel))
          case round =>
            clear n0 n1 n2 n3 hbel c0 c1 c2 c3 f0 f1 f2 f3 q1 q2 q3 q4 ha1 hd1 he1 hb1 ha2 hd2 he2 hgold
            replace hend := hend.out
            generalize (⟨Dig.rot (b1 ^^^ e2) 63, e2, d2, a2⟩ : Dig.St) = S2 at *
            replace hend := Lib.hid hend
            obtain ⟨k, hk, rfl, h0, h1, h2, hbel⟩ := hrel
            by_cases hlt : k < 4
            · have c0 := (h0.cell k).trans (row4_at _ k hlt)
              rw [Dig.fill_at _ _ k hlt] at c0
              have f0 := h0.frozen k
              have c2 := (h2.cell k).trans (row4_at _ k hlt)
              replace h0 := Lib.hid h0
              replace h1 := Lib.hid h1
              replace h2 := Lib.hid h2
              go_wp2_with fail
              go_still_tail 8, (by kernel_rfl)
              change wpList _ _ _ _ _ wr.drew
              go_wp2_with fail
              refine ⟨⟨k + 1, by omega, by go_num, ?_, ?_, ?_, ?_⟩, ?_⟩
              · exact ((h0.out.set_ k _).eq (row4_fill (Dig.xor4 S2 s) S2 k hlt _ (Dig.xor4_at _ _ k hlt).symm)).drew
              · exact (h1.out.far (by simp) _).drew
              · exact (h2.out.far (by simp; omega) _).drew
              · exact (hbel.setCell (Nat.le_refl _) _).drew
              · simp [intOf]; omega
            · obtain rfl : k = 4 := by omega
              replace h0 := h0.eq (cs' := row4 (Dig.xor4 S2 s)) rfl
              replace h0 := Lib.hid h0
              replace h1 := Lib.hid h1
              clear h2
              go_wp2_with (first
                | (refine load_row4 rfl _ rfl _ _ rfl h0.out ?_)
                | (refine store_row4 rfl _ _ rfl _ _ rfl rfl _ h1.out rfl ?_))
              rw [Exit.noGoto_ret]
              refine bodyPost_ret (v := .agg (row4 (Dig.xor4 S2 s))) (results_cell_row rfl _ _ (w.heap.size + 1) _ _ _ _ rfl (h1.out.row _) Try.underlying100 rfl info_state) rfl ⟨by rw [hend.out], ?_⟩
              exact below_row hbel (by omega) _
end Go.Proofs.Ytioanppnkhiokaa

namespace Go.Proofs.Ytioanppnkhiokaa
open Go.RowKit

/-- what a Hash holds -/
def hashRow (s : Dig.St) (rest : Value) (n : Int) : Array Value := #[.int .u64 (Dig.v s.a), .int .u64 (Dig.v s.b), .int .u64 (Dig.v s.c), .int .u64 (Dig.v s.d), rest, .int .i64 n]

theorem build_row (s : Dig.St) : Array.foldl (fun cs x => cs.setIfInBounds x.snd x.fst)
    #[Value.int IntKind.u64 0, Value.int IntKind.u64 0, Value.int IntKind.u64 0, Value.int IntKind.u64 0, Value.slice none 0 0, Value.int IntKind.i64 0] (row4 s).zipIdx 0 4 = hashRow s (.slice none 0 0) 0 := by
  simp [row4, hashRow]
set_option maxRecDepth 100000 in
theorem dig_New (w : World) : Calls Try.prog 38 #[] w fun e w' => ∃ H, e = .returned (.pointer (some ⟨H, 0, none⟩)) ∧ w.heap.size ≤ H ∧ Blk w' H 103 (hashRow Dig.begun (.slice none 0 0) 0) ∧ Below w.heap.size w w' := by
  go_enter Try.func38, Try.ntmps38
  go_wp2_with fail
  refine (dig_begun _).mono ?_
  rintro _ w1 ⟨rfl, hb⟩
  have hsz := row4_size Dig.begun
  go_wp2
  rw [build_row]
  go_ret
  exact ⟨_, rfl, hb.size, Blk.new _ _ _, hb.alloc (hb.size) _⟩

theorem Bytes.take32 {w : World} {B n c : Nat} {A : Option Addr} {l : List UInt8} (h : Bytes w B A n c l) (hk : 32 ≤ l.length) : Bytes w B A 32 c (l.take 32) := by
  obtain ⟨h1, h2, h3, h4⟩ := h
  refine ⟨by rw [List.length_take]; omega, by omega, h3, ?_⟩
  have := h4.take (k := 32) (by omega)
  rw [Nat.mul_one] at this
  rw [bv, List.map_take]
  exact this
theorem Dig.absorb_succ (j : Nat) (s : Dig.St) (l : List UInt8) : Dig.absorb (j + 1) s l = Dig.mixed (Dig.absorb j s l) ((l.drop (32 * j)).take 32) := by
  rw [Dig.absorb_add]; simp only [Dig.absorb]
/-- so many pieces are in -/
def HashW (w : World) (H : Nat) (l : List UInt8) (j : Nat) (wr : World) : Prop := 32 * j ≤ l.length ∧ ∃ A' m c',
  Blk wr H 103 (hashRow (Dig.absorb j Dig.begun l) (.slice A' m c') l.length) ∧ Own wr w.heap.size 5 1 A' m c' (bv (l.drop (32 * j))) ∧ w.heap.size ≤ wr.heap.size ∧ Below H w wr
set_option maxRecDepth 100000 in
set_option maxHeartbeats 2000000 in
theorem dig_Write (l : List UInt8) (A : Option Addr) (n c B H : Nat) (w : World) (h : Bytes w B A n c l) (hB : B ≤ H) (hH : Blk w H 103 (hashRow Dig.begun (.slice none 0 0) 0)) (hl : l.length ≤ 140737488355328) :
    Calls Try.prog 39 #[.pointer (some ⟨H, 0, none⟩), .slice A n c] w fun e w' => ∃ A' m c', e = .returned (.tuple #[]) ∧
      Blk w' H 103 (hashRow (Dig.absorb (l.length / 32) Dig.begun l) (.slice A' m c') l.length) ∧ Own w' w.heap.size 5 1 A' m c' (bv (l.drop (32 * (l.length / 32)))) ∧ Below H w w' := by
  have g0 : w.cell? ⟨H, 0, none⟩ = some (.int .u64 (Dig.v Dig.begun.a)) := hH.cell 0
  have g4 : w.cell? ⟨H, 4, none⟩ = some (.slice none 0 0) := hH.cell 4
  have g5 : w.cell? ⟨H, 5, none⟩ = some (.int .i64 0) := hH.cell 5
  have f0 := hH.frozen 0
  have f4 := hH.frozen 4
  have f5 := hH.frozen 5
  have hHs := hH.lt
  have q0 : IntKind.i64.wrap (l.length : Int) = (l.length : Int) := IntWalk.i64_in _ (by omega)
  replace hH := Lib.hid hH
  have hlen := h.len
  replace h := Lib.hid h
  subst hlen
  go_enter Try.func39, Try.ntmps39
  go_wp2_with (first
    | (refine wpList_append_u8 rfl _ _ rfl w.heap.size _ 0 [] rfl (World.ownsRow_nil _ _ _ _) B _ _ _ l rfl (h.out.setCell hB _) (by omega) (by rw [size_set]; omega) ?_
       intro A' c' w1 hown hbel
       have k1 := (Blk.below (hH.out.set_ 5 (.int .i64 l.length)) hbel hHs).eq (cs' := hashRow Dig.begun (.slice none 0 0) l.length) rfl
       have e4 : w1.cell? ⟨H, 4, none⟩ = some (.slice none 0 0) := k1.cell 4
       have f4' := k1.frozen 4
       have hs1 := hbel.size
       replace k1 := Lib.hid k1
       replace hown := Lib.hid hown))
  go_loopg [22] (l.length / 32) (fun k _ wr => k ≤ l.length / 32 ∧ HashW w H l (l.length / 32 - k) wr)
  case atStart =>
    have hs := size_set w ⟨H, 5, none⟩ (.int .i64 l.length)
    have ho := hown.out
    rw [Nat.zero_add, List.nil_append] at ho
    refine ⟨Nat.le_refl _, by omega, A', l.length, c', ?_, ?_, ?_, ?_⟩
    · rw [Nat.sub_self]
      exact (k1.out.set_ 4 _).eq rfl
    · rw [Nat.sub_self]
      exact (Own.of_row ho).far hHs _
    · rw [size_set]; omega
    · exact Below.setCell (p := ⟨H, 4, none⟩) (Below.trans (Below.setCell (p := ⟨H, 5, none⟩) (Below.refl H w) (Nat.le_refl H) _) (hbel.mono (Nat.le_of_lt hHs))) (Nat.le_refl H) _
  case round =>
    clear g0 g4 g5 f0 f4 f5 e4 f4' hs1 hbel hown k1
    obtain ⟨hgk, hj, A1, m1, c1, h0, ho1, hsw, hbw⟩ := hrel
    generalize hjd : l.length / 32 - gk = j at *
    have hm1 : m1 = l.length - 32 * j := by
      have := ho1.len
      rw [bv_length, List.length_drop] at this; omega
    have hc1 := ho1.cap
    subst hm1
    have hb1 : Bytes wr wr.heap.size A1 (l.length - 32 * j) c1 (l.drop (32 * j)) := ⟨by rw [List.length_drop], ho1.cap, ho1.lim, ho1.reads⟩
    replace ho1 := Lib.hid ho1
    have a0 : _ = some (Value.int .u64 (Dig.v (Dig.absorb j Dig.begun l).a)) := h0.cell 0
    have a1 : _ = some (Value.int .u64 (Dig.v (Dig.absorb j Dig.begun l).b)) := h0.cell 1
    have a2 : _ = some (Value.int .u64 (Dig.v (Dig.absorb j Dig.begun l).c)) := h0.cell 2
    have a3 : _ = some (Value.int .u64 (Dig.v (Dig.absorb j Dig.begun l).d)) := h0.cell 3
    have a4 : _ = some (Value.slice A1 (l.length - 32 * j) c1) := h0.cell 4
    replace h0 := Lib.hid h0
    by_cases hlt : 32 ≤ l.length - 32 * j
    · have hnum : l.length / 32 - (gk - 1) = j + 1 ∧ gk - 1 < gk ∧ 32 * (j + 1) ≤ l.length ∧ gk - 1 ≤ l.length / 32 := by omega
      replace hnum := Lib.hid hnum
      have hlti : (32 : Int) ≤ ((l.length - 32 * j : Nat) : Int) := by omega
      have hc32 : (32 : Int) ≤ (c1 : Int) := by omega
      have hA1 := hb1.at_ (k := 0) (by rw [List.length_drop]; omega)
      obtain ⟨g1, o1, rfl, hg1, _⟩ := hA1
      have hHr : H < wr.heap.size := h0.out.lt
      have hpc := (hb1.take32 (by rw [List.length_drop]; omega))
      have b0 := h0.out.frozen 0
      have b1 := h0.out.frozen 1
      have b2 := h0.out.frozen 2
      have b3 := h0.out.frozen 3
      replace hb1 := Lib.hid hb1
      replace hpc := Lib.hid hpc
      go_wp2_with fail
      go_region_law (first
          | (go_simp; go_at_call 47; refine (dig_mixed (Dig.absorb j Dig.begun l) ((l.drop (32 * j)).take 32) _ _ _ _ _ hpc.out.drew (by simp; omega) (Nat.le_refl _)).mono ?_; rintro e w2 ⟨rfl, hb2'⟩; have hb2 : Below wr.heap.size wr w2 := ((Below.refl wr.heap.size wr).drew).trans hb2'; clear hb2'; have e0 := (hb2.cell (p := ⟨H, 0, none⟩) hHr).trans a0; have e1 := (hb2.cell (p := ⟨H, 1, none⟩) hHr).trans a1; have e2 := (hb2.cell (p := ⟨H, 2, none⟩) hHr).trans a2; have e3 := (hb2.cell (p := ⟨H, 3, none⟩) hHr).trans a3; have r0 := (hb2.frozen (p := ⟨H, 0, none⟩) hHr).trans b0; have r1 := (hb2.frozen (p := ⟨H, 1, none⟩) hHr).trans b1; have r2 := (hb2.frozen (p := ⟨H, 2, none⟩) hHr).trans b2; have r3 := (hb2.frozen (p := ⟨H, 3, none⟩) hHr).trans b3; unfold row4))
      all_goals
        have hk : Blk w2 H 103 (hashRow (Dig.absorb j Dig.begun l) (.slice (some ⟨g1, o1, none⟩) (l.length - 32 * j) c1) l.length) := h0.out.below hb2 hHr
        have e4 := (hb2.cell (p := ⟨H, 4, none⟩) hHr).trans a4
        have r4 := hk.frozen 4
        have ho2 := ho1.out.below hb2 (Nat.le_refl _)
        have hs2 := hb2.size
        have hw2 := hbw.trans (hb2.mono (Nat.le_of_lt hHr))
        replace hk := Lib.hid hk
        replace ho2 := Lib.hid ho2
        replace hw2 := Lib.hid hw2
        clear a0 a1 a2 a3
        go_wp2_with fail
      all_goals
        go_roundg (gk - 1)
        case measure => exact hnum.out.2.1
        case rel =>
          rw [hnum.out.1]
          have ho3 := ho2.out.cut (k := 32) (by omega)
          first
            | (refine ⟨hnum.out.2.2.2, hnum.out.2.2.1, some ⟨g1, o1 + 32, none⟩, l.length - 32 * j - 32, c1 - 32, ?_, ?_, ?_, ?_⟩
               · rw [Dig.absorb_succ]
                 (apply Blk.eq; (repeat (first | with_reducible apply Blk.set_ | with_reducible apply Blk.drew | with_reducible exact hk.out)); rfl)
               · refine Own.far (Own.far (Own.far (Own.far (Own.far ?_ hHs _) hHs _) hHs _) hHs _) hHs _
                 rw [if_neg (by omega)] at ho3
                 simpa [bv, add_mk, Nat.mul_add, List.drop_drop] using ho3
               · simp [size_set]; omega
               · (repeat (first | with_reducible refine Below.drew ?_ | (with_reducible refine Below.setCell ?_ (by simp <;> omega) _) | with_reducible exact hw2.out)))
            | (refine ⟨hnum.out.2.2.2, hnum.out.2.2.1, some ⟨g1, o1, none⟩, l.length - 32 * j - 32, 0, ?_, ?_, ?_, ?_⟩
               · rw [Dig.absorb_succ]
                 (apply Blk.eq; (repeat (first | with_reducible apply Blk.set_ | with_reducible apply Blk.drew | with_reducible exact hk.out)); rfl)
               · refine Own.far (Own.far (Own.far (Own.far (Own.far ?_ hHs _) hHs _) hHs _) hHs _) hHs _
                 rw [if_pos (by omega), show c1 - 32 = 0 by omega] at ho3
                 simpa [bv, add_mk, Nat.mul_add, List.drop_drop] using ho3
               · simp [size_set]; omega
               · (repeat (first | with_reducible refine Below.drew ?_ | (with_reducible refine Below.setCell ?_ (by simp <;> omega) _) | with_reducible exact hw2.out)))
    · have hlti : ¬ (32 : Int) ≤ ((l.length - 32 * j : Nat) : Int) := by omega
      replace hb1 := Lib.hid hb1
      have hje : j = l.length / 32 := by omega
      go_wp2_with fail
      go_end0
      subst hje
      exact ⟨rfl, _, _, _, h0.out, ho1.out, hbw⟩
end Go.Proofs.Ytioanppnkhiokaa

namespace Go.Proofs.Ytioanppnkhiokaa
open Go.RowKit

/-- cells with bytes laid over them from a place on -/
def putAt (cs : Array Value) (off : Nat) (l : List UInt8) : Array Value := (cs.toList.take off ++ bv l ++ cs.toList.drop (off + l.length)).toArray
theorem putAt_size (cs : Array Value) (off : Nat) (l : List UInt8) (h : off + l.length ≤ cs.size) : (putAt cs off l).size = cs.size := by
  have := bv_length l
  simp [putAt]; omega
theorem putAt_nil (cs : Array Value) (off : Nat) : putAt cs off [] = cs := by simp [putAt, bv]
theorem putAt_snoc (cs : Array Value) (off k : Nat) (l : List UInt8) (hk : k < l.length) (h : off + l.length ≤ cs.size) :
    (putAt cs off (l.take k)).setIfInBounds (off + k) (.int .u8 (l[k].toNat : Int)) = putAt cs off (l.take (k + 1)) := by
  apply Array.ext'
  have h1 : (l.take k).length = k := by rw [List.length_take]; omega
  have h2 : (l.take (k + 1)).length = k + 1 := by rw [List.length_take]; omega
  simp only [putAt, Array.toList_setIfInBounds, h1, h2]
  rw [List.append_assoc, List.set_append_right _ _ (by rw [List.length_take, Array.length_toList]; omega)]
  rw [show off + k - (cs.toList.take off).length = k by rw [List.length_take, Array.length_toList]; omega]
  rw [List.set_append_right _ _ (by rw [bv_length]; omega)]
  rw [bv_length, h1, Nat.sub_self]
  have h3 : cs.toList.drop (off + k) = cs[off + k] :: cs.toList.drop (off + (k + 1)) := by
    rw [List.drop_eq_getElem_cons (by simp; omega)]; rfl
  rw [h3, List.set_cons_zero, List.take_succ_eq_append_getElem hk, bv_append]
  simp [bv]
theorem putAt_at (cs : Array Value) (off j : Nat) (l : List UInt8) (h : off + l.length ≤ cs.size) (hj : j < cs.size) : ∃ v, (putAt cs off l)[j]? = some v :=
  ⟨_, Array.getElem?_eq_getElem (by rw [putAt_size _ _ _ h]; exact hj)⟩

theorem Dig.byte_of (x : UInt64) (k : Nat) (h : k < 8) : (Dig.bytes8 x)[k]'(by rw [Dig.bytes8_length]; exact h) = UInt8.ofNat ((x >>> (UInt64.ofNat (56 - 8 * k))).toNat) := by simp [Dig.bytes8]
theorem Dig.shr_byte (x : UInt64) (k : Nat) (h : k < 8) : Dig.v x / 2 ^ (56 - 8 * k) % 256 = (((Dig.bytes8 x)[k]'(by rw [Dig.bytes8_length]; exact h)).toNat : Int) := by
  rw [Dig.byte_of x k h]
  have e : (UInt64.ofNat (56 - 8 * k)).toNat % 64 = 56 - 8 * k := by simp; omega
  rw [UInt64.toNat_shiftRight, Nat.shiftRight_eq_div_pow, e]
  unfold Dig.v
  rw [show ((2 : Int) ^ (56 - 8 * k)) = ((2 ^ (56 - 8 * k) : Nat) : Int) by simp]
  simp

def Laid (w : World) (g off : Nat) (t : TypeId) (cs : Array Value) (l : List UInt8) (k : Nat) (wr : World) : Prop := Blk wr g t (putAt cs off (l.take k)) ∧ w.grownBy wr (some g)
set_option maxHeartbeats 1000000 in
theorem dig_lay (x : UInt64) (g off n c : Nat) (t : TypeId) (cs : Array Value) (w : World) (hg : Blk w g t cs) (hs : off + 8 ≤ cs.size) (hn : 8 ≤ n) :
    Calls Try.prog 48 #[.slice (some ⟨g, off, none⟩) n c, .int .u64 (Dig.v x)] w fun e w' => e = .returned (.tuple #[]) ∧
      Blk w' g t (putAt cs off (Dig.bytes8 x)) ∧ w.grownBy w' (some g) := by
  have h8 := Dig.bytes8_length x
  go_enter Try.func48, Try.ntmps48
  go_wp2_with fail
  go_loopw [5] (fun i wr => ∃ k : Nat, k ≤ 8 ∧ i = .int .i64 k ∧ Laid w g off t cs (Dig.bytes8 x) k wr) (fun i _ => 8 - (intOf i).toNat)
  case atStart => exact ⟨0, Nat.zero_le _, rfl, by rw [List.take_zero, putAt_nil]; exact hg, World.grownBy.refl w _⟩
  case round =>
    obtain ⟨k, hk, rfl, hb, hgr⟩ := hrel
    by_cases hlt : k < 8
    · obtain ⟨v0, hv⟩ := putAt_at cs off (off + k) ((Dig.bytes8 x).take k) (by rw [List.length_take]; omega) (by omega)
      have c0 := (hb.cell (off + k)).trans hv
      have f0 := hb.frozen (off + k)
      have hlt' : (k : Int) < (n : Int) := by omega
      have hN := hb.set_ (off + k) (.int .u8 (((Dig.bytes8 x)[k]'(by omega)).toNat : Int))
      rw [putAt_snoc cs off k _ (by omega) (by omega)] at hN
      have hG := grown_set (i := off + k) (u := .int .u8 (((Dig.bytes8 x)[k]'(by omega)).toNat : Int)) hgr
      replace hN := Lib.hid hN
      replace hG := Lib.hid hG
      clear hb hgr hv
      go_wp2_with fail
      rw [Dig.shr_byte x k hlt]
      refine ⟨⟨k + 1, by omega, by go_num, hN.out, hG.out⟩, ?_⟩
      simp [intOf]; omega
    · obtain rfl : k = 8 := by omega
      go_wp2_with fail
      go_end0
      refine ⟨rfl, ?_, hgr⟩
      rw [List.take_of_length_le (by omega)] at hb
      exact hb

/-- 'append(b, make([]byte, k)...)' onto bytes of the call's own -/
theorem zero_cells (k : Nat) : (Builtin.zeroCells (Value.int .u8 0).cells k).toList = bv (List.replicate k 0) := by
  apply List.ext_getElem
  · simp [Builtin.zeroCells, bv, Value.cells]
  · intro i h1 h2
    simp [Builtin.zeroCells, bv, Value.cells, Nat.mod_one]
set_option maxRecDepth 100000 in
theorem run_append_zeros_u8 (ty : TypeId) (w : World) (base g n c k : Nat) (xs : List UInt8) (hk : 0 < k) (hown : w.ownsRow base 5 1 (.slice (some ⟨g, 0, none⟩) n c) n (bv xs))
    (hlim : n + k ≤ 140737488355328) (hbase : base ≤ w.heap.size) :
    ∃ g' c' w', (Builtin.append_ #[26, 3] ty #[.slice (some ⟨g, 0, none⟩) n c, .int .i64 k]).run Try.prog w = .ok (.slice (some ⟨g', 0, none⟩) (n + k) c') w' ∧
      w'.ownsRow base 5 1 (.slice (some ⟨g', 0, none⟩) (n + k) c') (n + k) (bv (xs ++ List.replicate k 0)) ∧ base ≤ g' ∧ Below base w w' := by
  obtain ⟨i, hi, hz, hsz, hby⟩ := info_parts info_u8
  have ht : Try.prog.underlying 26 = some (.slice 5) := Try.underlying26
  have htn : Try.prog.underlying 3 = some (.int .i64) := Try.underlying3
  have hw : IntKind.i64.wrap (k : Int) = k := by rw [IntKind.wrap_i64]; omega
  have hk0 : k ≠ 0 := by omega
  have hneg : ¬ ((k : Int) < 0) := by omega
  have h48i : ¬ (281474976710656 < (k : Int)) := by omega
  have hxl : (bv xs).length = n := by have := hown.1; rwa [Nat.mul_one] at this
  have hrl : (bv (List.replicate k 0)).length = k := by rw [bv_length, List.length_replicate]
  rcases hown.2 with ⟨h, _⟩ | ⟨g0, cap, cur, hv, hbg, hg, hnc, hcm, hcs, htake⟩
  · cases h
  · simp only [Value.slice.injEq, Option.some.injEq, Addr.mk.injEq] at hv
    obtain ⟨⟨rfl, _⟩, _, rfl⟩ := hv
    rw [Nat.mul_one] at hcs htake
    rw [bv_append]
    have hall : (bv xs ++ bv (List.replicate k 0)).length = n + k := by rw [List.length_append, hxl, hrl]
    by_cases hroom : n + k ≤ c
    · have hst := run_storeCells_at Try.prog g n 5 (bv (List.replicate k 0)) 0 cur w hg (by omega) (bv_one _)
      simp only [Nat.add_zero] at hst
      refine ⟨g, c, w.setRow g (cur.toList.take n ++ bv (List.replicate k 0) ++ cur.toList.drop (n + (bv (List.replicate k 0)).length)).toArray, by simp [Builtin.append_, run_underlying ht, run_underlying htn, sizeOf, typeInfo, zeroValue, hi, hz, hsz, hby, asInt, asIntOf, hw, hk0, hneg, h48i, hroom, Addr.add_lit, zero_cells, hst], ?_, hbg, ?_⟩
      · refine ⟨by rw [hall, Nat.mul_one], .inr ⟨g, c, _, rfl, hbg, setRow_heap w g cur _ 5 _ hg, hroom, hcm, ?_, ?_⟩⟩
        · simp only [List.size_toArray, List.length_append, List.length_take, List.length_drop, Array.length_toList, hrl]; omega
        · rw [htake, Nat.mul_one, ← hall]; exact List.take_left
      · exact ⟨rfl, rfl, rfl, by simp, fun j hj => setRow_other w g j _ (by omega)⟩
    · have hf := run_firstCells_some (P := Try.prog) w.drew 1 n ⟨g, 0, none⟩ n c (bv xs) (by rw [hxl, Nat.mul_one]) (by simpa using hown.cells (g := g) rfl)
      have h63' : ¬ (9223372036854775807 < ((n : Int) + (k : Int))) := by omega
      have h48' : ¬ (281474976710656 < Builtin.nextslicecap (n + k) c) := by
        have := growslice_fits (bytes := 1) (need := n + k) (old := c) (by omega) (by omega)
        omega
      have hge := grownCap_ge w (n + k) c 5
      have hcm' : grownCap w (n + k) c 5 ≤ maxLen := grownCap_le_maxLen w (n + k) c _ (by unfold maxLen; omega)
      refine ⟨w.heap.size, grownCap w (n + k) c 5, w.drew.alloc (.cells ((bv xs ++ bv (List.replicate k 0)).toArray ++ Builtin.zeroCells (Value.int .u8 0).cells (grownCap w (n + k) c 5 - (n + k))) 5), ?_, ?_, hbase, ?_⟩
      · simp [Builtin.append_, run_underlying ht, run_underlying htn, sizeOf, typeInfo, zeroValue, hi, hz, hsz, hby, asInt, asIntOf, hw, hk0, hneg, h48i, hroom, h63', h48', Question.forced, hf, newRow, grownCap]
        congr 2
        apply Array.ext'
        simp [zero_cells]
      · refine ⟨by rw [hall, Nat.mul_one], .inr ⟨w.heap.size, _, _, rfl, hbase, heap_alloc_new w.drew _, hge, hcm', ?_, ?_⟩⟩
        · simp only [Array.size_append, List.size_toArray, hall, size_zeroCells]
          show n + k + (grownCap w (n + k) c 5 - (n + k)) * 1 = _
          omega
        · simp only [Array.toList_append, Nat.mul_one]
          rw [← hall]
          exact List.take_left
      · exact ⟨rfl, rfl, rfl, by simp, fun j hj => Below.heap_alloc w.drew _ j (by show j < w.heap.size; omega)⟩
end Go.Proofs.Ytioanppnkhiokaa

/-
  Digests as values.
-/
namespace Go.Proofs.Ytioanppnkhiokaa
open Go.RowKit

/-- a digest's cells, and as a value -/
def row32 (l : List UInt8) : Array Value := (bv l).toArray
def digV (l : List UInt8) : Value := .agg (row32 l)
def zero32 : List UInt8 := List.replicate 32 0
theorem Blk.zeros (w : World) (cs : Array Value) (t : TypeId) (h : cs.toList = bv zero32) : Blk (w.alloc (.cells cs t)) w.heap.size t (row32 zero32) :=
  (Blk.new w t cs).eq (by apply Array.ext'; rw [h]; rfl)

theorem row32_size {l : List UInt8} (h : l.length = 32) : (row32 l).size = 32 := by simp [row32, bv_length, h]
theorem info_digest : (Try.prog.info? 30).map (·.size) = some 32 := by kernel_rfl
theorem row32_one (l : List UInt8) : (row32 l).all (·.oneCell') = true :=
  Array.all_eq_true_iff_forall_mem.2 (by intro u hu; exact bv_one l u (by simpa [row32] using hu))
end Go.Proofs.Ytioanppnkhiokaa

namespace Go.Proofs.Ytioanppnkhiokaa
open Go.RowKit

theorem Dig.noughts_lt (n : Nat) : Dig.noughts n < 32 := by unfold Dig.noughts; omega
theorem Dig.noughts_end (n j : Nat) (h : j ≤ Dig.noughts n) : (n + 1 + j) % 32 = 24 ↔ j = Dig.noughts n := by unfold Dig.noughts at *; omega
theorem putAt_take (cs : Array Value) (off : Nat) (l : List UInt8) (h : off + l.length ≤ cs.size) : (putAt cs off l).toList.take (off + l.length) = cs.toList.take off ++ bv l := by
  have hl : (cs.toList.take off ++ bv l).length = off + l.length := by rw [List.length_append, bv_length, List.length_take, Array.length_toList]; omega
  simp only [putAt]
  rw [← hl]; exact List.take_left
theorem putAt_row (l m : List UInt8) (off : Nat) : putAt (row32 l) off m = row32 (l.take off ++ m ++ l.drop (off + m.length)) := by
  simp [putAt, row32, bv]
theorem row4_ix0 (F : Dig.St) (w : World) : (Instr.index 100 (.agg (row4 F)) (.int .i64 0)).run Try.prog w = .ok (.int .u64 (Dig.v F.a)) w := by kernel_rfl
theorem row4_ix1 (F : Dig.St) (w : World) : (Instr.index 100 (.agg (row4 F)) (.int .i64 1)).run Try.prog w = .ok (.int .u64 (Dig.v F.b)) w := by kernel_rfl
theorem row4_ix2 (F : Dig.St) (w : World) : (Instr.index 100 (.agg (row4 F)) (.int .i64 2)).run Try.prog w = .ok (.int .u64 (Dig.v F.c)) w := by kernel_rfl
theorem row4_ix3 (F : Dig.St) (w : World) : (Instr.index 100 (.agg (row4 F)) (.int .i64 3)).run Try.prog w = .ok (.int .u64 (Dig.v F.d)) w := by kernel_rfl
/-- words laid into a digest so far -/
def outTo (F : Dig.St) : Nat → List UInt8
  | 0 => zero32
  | 1 => Dig.bytes8 F.a ++ List.replicate 24 0
  | 2 => Dig.bytes8 F.a ++ Dig.bytes8 F.b ++ List.replicate 16 0
  | 3 => Dig.bytes8 F.a ++ Dig.bytes8 F.b ++ Dig.bytes8 F.c ++ List.replicate 8 0
  | _ => Dig.out F
theorem outTo_put (F : Dig.St) (k : Nat) (h : k < 4) : putAt (row32 (outTo F k)) (8 * k) (Dig.bytes8 (Dig.at4 F k)) = row32 (outTo F (k + 1)) := by
  have ha := Dig.bytes8_length F.a
  have hb := Dig.bytes8_length F.b
  have hc := Dig.bytes8_length F.c
  have hd := Dig.bytes8_length F.d
  have tk : ∀ (x : UInt64) (n : Nat), 8 ≤ n → (Dig.bytes8 x).take n = Dig.bytes8 x := fun x n h => List.take_of_length_le (by rw [Dig.bytes8_length]; exact h)
  have dr : ∀ (x : UInt64) (n : Nat), 8 ≤ n → (Dig.bytes8 x).drop n = [] := fun x n h => List.drop_eq_nil_of_le (by rw [Dig.bytes8_length]; exact h)
  rw [putAt_row]
  congr 1
  match k, h with
  | 0, _ => simp [outTo, Dig.at4, zero32, ha]
  | 1, _ => simp [outTo, Dig.at4, ha, hb, List.take_append, List.drop_append]
  | 2, _ => simp [outTo, Dig.at4, ha, hb, hc, List.take_append, List.drop_append, tk, dr]
  | 3, _ => simp [outTo, Dig.at4, Dig.out, ha, hb, hc, hd, List.take_append, List.drop_append, tk, dr]
theorem outTo_length (F : Dig.St) (k : Nat) : (outTo F k).length = 32 := by
  match k with
  | 0 => simp [outTo, zero32]
  | 1 => simp [outTo, Dig.bytes8_length]
  | 2 => simp [outTo, Dig.bytes8_length]
  | 3 => simp [outTo, Dig.bytes8_length]
  | k + 4 => exact Dig.out_length F
/-- the end of Sum: so many words are written -/
def SumD (w : World) (D : Nat) (F : Dig.St) (k : Nat) (wr : World) : Prop := Blk wr D 30 (row32 (outTo F k)) ∧ Blk wr w.heap.size 30 (row32 zero32) ∧ Below w.heap.size w wr
theorem SumD.next {w w1 w2 : World} {D : Nat} {F : Dig.St} {k : Nat} (h : SumD w D F k w1) (hk : k < 4) (hD : w.heap.size < D) (h1 : Blk w2 D 30 (putAt (row32 (outTo F k)) (8 * k) (Dig.bytes8 (Dig.at4 F k)))) (hg : w1.grownBy w2 (some D)) : SumD w D F (k + 1) w2 :=
  ⟨h1.eq (outTo_put F k hk), h.2.1.grown hg (by omega), below_grown h.2.2 hg (by omega) (by have := h.2.1.lt; omega)⟩

/-- the padded text is being taken in: so many pieces are -/
def SumB (w : World) (S : Nat) (s : Dig.St) (T : List UInt8) (j : Nat) (v : Value) (wr : World) : Prop := 32 * j ≤ T.length ∧ ∃ A c, v = .slice A (T.length - 32 * j) c ∧ Bytes wr S A (T.length - 32 * j) c (T.drop (32 * j)) ∧
  Blk wr S 100 (row4 (Dig.absorb j s T)) ∧ Blk wr w.heap.size 30 (row32 zero32) ∧ Below w.heap.size w wr
/-- a slice value's length -/
def slen : Value → Nat
  | .slice _ n _ => n
  | _ => 0
/-- the bytes are being padded: so many noughts -/
def SumA (w : World) (rest : List UInt8) (j : Nat) (v : Value) (wr : World) : Prop := ∃ g c, v = .slice (some ⟨g, 0, none⟩) (rest.length + 1 + j) c ∧
  wr.ownsRow (w.heap.size + 1) 5 1 v (rest.length + 1 + j) (bv (rest ++ [128] ++ List.replicate j 0)) ∧ w.heap.size + 1 ≤ g ∧ Blk wr w.heap.size 30 (row32 zero32) ∧ Below w.heap.size w wr ∧ w.heap.size + 1 ≤ wr.heap.size

set_option maxRecDepth 100000 in
set_option maxHeartbeats 2000000 in
theorem dig_Sum (s : Dig.St) (rest : List UInt8) (A : Option Addr) (m c N H : Nat) (w : World) (hH : Blk w H 103 (hashRow s (.slice A m c) N)) (h : Bytes w w.heap.size A m c rest) (hr : rest.length ≤ 1000) (hN : N ≤ 140737488355328) :
    Calls Try.prog 40 #[.pointer (some ⟨H, 0, none⟩)] w fun e w' => e = .returned (digV (Dig.out (Dig.absorb ((Dig.tail rest (UInt64.ofNat N)).length / 32) s (Dig.tail rest (UInt64.ofNat N))))) ∧ Below w.heap.size w w' := by
  have hHs := hH.lt
  have gR : w.cell? ⟨H, 4, none⟩ = some (.slice A m c) := hH.cell 4
  replace hH := Lib.hid hH
  have hlen := h.len
  replace h := Lib.hid h
  subst hlen
  go_enter Try.func40, Try.ntmps40
  go_wp2_with (first
    | (refine wpList_append_u8 rfl _ _ rfl (w.heap.size + 1) _ 0 [] rfl (World.ownsRow_nil _ _ _ _) w.heap.size _ _ _ rest rfl (h.out.alloc (Nat.le_refl _) _) (by omega) (by simp) ?_
       intro A' c' w1 hown hbel
       have hs1 := hbel.size
       simp at hs1
       have k0 := Lib.hid ((Blk.zeros w _ 30 rfl).below hbel (by omega))
       replace hbel := Lib.hid (((Below.refl w.heap.size w).alloc (Nat.le_refl _) _).trans (hbel.mono (by omega)))
       rw [Nat.zero_add, List.nil_append] at *
       have hown := Lib.hid hown)
    | (refine wpList_append1_u8 rfl _ _ rfl (w.heap.size + 1) _ rest.length rest rfl hown.out 128 128 rfl _ rfl (by simp) (by omega) (by omega) ?_
       intro g2 c2 w2 hown2 hg2 hbel2 hsz2
       replace k0 := Lib.hid (k0.out.below hbel2 (by omega))
       replace hbel := Lib.hid (hbel.out.trans (hbel2.mono (by omega)))
       clear hbel2 hown
       have hown := Lib.hid hown2
       clear hown2))
  have q0 := Dig.noughts_lt rest.length
  go_loopw [3] (fun v wr => ∃ j, j ≤ Dig.noughts rest.length ∧ SumA w rest j v wr) (fun v _ => 100000 - slen v)
  case atStart => exact ⟨0, Nat.zero_le _, g2, c2, rfl, by simpa using hown.out, hg2, k0.out, hbel.out, by omega⟩
  case round =>
    obtain ⟨j, hj, g, cc, rfl, ho, hg, hk, hb, hsz⟩ := hrel
    clear hown k0 hbel hsz2 hs1 hg2
    replace ho := Lib.hid ho
    replace hk := Lib.hid hk
    replace hb := Lib.hid hb
    by_cases hlt : j < Dig.noughts rest.length
    · have hmod : (((rest.length : Int) + 1 + (j : Int)) % 32 != 24) = true := by have := Dig.noughts_end rest.length j hj; rw [bne_iff_ne]; omega
      have hlt2 : j + 1 ≤ Dig.noughts rest.length := by omega
      go_wp2_with (refine wpList_append1_u8 rfl _ _ rfl (w.heap.size + 1) _ (rest.length + 1 + j) _ rfl ho.out 0 0 rfl _ rfl (by simp) (by omega) (by omega) ?_
                   intro g3 c3 w3 hown3 hg3 hbel3 hsz3
                   replace hk := Lib.hid (hk.out.below hbel3 (by omega))
                   replace hb := Lib.hid (hb.out.trans (hbel3.mono (by omega)))
                   clear hbel3 ho
                   have ho := Lib.hid hown3
                   clear hown3)
      go_roundw
      case rel =>
        refine ⟨j + 1, hlt2, g3, c3, rfl, ?_, hg3, hk.out, hb.out, by omega⟩
        have := ho.out
        rw [List.append_assoc, ← List.replicate_succ'] at this
        exact this
      case measure => simp [slen]; omega
    · obtain rfl : j = Dig.noughts rest.length := by omega
      have hmod : (((rest.length : Int) + 1 + (Dig.noughts rest.length : Int)) % 32 != 24) = false := by
        have := (Dig.noughts_end rest.length (Dig.noughts rest.length) hj).2 rfl
        rw [bne_eq_false_iff_eq]; omega
      replace q0 := Lib.hid q0
      obtain ⟨g4, c4, w4, hrun, hown4, hg4, hb4⟩ := run_append_zeros_u8 26 wr (w.heap.size + 1) g (rest.length + 1 + Dig.noughts rest.length) cc 8 _ (by omega) ho.out (by have := q0.out; omega) (by omega)
      go_wp2_with (at_builtin; refine Lib.wpList_append_run _ rfl _ _ _ _ rfl _ _ rfl rfl _ _ hrun ?_)
      replace hk := Lib.hid (hk.out.below hb4 (by omega))
      replace hb := Lib.hid (hb.out.trans (hb4.mono (by omega)))
      have hs4 := hb4.size
      clear hb4 hrun ho
      have hpl : (rest ++ [128] ++ List.replicate (Dig.noughts rest.length) 0).length = rest.length + 1 + Dig.noughts rest.length := by simp; omega
      have hm4 : rest.length + 1 + Dig.noughts rest.length ≤ 2000 := by have := q0.out; omega
      have htl := Dig.tail_length rest (UInt64.ofNat N)
      generalize hnn : rest.length + 1 + Dig.noughts rest.length = m4 at *
      have HNN := Lib.hid hnn
      clear hnn
      have HTL := Lib.hid htl
      clear htl
      have HPL := Lib.hid hpl
      clear hpl
      have hH4 := Lib.hid (hH.out.below hb.out hHs)
      have e5 : w4.cell? ⟨H, 5, none⟩ = some (.int .i64 N) := hH4.out.cell 5
      have q5 : (N : Int) = Dig.v (UInt64.ofNat N) := by unfold Dig.v; simp; omega
      have Q5 := Lib.hid q5
      clear q5
      clear gR
      have hb4 := (Own.of_row hown4).cap
      replace hown4 := Lib.hid hown4
      have qw : IntKind.i64.wrap (m4 : Int) = m4 := IntWalk.i64_in _ (by omega)
      have qx : ((m4 : Int) + 8).toNat = m4 + 8 := by omega
      have qc : (m4 : Int) ≤ (c4 : Int) := by omega
      have qd : c4 ≠ m4 := by omega
      have ql : (m4 : Int) ≤ (m4 : Int) + 8 := by omega
      have qe : IntKind.u64.wrap (N : Int) = N := by rw [Dig.wrap_u64]; omega
      go_wp2_with fail
      go_still_tail 10, (by kernel_rfl)
      change wpList _ _ _ _ _ w4.drew
      clear qw qx qc qd qe ql
      rw [Q5.out]
      go_wp2_with fail
      obtain ⟨cur, hbc, hcs, htk, hcn, hcm⟩ := own_block hown4.out
      clear hown4
      refine (dig_lay (UInt64.ofNat N) g4 m4 8 (c4 - m4) _ cur _ hbc.drew (by omega) (Nat.le_refl _)).mono ?_
      rintro e w5 ⟨rfl, hb5, hgr5⟩
      have hbytes : Bytes w5 (g4 + 1) (some ⟨g4, 0, none⟩) (m4 + 8) c4 (Dig.tail rest (UInt64.ofNat N)) := by
        have h8 := Dig.bytes8_length (UInt64.ofNat N)
        refine Bytes.of_blk hb5 ?_ (by rw [HTL.out, ← HNN.out]; omega) (by omega) hcm
        have := putAt_take cur m4 (Dig.bytes8 (UInt64.ofNat N)) (by omega)
        rw [h8] at this
        rw [this]
        have h2 : cur.toList.take m4 = bv (rest ++ [128] ++ List.replicate (Dig.noughts rest.length) 0) := by
          have := congrArg (List.take m4) htk
          rw [List.take_take, Nat.min_eq_left (by omega), bv_append, List.take_left' (by rw [bv_length]; exact HPL.out)] at this
          exact this
        rw [h2, ← bv_append]; rfl
      have hs5 := hgr5.size
      have hg5 : g4 < w5.heap.size := hb5.lt
      replace hk := Lib.hid (hk.out.drew.grown hgr5 (by omega))
      have hH5 := Lib.hid (hH4.out.drew.grown hgr5 (by omega))
      replace hb := Lib.hid (below_grown hb.out.drew hgr5 (by omega) (by simp; omega))
      clear hgr5 hb5 hbc htk hH4 e5
      have c0 : w5.cell? ⟨H, 0, none⟩ = some (.int .u64 (Dig.v s.a)) := hH5.out.cell 0
      have c1 : w5.cell? ⟨H, 1, none⟩ = some (.int .u64 (Dig.v s.b)) := hH5.out.cell 1
      have c2 : w5.cell? ⟨H, 2, none⟩ = some (.int .u64 (Dig.v s.c)) := hH5.out.cell 2
      have c3 : w5.cell? ⟨H, 3, none⟩ = some (.int .u64 (Dig.v s.d)) := hH5.out.cell 3
      replace hbytes := Lib.hid hbytes
      go_wp2_with fail
      have hmod := Dig.tail_mod rest (UInt64.ofNat N)
      have hTL := HTL.out
      generalize hT : Dig.tail rest (UInt64.ofNat N) = T at *
      have HT := Lib.hid hT
      clear hT
      have hTm : T.length = m4 + 8 := by rw [hTL, ← HNN.out]; omega
      have hTm' : T.length ≤ 2008 := by omega
      have HTM := Lib.hid hTm
      have HMOD := Lib.hid hmod
      clear hTm hmod hTL HTL HPL HNN Q5 hH5 c0 c1 c2 c3 hs5 hH h q0
      have hs5 := hb.out.size
      rw [← HTM.out] at hbytes
      have hS : w.heap.size < w5.heap.size := by omega
      go_loopw [3] (fun v wr => ∃ j, SumB w w5.heap.size s T j v wr) (fun v _ => slen v)
      case atStart => exact ⟨0, by omega, some ⟨g4, 0, none⟩, c4, by rw [Nat.mul_zero, Nat.sub_zero, HTM.out], by simpa using (hbytes.out.more (by omega)).alloc (Nat.le_refl _) _, Blk.new _ _ _, hk.out.alloc _, hb.out.alloc (by omega) _⟩
      case round =>
        obtain ⟨j, hj32, A1, c1, rfl, hby, hS0, hd0, hbel⟩ := hrel
        have hmod := HMOD.out
        by_cases hlt : 32 * j < T.length
        · obtain ⟨g1, o1, rfl, hg1, hx⟩ := hby.at_ (k := 0) (by rw [List.length_drop]; omega)
          clear hx
          have hcc := hby.cap
          have hlti : (32 : Int) ≤ ((T.length - 32 * j : Nat) : Int) := by omega
          have hlt0 : (0 : Int) < ((T.length - 32 * j : Nat) : Int) := by omega
          have hc32 : (32 : Int) ≤ (c1 : Int) := by omega
          have hpc := hby.take32 (by rw [List.length_drop]; omega)
          have hSl := hS0.lt
          have a0 : wr.cell? ⟨w5.heap.size, 0, none⟩ = some (.int .u64 (Dig.v (Dig.absorb j s T).a)) := hS0.cell 0
          have a1 : wr.cell? ⟨w5.heap.size, 1, none⟩ = some (.int .u64 (Dig.v (Dig.absorb j s T).b)) := hS0.cell 1
          have a2 : wr.cell? ⟨w5.heap.size, 2, none⟩ = some (.int .u64 (Dig.v (Dig.absorb j s T).c)) := hS0.cell 2
          have a3 : wr.cell? ⟨w5.heap.size, 3, none⟩ = some (.int .u64 (Dig.v (Dig.absorb j s T).d)) := hS0.cell 3
          have b0 := hS0.frozen 0
          have b1 := hS0.frozen 1
          have b2 := hS0.frozen 2
          have b3 := hS0.frozen 3
          replace hby := Lib.hid hby
          replace hpc := Lib.hid hpc
          replace hS0 := Lib.hid hS0
          replace hd0 := Lib.hid hd0
          replace hbel := Lib.hid hbel
          clear hmod
          go_wp2_with fail
          go_region_law (first
              | (go_simp; go_at_call 47; refine (dig_mixed (Dig.absorb j s T) ((T.drop (32 * j)).take 32) _ _ _ _ _ hpc.out.drew (by simp; omega) (Nat.le_of_lt hSl)).mono ?_; rintro e w6 ⟨rfl, hb2'⟩; have hb2 : Below wr.heap.size wr w6 := ((Below.refl wr.heap.size wr).drew).trans hb2'; clear hb2'; have e0 := (hb2.cell (p := ⟨w5.heap.size, 0, none⟩) hSl).trans a0; have e1 := (hb2.cell (p := ⟨w5.heap.size, 1, none⟩) hSl).trans a1; have e2 := (hb2.cell (p := ⟨w5.heap.size, 2, none⟩) hSl).trans a2; have e3 := (hb2.cell (p := ⟨w5.heap.size, 3, none⟩) hSl).trans a3; have r0 := (hb2.frozen (p := ⟨w5.heap.size, 0, none⟩) hSl).trans b0; have r1 := (hb2.frozen (p := ⟨w5.heap.size, 1, none⟩) hSl).trans b1; have r2 := (hb2.frozen (p := ⟨w5.heap.size, 2, none⟩) hSl).trans b2; have r3 := (hb2.frozen (p := ⟨w5.heap.size, 3, none⟩) hSl).trans b3; unfold row4))
          all_goals
            have hk6 : Blk w6 w5.heap.size 100 (row4 (Dig.absorb j s T)) := hS0.out.below hb2 hSl
            have hd6 := hd0.out.below hb2 (by omega)
            have hby6 := (hby.out.below (hb2.mono (Nat.le_of_lt hSl)))
            have hbel6 := hbel.out.trans (hb2.mono (by omega))
            replace hk6 := Lib.hid hk6
            replace hd6 := Lib.hid hd6
            replace hby6 := Lib.hid hby6
            replace hbel6 := Lib.hid hbel6
            clear a0 a1 a2 a3 hby hpc hS0 hd0 hbel hb2
            go_wp2_with fail
          all_goals
            have hmod := HMOD.out
            have hcut := hby6.out.reads.cut (k := 32) (cap := c1) (by omega) hcc
            simp only [Nat.mul_one] at hcut
            go_roundw
            case measure => simp [slen]; omega
            case rel =>
              refine ⟨j + 1, by omega, _, _, by rw [show T.length - 32 * j - 32 = T.length - 32 * (j + 1) by omega], ⟨by rw [List.length_drop], by omega, by have := hby6.out.lim; omega, ?_⟩, ?_, ?_, ?_⟩
              · have hcut2 : Reads w6 w5.heap.size 1 (if c1 = 32 then some ⟨g1, o1, none⟩ else some ⟨g1, o1 + 32, none⟩) (T.length - 32 * (j + 1)) (bv (T.drop (32 * (j + 1)))) := by
                  rw [show T.length - 32 * (j + 1) = T.length - 32 * j - 32 by omega, Nat.mul_add, Nat.mul_one, ← List.drop_drop, show bv ((T.drop (32 * j)).drop 32) = (bv (T.drop (32 * j))).drop 32 by simp [bv]]
                  simpa [add_mk] using hcut
                clear hcut
                (repeat (first | with_reducible exact hcut2 | with_reducible refine Reads.setCell ?_ (by simp) _))
              · rw [Dig.absorb_succ]
                (apply Blk.eq; (repeat (first | with_reducible apply Blk.set_ | with_reducible apply Blk.drew | with_reducible exact hk6.out)); rfl)
              · (repeat (first | with_reducible refine Blk.drew ?_ | (with_reducible refine Blk.far ?_ (by simp <;> omega) _) | with_reducible exact hd6.out))
              · (repeat (first | with_reducible refine Below.drew ?_ | (with_reducible refine Below.setCell ?_ (by simp <;> omega) _) | with_reducible exact hbel6.out))
        · have hje : j = T.length / 32 := by omega
          have hlt0 : ¬ (0 : Int) < ((T.length - 32 * j : Nat) : Int) := by omega
          have hn0 : T.length - 32 * j = 0 := by omega
          have HJE := Lib.hid hje
          have hSl := hS0.lt
          clear hje hmod hby
          replace hS0 := Lib.hid hS0
          replace hd0 := Lib.hid hd0
          replace hbel := Lib.hid hbel
          go_wp2_with (refine load_row4 rfl _ rfl _ _ rfl (hS0.out.alloc _) ?_)
          have HJ := HJE.out
          subst HJ
          have hO := Dig.out_length (Dig.absorb (T.length / 32) s T)
          generalize hF : Dig.absorb (T.length / 32) s T = F at *
          have HF := Lib.hid hF
          clear hF
          have hD := Lib.hid (Blk.zeros wr _ 30 rfl)
          have hDlt : w.heap.size < wr.heap.size := by omega
          have x0 := row4_ix0 F
          have x1 := row4_ix1 F
          have x2 := row4_ix2 F
          have x3 := row4_ix3 F
          have z0 := outTo_length F 0
          have z1 := outTo_length F 1
          have z2 := outTo_length F 2
          have z3 := outTo_length F 3
          refine wp_loop_rounds 5 ?_
          rw [rounds_succ]
          go_wp2_with fail
          refine calls_at (SumD w wr.heap.size F 0) ⟨hD.out, hd0.out.alloc _, hbel.out.alloc (by omega) _⟩ ?_
          clear hD hd0 hbel hS0
          intro wa ia
          refine (dig_lay F.a wr.heap.size 0 8 32 _ _ _ ia.1 (by rw [row32_size z0]; omega) (Nat.le_refl _)).mono ?_
          rintro e wb ⟨rfl, ib, ic⟩
          replace ib := ia.next (by omega) hDlt ib ic
          clear ia ic
          go_wp2_with fail
          rw [rounds_succ]
          go_wp2_with fail
          refine (dig_lay F.b wr.heap.size 8 8 24 _ _ _ ib.1 (by rw [row32_size z1]; omega) (Nat.le_refl _)).mono ?_
          rintro e w7 ⟨rfl, ia, ic⟩
          replace ib := ib.next (by omega) hDlt ia ic
          clear ia ic
          go_wp2_with fail
          rw [rounds_succ]
          go_wp2_with fail
          refine (dig_lay F.c wr.heap.size 16 8 16 _ _ _ ib.1 (by rw [row32_size z2]; omega) (Nat.le_refl _)).mono ?_
          rintro e w8 ⟨rfl, ia, ic⟩
          replace ib := ib.next (by omega) hDlt ia ic
          clear ia ic
          go_wp2_with fail
          rw [rounds_succ]
          go_wp2_with fail
          refine (dig_lay F.d wr.heap.size 24 8 8 _ _ _ ib.1 (by rw [row32_size z3]; omega) (Nat.le_refl _)).mono ?_
          rintro e w9 ⟨rfl, ia, ic⟩
          replace ib := ib.next (by omega) hDlt ia ic
          clear ia ic
          go_wp2_with fail
          rw [rounds_succ]
          go_wp2_with (first
            | (refine wpList_load_row rfl 30 _ rfl _ rfl _ (row32 (outTo F 4)) _ _ ib.1 Try.underlying30 rfl info_digest ?_)
            | (refine wpList_store_row rfl 30 _ _ rfl w.heap.size (row32 (outTo F 4)) rfl rfl _ _ ib.2.1 info_digest (row32_size (outTo_length F 4)) (row32_one _) ?_))
          refine bodyPost_ret (v := digV (Dig.out F)) (results_cell_row rfl _ _ w.heap.size _ (row32 (outTo F 4)) _ _ rfl (ib.2.1.row _) Try.underlying30 rfl info_digest) rfl ⟨?_, below_row ib.2.2 (Nat.le_refl _) _⟩
          rw [HT.out, HF.out]
end Go.Proofs.Ytioanppnkhiokaa

namespace Go.Proofs.Ytioanppnkhiokaa
open Go.RowKit

/-- a cell for a digest is there -/
def DigCell (w : World) (B : Nat) (A : Option Addr) (n c : Nat) (l : List UInt8) (wr : World) : Prop := Blk wr B 30 (row32 zero32) ∧ Bytes wr w.heap.size A n c l ∧ Below w.heap.size w wr
set_option maxRecDepth 100000 in
set_option maxHeartbeats 1000000 in
theorem dig_Of (l : List UInt8) (A : Option Addr) (n c : Nat) (w : World) (h : Bytes w w.heap.size A n c l) (hl : l.length ≤ 140737488355328) :
    Calls Try.prog 27 #[.slice A n c] w fun e w' => e = .returned (digV (Dig.of l)) ∧ Below w.heap.size w w' := by
  have hr := Dig.of_rest l
  replace hr := Lib.hid hr
  replace h := Lib.hid h
  go_enter Try.func27, Try.ntmps27
  go_wp2_with fail
  refine calls_at (DigCell w w.heap.size A n c l) ⟨Blk.zeros _ _ _ rfl, h.out.alloc (Nat.le_refl _) _, (Below.refl _ _).alloc (Nat.le_refl _) _⟩ ?_
  rintro w0 ⟨hd, hb, hB⟩
  clear h
  refine (dig_New _).mono ?_
  rintro e w1 ⟨H, rfl, hHs, hH, hb1⟩
  have hd0 := hd.lt
  replace hd := Lib.hid (hd.below hb1 hd0)
  replace hb := Lib.hid (hb.below (hb1.mono (by omega)))
  replace hB := Lib.hid (hB.trans (hb1.mono (by omega)))
  clear hb1
  replace hH := Lib.hid hH
  go_wp2_with fail
  refine (dig_Write l A n c w.heap.size H _ hb.out (by omega) hH.out hl).mono ?_
  rintro e w2 ⟨A', m', c', rfl, hH2, ho2, hb2⟩
  have hHs1 := hH.out.lt
  have hs2 := hb2.size
  have hm' : m' = (l.drop (32 * (l.length / 32))).length := by have := ho2.len; rwa [bv_length, Nat.mul_one, eq_comm] at this
  have hbr : Bytes w2 w2.heap.size A' m' c' (l.drop (32 * (l.length / 32))) := ⟨hm', ho2.cap, ho2.lim, ho2.reads⟩
  replace hm' := Lib.hid hm'
  replace hd := Lib.hid (hd.out.below hb2 (by omega))
  replace hB := Lib.hid (hB.out.trans (hb2.mono (by omega)))
  clear hb2 ho2
  replace hbr := Lib.hid hbr
  replace hH2 := Lib.hid hH2
  clear hb hH
  go_wp2_with fail
  refine (dig_Sum _ _ A' m' c' l.length H _ hH2.out hbr.out (by rw [List.length_drop]; omega) hl).mono ?_
  rintro e w3 ⟨rfl, hb3⟩
  rw [← hr.out]
  have ho := Dig.of_length l
  generalize hDD : Dig.of l = D at *
  have HD := Lib.hid hDD
  clear hDD
  have hdl := hd.out.lt
  replace hd := Lib.hid (hd.out.below hb3 hdl)
  replace hB := Lib.hid (hB.out.trans (hb3.mono (by omega)))
  clear hb3 hr hH2 hbr
  have ho' := row32_size ho
  go_wp2_with (refine wpList_store_row rfl 30 _ _ rfl w.heap.size (row32 D) rfl rfl _ _ hd.out (by rw [ho']; exact info_digest) (by rw [ho']; rfl) (row32_one _) ?_)
  exact bodyPost_ret (v := digV D) (results_cell_row rfl _ _ w.heap.size _ (row32 D) _ _ rfl (hd.out.row _) Try.underlying30 rfl (by rw [ho']; exact info_digest)) rfl ⟨by rw [HD.out], below_row hB.out (Nat.le_refl _) _⟩
end Go.Proofs.Ytioanppnkhiokaa

namespace Go.Proofs.Ytioanppnkhiokaa
open Go.RowKit

section
set_option maxHeartbeats 1000000
theorem rdig_rot32 (x : UInt64) (w : World) : Calls Try.prog 26 #[.int .u64 (Dig.v x), .int .i64 32] w (PostQ w (.int .u64 (Dig.v (Dig.rot x 32)))) := by
  have h := Dig.rot32 x
  go_enter Try.func26, Try.ntmps26
  go_wp2_with fail
  go_quiet (fail)
  go_wp2_with fail
  go_ret
  exact ⟨rfl, _, rfl⟩
theorem rdig_rot24 (x : UInt64) (w : World) : Calls Try.prog 26 #[.int .u64 (Dig.v x), .int .i64 24] w (PostQ w (.int .u64 (Dig.v (Dig.rot x 24)))) := by
  have h := Dig.rot24 x
  go_enter Try.func26, Try.ntmps26
  go_wp2_with fail
  go_quiet (fail)
  go_wp2_with fail
  go_ret
  exact ⟨rfl, _, rfl⟩
theorem rdig_rot16 (x : UInt64) (w : World) : Calls Try.prog 26 #[.int .u64 (Dig.v x), .int .i64 16] w (PostQ w (.int .u64 (Dig.v (Dig.rot x 16)))) := by
  have h := Dig.rot16 x
  go_enter Try.func26, Try.ntmps26
  go_wp2_with fail
  go_quiet (fail)
  go_wp2_with fail
  go_ret
  exact ⟨rfl, _, rfl⟩
theorem rdig_rot63 (x : UInt64) (w : World) : Calls Try.prog 26 #[.int .u64 (Dig.v x), .int .i64 63] w (PostQ w (.int .u64 (Dig.v (Dig.rot x 63)))) := by
  have h := Dig.rot63 x
  go_enter Try.func26, Try.ntmps26
  go_wp2_with fail
  go_quiet (fail)
  go_wp2_with fail
  go_ret
  exact ⟨rfl, _, rfl⟩
end

theorem Dig.add8 (n : UInt64) (c : UInt8) : IntKind.u64.wrap (IntKind.u64.wrap (Dig.v n * 256) + (c.toNat : Int)) = Dig.v (n * 256 + UInt64.ofNat c.toNat) := by
  have h1 := n.toNat_lt
  have h2 := c.toNat_lt
  rw [Dig.wrap_u64, Dig.wrap_u64]
  unfold Dig.v
  rw [UInt64.toNat_add, UInt64.toNat_mul]
  simp

set_option maxHeartbeats 1000000 in
theorem rdig_word (l : List UInt8) (A : Option Addr) (n c B k : Nat) (z : Int) (w : World) (hz : z = k) (h : Bytes w B A n c l) (hl : k + 8 ≤ l.length) (hk : l.length ≤ 9223372036854775000) :
    Calls Try.prog 25 #[.slice A n c, .int .i64 z] w fun e w' => e = .returned (.int .u64 (Dig.v (Dig.word ((l.drop k).take 8)))) ∧ w = w' := by
  subst hz
  obtain ⟨hlen, hcap, hlim, hr⟩ := h
  subst hlen
  clear hlim
  go_enter Try.func25, Try.ntmps25
  go_wp2
  go_loop [5, 6] (fun n i => ∃ j : Nat, j ≤ 8 ∧ i = .int .i64 j ∧ n = .int .u64 (Dig.v (Dig.word ((l.drop k).take j)))) (fun _ i => 8 - (intOf i).toNat)
  case atStart => exact ⟨0, Nat.zero_le _, rfl, rfl⟩
  case round =>
    obtain ⟨j, hj, rfl, rfl⟩ := hrel
    by_cases hlt : j < 8
    · obtain ⟨g, o, u, rfl, _, hx, hc⟩ := hr.at_ (k := k + j) (by omega)
      rw [bv_at l (k + j) (by omega)] at hx
      cases hx
      have hs := Dig.add8 (Dig.word ((l.drop k).take j)) l[k + j]
      have hw := Dig.word_take (l.drop k) j (by rw [List.length_drop]; omega)
      simp only [List.getElem_drop] at hw
      rw [← hw] at hs
      clear hw
      have hkj : ((k : Int) + (j : Int)).toNat = k + j := by omega
      go_wp2
      refine ⟨⟨j + 1, by omega, by go_num, rfl⟩, ?_⟩
      simp [intOf]; omega
    · obtain rfl : j = 8 := by omega
      go_wp2
      go_ret
      exact ⟨rfl, rfl⟩
end Go.Proofs.Ytioanppnkhiokaa

namespace Go.Proofs.Ytioanppnkhiokaa
open Go.RowKit

def PadA (w : World) (l : List UInt8) (j : Nat) (v : Value) (wr : World) : Prop := ∃ g c, v = .slice (some ⟨g, 0, none⟩) (l.length + 1 + j) c ∧
  wr.ownsRow w.heap.size 5 1 v (l.length + 1 + j) (bv (l ++ [128] ++ List.replicate j 0)) ∧ Below w.heap.size w wr
def PadB (w : World) (T : List UInt8) (x : UInt64) (j : Nat) (v : Value) (wr : World) : Prop := ∃ g c, v = .slice (some ⟨g, 0, none⟩) (T.length + j) c ∧
  wr.ownsRow w.heap.size 5 1 v (T.length + j) (bv (T ++ (Dig.bytes8 x).take j)) ∧ Below w.heap.size w wr
set_option maxRecDepth 100000 in
set_option maxHeartbeats 1000000 in
theorem rdig_Padded (l : List UInt8) (A : Option Addr) (n c : Nat) (w : World) (h : Bytes w w.heap.size A n c l) (hl : l.length ≤ 140737488355200) :
    Calls Try.prog 24 #[.slice A n c] w (PostB w (Dig.padded l)) := by
  have hlen := h.len
  subst hlen
  have hpd : Dig.padded l = l ++ [128] ++ List.replicate (Dig.noughts l.length) 0 ++ Dig.bytes8 (UInt64.ofNat l.length) := rfl
  replace hpd := Lib.hid hpd
  replace h := Lib.hid h
  have hl63 : l.length ≤ 9223372036854775807 := by omega
  go_enter Try.func24, Try.ntmps24
  go_wp2_with (first
    | (refine wpList_append_u8 rfl _ _ rfl w.heap.size _ 0 [] rfl (own_lit w #[] [] w.heap.size rfl (by simp [maxLen]) (Nat.le_refl _) rfl) w.heap.size _ _ _ l rfl (h.out.alloc (Nat.le_refl _) _) (by omega) (by simp) ?_
       intro A' c' w1 hown hbel
       have hs1 := hbel.size
       simp at hs1
       replace hbel := Lib.hid (((Below.refl w.heap.size w).alloc (Nat.le_refl _) _).trans hbel)
       rw [Nat.zero_add, List.nil_append] at *
       have hown := Lib.hid hown)
    | (refine wpList_append1_u8 rfl _ _ rfl w.heap.size _ l.length l rfl hown.out 128 128 rfl _ rfl (by simp) (by omega) (by omega) ?_
       intro g2 c2 w2 hown2 hg2 hbel2 hsz2
       replace hbel := Lib.hid (hbel.out.trans hbel2)
       clear hbel2 hown
       have hown := Lib.hid hown2
       clear hown2))
  have q0 := Dig.noughts_lt l.length
  go_loopw [3] (fun v wr => ∃ j, j ≤ Dig.noughts l.length ∧ PadA w l j v wr) (fun v _ => l.length + 100 - slen v)
  case atStart => exact ⟨0, Nat.zero_le _, g2, c2, rfl, by simpa using hown.out, hbel.out⟩
  case round =>
    obtain ⟨j, hj, g, cc, rfl, ho, hb⟩ := hrel
    clear hown hbel hsz2 hs1 hg2
    replace ho := Lib.hid ho
    have hbs := hb.size
    replace hb := Lib.hid hb
    by_cases hlt : j < Dig.noughts l.length
    · have hmod : (((l.length : Int) + 1 + (j : Int)) % 32 != 24) = true := by have := Dig.noughts_end l.length j hj; rw [bne_iff_ne]; omega
      have hlt2 : j + 1 ≤ Dig.noughts l.length := by omega
      go_wp2_with (refine wpList_append1_u8 rfl _ _ rfl w.heap.size _ (l.length + 1 + j) _ rfl ho.out 0 0 rfl _ rfl (by simp) (by omega) (by omega) ?_
                   intro g3 c3 w3 hown3 hg3 hbel3 hsz3
                   replace hb := Lib.hid (hb.out.trans hbel3)
                   clear hbel3 ho
                   have ho := Lib.hid hown3
                   clear hown3)
      go_roundw
      case rel =>
        refine ⟨j + 1, hlt2, g3, c3, rfl, ?_, hb.out⟩
        have := ho.out
        rw [List.append_assoc, ← List.replicate_succ'] at this
        exact this
      case measure => simp [slen]; omega
    · obtain rfl : j = Dig.noughts l.length := by omega
      have hmod : (((l.length : Int) + 1 + (Dig.noughts l.length : Int)) % 32 != 24) = false := by
        have := (Dig.noughts_end l.length (Dig.noughts l.length) hj).2 rfl
        rw [bne_eq_false_iff_eq]; omega
      have hTl : (l ++ [128] ++ List.replicate (Dig.noughts l.length) 0).length = l.length + 1 + Dig.noughts l.length := by simp; omega
      have hTb : l.length + 1 + Dig.noughts l.length ≤ 140737488355240 := by omega
      replace q0 := Lib.hid q0
      have hqe : IntKind.u64.wrap (l.length : Int) = l.length := by rw [Dig.wrap_u64]; omega
      go_wp2_with fail
      have hu : (l.length : Int) = Dig.v (UInt64.ofNat l.length) := by unfold Dig.v; simp; omega
      rw [hu]
      clear hu hqe
      rw [← hTl] at ho ⊢
      have hpd2 := hpd.out
      clear hpd q0 hmod hj hlt
      generalize l ++ [128] ++ List.replicate (Dig.noughts l.length) 0 = T at *
      generalize UInt64.ofNat l.length = x at *
      replace hpd2 := Lib.hid hpd2
      have hTb2 : T.length ≤ 140737488355240 := by omega
      have h8 := Dig.bytes8_length x
      clear hTl hTb
      go_loopw [3, 5] (fun v i wr => ∃ j : Nat, j ≤ 8 ∧ i = .int .i64 j ∧ PadB w T x j v wr) (fun _ i _ => 8 - (intOf i).toNat)
      case atStart => exact ⟨0, Nat.zero_le _, rfl, g, cc, rfl, by simpa using ho.out, hb.out⟩
      case round =>
        clear ho hb hbs
        obtain ⟨j, hj, rfl, g, cc, rfl, ho, hb⟩ := hrel
        have hbs := hb.size
        replace ho := Lib.hid ho
        replace hb := Lib.hid hb
        by_cases hlt : j < 8
        · have hby := Dig.shr_byte x j hlt
          replace hby := Lib.hid hby
          have htk := List.take_succ_eq_append_getElem (l := Dig.bytes8 x) (i := j) (by omega)
          replace htk := Lib.hid htk
          go_wp2_with (refine wpList_append1_u8 rfl _ _ rfl w.heap.size _ (T.length + j) _ rfl ho.out _ ((Dig.bytes8 x)[j]'(by omega)) hby.out _ rfl (by simp) (by omega) (by omega) ?_
                       intro g3 c3 w3 hown3 hg3 hbel3 hsz3
                       replace hb := Lib.hid (hb.out.trans hbel3)
                       clear hbel3 ho
                       have ho := Lib.hid hown3
                       clear hown3)
          refine ⟨⟨j + 1, by omega, by go_num, g3, c3, rfl, ?_, hb.out⟩, by simp [intOf]; omega⟩
          rw [htk.out, ← List.append_assoc]
          exact ho.out
        · obtain rfl : j = 8 := by omega
          go_wp2_with fail
          go_ret
          have := ho.out
          rw [List.take_of_length_le (by omega)] at this
          refine ⟨_, _, _, rfl, by rw [hpd2.out, List.length_append, h8], ?_, hb.out⟩
          rw [hpd2.out]
          exact this
end Go.Proofs.Ytioanppnkhiokaa

namespace Go.Proofs.Ytioanppnkhiokaa
open Go.RowKit

theorem info_u64 : (Try.prog.info? 68).map (fun i => (i.zero, i.size, i.bytes)) = some (some (.int .u64 0), 1, 8) := by kernel_rfl
/-- four words that are read, below a block -/
def Row4 (w : World) (B g : Nat) (s : Dig.St) : Prop := g < B ∧ ∀ i, i < 4 → w.cell? ⟨g, i, none⟩ = some (.int .u64 (Dig.v (Dig.at4 s i)))
section
variable {w w' : World} {B g : Nat} {s : Dig.St}
theorem Row4.at_ (h : Row4 w B g s) (i : Nat) (hi : i < 4) : w.cell? ⟨g, i, none⟩ = some (.int .u64 (Dig.v (Dig.at4 s i))) := h.2 i hi
theorem Row4.below (h : Row4 w B g s) (hb : Below B w w') : Row4 w' B g s := ⟨h.1, fun i hi => (hb.cell (p := ⟨g, i, none⟩) h.1).trans (h.2 i hi)⟩
theorem Row4.setCell (h : Row4 w B g s) {p : Addr} (hp : B ≤ p.block) (u : Value) : Row4 (w.setCell p u) B g s :=
  ⟨h.1, fun i hi => (World.cell?_setCell_other w p ⟨g, i, none⟩ u (fun e => by subst e; have := h.1; simp at hp; omega)).trans (h.2 i hi)⟩
theorem Row4.more {B' : Nat} (h : Row4 w B g s) (hB : B ≤ B') : Row4 w B' g s := ⟨Nat.lt_of_lt_of_le h.1 hB, h.2⟩
theorem Row4.new (w : World) (s : Dig.St) (t : TypeId) (cs : Array Value) (h : cs = row4 s) : Row4 (w.alloc (.cells cs t)) (w.heap.size + 1) w.heap.size s := by
  subst h
  exact ⟨Nat.lt_succ_self _, fun i hi => ((Blk.new w t (row4 s)).cell i).trans (row4_at s i hi)⟩
theorem Row4.new' (w : World) (a b c d : UInt64) (t : TypeId) : Row4 (w.alloc (.cells #[.int .u64 (Dig.v a), .int .u64 (Dig.v b), .int .u64 (Dig.v c), .int .u64 (Dig.v d)] t)) (w.heap.size + 1) w.heap.size ⟨a, b, c, d⟩ :=
  Row4.new w ⟨a, b, c, d⟩ t _ rfl
theorem Row4.reads (h : Row4 w B g s) : Reads w B 1 (some ⟨g, 0, none⟩) 4 (row4 s).toList := by
  refine ⟨rfl, fun _ => ⟨g, 0, rfl, h.1, fun j u hu => ?_⟩⟩
  have hj : j < 4 := (List.getElem?_eq_some_iff.1 hu).1
  rw [Nat.zero_add, h.2 j hj, ← hu]
  rw [Array.getElem?_toList]
  exact (row4_at s j hj).symm
theorem Row4.of_own {c : Nat} {base : Nat} {t : TypeId} (h : w.ownsRow base t 1 (.slice (some ⟨g, 0, none⟩) 4 c) 4 (row4 s).toList) : Row4 w w.heap.size g s := by
  refine ⟨(h.lt g rfl).2, fun i hi => ?_⟩
  have := row4_at s i hi
  rw [← Array.getElem?_toList] at this
  exact own_cell h i _ this
end
theorem wpList_append_u64 {w : World} {ops : Array Oper} {rest : List Oper} {o : Oper} {a : Act} {Q : Exit → Act → World → Prop} (hgd : o.guard = none) (s x : Operand)
    (ho : o.op = .call { callee := .builtin .append, args := #[s, x], argTypes := #[69, 69] })
    (base g0 : Nat) (hs : a.eval s = .slice (some ⟨g0, 0, none⟩) 0 0) (hg0 : g0 = w.heap.size)
    (B gx : Nat) (S : Dig.St) (hx : a.eval x = .slice (some ⟨gx, 0, none⟩) 4 4) (hr : Row4 w B gx S) (hBw : B ≤ w.heap.size) (hbase : base ≤ w.heap.size)
    (h : ∀ g c' w', Row4 w' w'.heap.size g S → Below w.heap.size w w' → wpList Try.prog ops Q rest (a.put o.dst (.slice (some ⟨g, 0, none⟩) 4 c')) w') :
    wpList Try.prog ops Q (o :: rest) a (w.alloc (.cells #[] 68)) := by
  obtain ⟨i0, hi, hz0, hz1, hz2⟩ := info_parts info_u64
  subst hg0
  have hown : (w.alloc (.cells #[] 68)).ownsRow w.heap.size 68 1 (.slice (some ⟨w.heap.size, 0, none⟩) 0 0) 0 [] :=
    World.ownsRow_lit w #[] 0 (Nat.le_refl _) (Nat.zero_le _) rfl
  refine wpList_append_any _ hgd s x 69 ho w.heap.size 68 i0 (.int .u64 0) 1 8 Try.underlying69 hi hz0 hz1 hz2 rfl (by omega) _ 0 [] hs hown B _ 4 4 _ hx (hr.reads.alloc hBw _) (by intro u hu; exact Array.all_eq_true_iff_forall_mem.1 (row4_one S) u (by simpa using hu)) (by simp [maxLen]) (by omega) (by simp) ?_
  intro v' w' h1 h2 _
  rw [Nat.zero_add, List.nil_append] at h1
  have hb : Below w.heap.size w w' := ((Below.refl _ _).alloc (Nat.le_refl _) _).trans ((Below.refl _ _).grown h2 (by simp) (fun k hk => by have := hown.lt k hk; exact this.1))
  rcases h1.2 with ⟨rfl, h0⟩ | ⟨g, cap, cur, rfl, _⟩
  · cases h0
  · exact h g cap w' (Row4.of_own h1) hb
/-- what the rounds of the reference see -/
def RefW (w : World) (A : Option Addr) (c : Nat) (T : List UInt8) (gs gp gm : Nat) (S M : Dig.St) (wr : World) : Prop :=
  Row4 wr wr.heap.size gs S ∧ Row4 wr wr.heap.size gp S ∧ Row4 wr wr.heap.size gm M ∧ Bytes wr wr.heap.size A T.length c T ∧ Blk wr w.heap.size 30 (row32 zero32) ∧ Below w.heap.size w wr
theorem RefW.drewN {w : World} {A : Option Addr} {c : Nat} {T : List UInt8} {gs gp gm : Nat} {S M : Dig.St} {wr : World} (h : RefW w A c T gs gp gm S M wr) (n : Nat) : RefW w A c T gs gp gm S M (wr.drewN n) :=
  ⟨h.1, h.2.1, h.2.2.1, h.2.2.2.1.drewN n, h.2.2.2.2.1, below_drewN h.2.2.2.2.2 n⟩
theorem Dig.out_get (F : Dig.St) (q r : Nat) (hq : q < 4) (hr : r < 8) : (Dig.out F)[8 * q + r]? = (Dig.bytes8 (Dig.at4 F q))[r]? := by
  have ha := Dig.bytes8_length F.a
  have hb := Dig.bytes8_length F.b
  have hc := Dig.bytes8_length F.c
  unfold Dig.out
  match q, hq with
  | 0, _ => rw [List.append_assoc, List.append_assoc, List.getElem?_append_left (by omega)]; simp [Dig.at4]
  | 1, _ => rw [List.append_assoc, List.append_assoc, List.getElem?_append_right (by omega), List.getElem?_append_left (by omega), ha]; simp [Dig.at4]
  | 2, _ => rw [List.append_assoc, List.append_assoc, List.getElem?_append_right (by omega), List.getElem?_append_right (by omega), List.getElem?_append_left (by omega), ha, hb]; simp [Dig.at4]; congr 1; omega
  | 3, _ => rw [List.append_assoc, List.append_assoc, List.getElem?_append_right (by omega), List.getElem?_append_right (by omega), List.getElem?_append_right (by omega), ha, hb, hc]; simp [Dig.at4]; congr 1; omega
def outI (F : Dig.St) (i : Nat) : List UInt8 := (Dig.out F).take i ++ List.replicate (32 - i) 0
theorem outI_length (F : Dig.St) (i : Nat) (h : i ≤ 32) : (outI F i).length = 32 := by
  have := Dig.out_length F
  simp [outI, this]; omega
theorem outI_set (F : Dig.St) (i : Nat) (h : i < 32) (z : Int) (hz : z = Dig.v (Dig.at4 F (i / 8)) / 2 ^ (56 - 8 * (i % 8)) % 256) : (row32 (outI F i)).setIfInBounds i (.int .u8 z) = row32 (outI F (i + 1)) := by
  have ho := Dig.out_length F
  have hb := Dig.bytes8_length (Dig.at4 F (i / 8))
  have hg := Dig.out_get F (i / 8) (i % 8) (by omega) (by omega)
  rw [show 8 * (i / 8) + i % 8 = i by omega, List.getElem?_eq_getElem (by omega), List.getElem?_eq_getElem (by omega)] at hg
  injection hg with hg
  rw [Dig.shr_byte _ _ (by omega), ← hg] at hz
  rw [hz]
  apply Array.ext'
  simp only [row32, Array.toList_setIfInBounds, outI]
  rw [bv_append, List.set_append_right _ _ (by rw [bv_length, List.length_take]; omega), bv_length, List.length_take, Nat.min_eq_left (by omega), Nat.sub_self,
    show 32 - i = (32 - (i + 1)) + 1 by omega, List.replicate_succ]
  have e : (Dig.out F).take (i + 1) = (Dig.out F).take i ++ [(Dig.out F)[i]] := List.take_succ_eq_append_getElem (by omega)
  rw [e]
  simp only [bv, List.map_append, List.map_cons, List.map_nil, List.append_assoc, List.cons_append, List.nil_append, List.set_cons_zero]
  rfl
/-- the reference writes its words: so many bytes are there -/
def OutA (w : World) (D gs : Nat) (F : Dig.St) (k : Nat) (wr : World) : Prop := Blk wr D 30 (row32 (outI F k)) ∧ Row4 wr D gs F ∧ Blk wr w.heap.size 30 (row32 zero32) ∧ Below w.heap.size w wr
theorem Dig.piece_at (T : List UInt8) (k : Nat) : Dig.piece ((T.drop k).take 32) = ⟨Dig.word ((T.drop k).take 8), Dig.word ((T.drop (k + 8)).take 8), Dig.word ((T.drop (k + 16)).take 8), Dig.word ((T.drop (k + 24)).take 8)⟩ := by
  simp [Dig.piece, List.take_take, List.drop_take]
/-- the pieces of the reference: so many are taken in -/
def RefA (w : World) (B : Nat) (A : Option Addr) (c : Nat) (T : List UInt8) (j : Nat) (v : Value) (wr : World) : Prop := ∃ gs, v = .slice (some ⟨gs, 0, none⟩) 4 4 ∧ 32 * j ≤ T.length ∧
  Row4 wr wr.heap.size gs (Dig.absorb j Dig.begun T) ∧ Bytes wr wr.heap.size A T.length c T ∧ Blk wr w.heap.size 30 (row32 zero32) ∧ Below w.heap.size w wr
set_option maxRecDepth 100000 in
set_option maxHeartbeats 1000000 in
theorem rdig_Of (l : List UInt8) (A : Option Addr) (n c : Nat) (w : World) (h : Bytes w w.heap.size A n c l) (hl : l.length ≤ 140737488355200) :
    Calls Try.prog 11 #[.slice A n c] w fun e w' => e = .returned (digV (Dig.of l)) ∧ Below w.heap.size w w' := by
  have hof : Dig.of l = Dig.out (Dig.absorb ((Dig.padded l).length / 32) Dig.begun (Dig.padded l)) := rfl
  have hpm : (Dig.padded l).length % 32 = 0 := Dig.tail_mod _ _
  have hpl : (Dig.padded l).length ≤ 140737488355300 := by
    have := Dig.tail_length l (UInt64.ofNat l.length)
    have := Dig.noughts_lt l.length
    show (Dig.tail _ _).length ≤ _
    omega
  replace hof := Lib.hid hof
  replace h := Lib.hid h
  go_enter Try.func11, Try.ntmps11
  go_wp2_with fail
  refine calls_at (DigCell w w.heap.size A n c l) ⟨Blk.zeros _ _ _ rfl, h.out.alloc (Nat.le_refl _) _, (Below.refl _ _).alloc (Nat.le_refl _) _⟩ ?_
  rintro w0 ⟨hd, hb, hB⟩
  clear h
  refine (rdig_Padded l A n c _ (hb.more (Nat.le_of_lt hd.lt)) hl).mono ?_
  rintro e w1 ⟨Ap, mp, cp, rfl, hn⟩
  have hT := hn.bytes
  have hb1 := hn.2.2
  have hd0 := hd.lt
  replace hd := Lib.hid (hd.below hb1 hd0)
  replace hB := Lib.hid (hB.trans (hb1.mono (by omega)))
  clear hn hb hb1
  have hmp := hT.len
  have hcp := hT.cap
  generalize Dig.padded l = T at *
  subst hmp
  replace hT := Lib.hid hT
  have hgold : (11400714819323198485 : Int) = Dig.v Dig.golden := by decide
  go_wp2_with fail
  rw [hgold]
  have hbegun : (⟨Dig.golden, Dig.golden + Dig.golden, Dig.golden + Dig.golden + Dig.golden, Dig.golden + Dig.golden + Dig.golden + Dig.golden⟩ : Dig.St) = Dig.begun := rfl
  go_loopw [5, 6] (fun v i wr => ∃ j : Nat, i = .int .i64 (32 * j : Nat) ∧ RefA w w1.heap.size Ap cp T j v wr) (fun _ i _ => T.length - (intOf i).toNat)
  case atStart => exact ⟨0, rfl, _, rfl, by omega, by have e := Row4.new' w1 Dig.golden (Dig.golden + Dig.golden) (Dig.golden + Dig.golden + Dig.golden) (Dig.golden + Dig.golden + Dig.golden + Dig.golden) 68; rw [hbegun] at e; simpa [Dig.absorb] using e, (hT.out.alloc (Nat.le_refl _) _).more (by simp), hd.out.alloc _, hB.out.alloc hB.out.size _⟩
  case round =>
    clear hd hT hB
    obtain ⟨j, rfl, gs, rfl, hj32, hs, hT, hd, hB⟩ := hrel
    by_cases hlt : 32 * j < T.length
    · replace hs := Lib.hid hs
      replace hT := Lib.hid hT
      replace hd := Lib.hid hd
      replace hB := Lib.hid hB
      have hj2 : 32 * (j + 1) ≤ T.length := by omega
      replace hpm := Lib.hid hpm
      go_wp2_with (first
        | (refine wpList_append_u64 rfl _ _ rfl wr.heap.size _ rfl rfl wr.heap.size gs _ rfl hs.out (Nat.le_refl _) (Nat.le_refl _) ?_
           intro gp cq w2 hp hb2
           replace hs := Lib.hid ((hs.out.below hb2).more hb2.size)
           replace hT := Lib.hid (hT.out.step hb2)
           have hdl := hd.out.lt
           replace hd := Lib.hid (hd.out.below hb2 hdl)
           replace hB := Lib.hid (hB.out.trans (hb2.mono hB.out.size))
           clear hb2
           replace hp := Lib.hid hp))
      have hpp := Dig.piece_at T (32 * j)
      refine (rdig_word T Ap T.length cp w2.heap.size (32 * j) _ w2 (by omega) hT.out (by omega) (by omega)).mono ?_
      rintro e _ ⟨rfl, rfl⟩
      generalize Dig.word ((T.drop (32 * j)).take 8) = m0 at *
      replace hpp := Lib.hid hpp
      go_wp2_with fail
      refine (rdig_word T Ap T.length cp w2.heap.size (32 * j + 8) _ w2 (by omega) hT.out (by omega) (by omega)).mono ?_
      rintro e _ ⟨rfl, rfl⟩
      replace hpp := hpp.out
      generalize Dig.word ((T.drop (32 * j + 8)).take 8) = m1 at *
      replace hpp := Lib.hid hpp
      go_wp2_with fail
      refine (rdig_word T Ap T.length cp w2.heap.size (32 * j + 16) _ w2 (by omega) hT.out (by omega) (by omega)).mono ?_
      rintro e _ ⟨rfl, rfl⟩
      replace hpp := hpp.out
      generalize Dig.word ((T.drop (32 * j + 16)).take 8) = m2 at *
      replace hpp := Lib.hid hpp
      go_wp2_with fail
      refine (rdig_word T Ap T.length cp w2.heap.size (32 * j + 24) _ w2 (by omega) hT.out (by omega) (by omega)).mono ?_
      rintro e _ ⟨rfl, rfl⟩
      replace hpp := hpp.out
      generalize Dig.word ((T.drop (32 * j + 24)).take 8) = m3 at *
      replace hpp := Lib.hid hpp
      generalize hS : Dig.absorb j Dig.begun T = S at *
      have HS := Lib.hid hS
      clear hS
      have hmm : (⟨m0, m1, m2, m3⟩ : Dig.St) = Dig.piece ((T.drop (32 * j)).take 32) := hpp.out.symm
      generalize hM : Dig.piece ((T.drop (32 * j)).take 32) = M at *
      have HM := Lib.hid hM
      clear hM hpp
      have hrow := Row4.new' w2 m0 m1 m2 m3 68
      rw [hmm] at hrow
      replace hmm := Lib.hid hmm
      replace hrow := Lib.hid hrow
      have hbn := Lib.hid ((Below.refl w2.heap.size w2).alloc (Nat.le_refl _) (.cells #[.int .u64 (Dig.v m0), .int .u64 (Dig.v m1), .int .u64 (Dig.v m2), .int .u64 (Dig.v m3)] 68))
      have hdl2 := hd.out.lt
      go_wp2_with fail
      refine code_at (RefW w Ap cp T gs gp w2.heap.size S M) ⟨(hs.out.below hbn.out).more (by simp), (hp.out.below hbn.out).more (by simp), by simpa using hrow.out, hT.out.step hbn.out, hd.out.below hbn.out hdl2, hB.out.trans (hbn.out.mono (by omega))⟩ ?_
      clear hs hp hT hd hB hrow hbn hmm
      generalize w2.heap.size = gm
      rintro w3 hw3
      have a0 : w3.cell? ⟨gs, 0, none⟩ = some (.int .u64 (Dig.v S.a)) := hw3.1.at_ 0 (by omega)
      have a1 : w3.cell? ⟨gs, 1, none⟩ = some (.int .u64 (Dig.v S.b)) := hw3.1.at_ 1 (by omega)
      have a2 : w3.cell? ⟨gs, 2, none⟩ = some (.int .u64 (Dig.v S.c)) := hw3.1.at_ 2 (by omega)
      have a3 : w3.cell? ⟨gs, 3, none⟩ = some (.int .u64 (Dig.v S.d)) := hw3.1.at_ 3 (by omega)
      have b0 : w3.cell? ⟨gm, 0, none⟩ = some (.int .u64 (Dig.v M.a)) := hw3.2.2.1.at_ 0 (by omega)
      have b1 : w3.cell? ⟨gm, 1, none⟩ = some (.int .u64 (Dig.v M.b)) := hw3.2.2.1.at_ 1 (by omega)
      have b2 : w3.cell? ⟨gm, 2, none⟩ = some (.int .u64 (Dig.v M.c)) := hw3.2.2.1.at_ 2 (by omega)
      have b3 : w3.cell? ⟨gm, 3, none⟩ = some (.int .u64 (Dig.v M.d)) := hw3.2.2.1.at_ 3 (by omega)
      replace hw3 := Lib.hid hw3
      go_quiet (fail)
      go_wp2_with fail
      go_quiet (fail)
      go_wp2_with fail
      go_quiet (fail)
      go_wp2_with fail
      go_quiet (fail)
      go_wp2_with fail
      clear a0 a1 a2 a3 b0 b1 b2 b3
      go_loopw [9, 10, 11, 12, 13, 14] (fun a b c d kv i wx => ∃ (r : Nat) (s' : Dig.St) (K : UInt64), r ≤ 8 ∧ i = .int .i64 r ∧ a = .int .u64 (Dig.v s'.a) ∧ b = .int .u64 (Dig.v s'.b) ∧ c = .int .u64 (Dig.v s'.c) ∧ d = .int .u64 (Dig.v s'.d) ∧ kv = .int .u64 (Dig.v K) ∧
        Dig.rounds (Dig.words M) (Dig.xor4 S M) Dig.golden = Dig.rounds ((Dig.words M).drop r) s' (K + Dig.golden) ∧ RefW w Ap cp T gs gp gm S M wx) (fun _ _ _ _ _ i _ => 8 - (intOf i).toNat)
      case atStart => exact ⟨0, Dig.xor4 S M, 0, by omega, rfl, rfl, rfl, rfl, rfl, rfl, by rw [UInt64.zero_add]; rfl, (((hw3.out.drewN _).drewN _).drewN _).drewN _⟩
      case round =>
        clear hw3
        obtain ⟨r, s', K, hr8, rfl, rfl, rfl, rfl, rfl, rfl, hro, hx⟩ := hrel
        by_cases hr : r < 8
        · rw [Dig.rounds_step _ _ _ r hr] at hro
          have d0 := hx.2.2.1.at_ (r % 4) (by omega)
          replace hx := Lib.hid hx
          replace hro := Lib.hid hro
          have q1 : (r : Int).tmod 4 = (r : Int) % 4 := Int.tmod_eq_emod_of_nonneg (by omega)
          have q3 : ((r : Int) % 4).toNat = r % 4 := by omega
          go_wp2_with fail
          generalize ha1 : s'.a + s'.b + Dig.at4 M (r % 4) + (K + Dig.golden) = a1
          replace ha1 := Lib.hid ha1
          refine (rdig_rot32 _ _).mono ?_
          rintro e _ ⟨rfl, n1, rfl⟩
          go_wp2_with fail
          generalize hd1 : Dig.rot (s'.d ^^^ a1) 32 = d1
          generalize he1 : s'.c + d1 = e1
          replace hd1 := Lib.hid hd1
          replace he1 := Lib.hid he1
          refine (rdig_rot24 _ _).mono ?_
          rintro e _ ⟨rfl, n2, rfl⟩
          go_wp2_with fail
          generalize hb1 : Dig.rot (s'.b ^^^ e1) 24 = b1
          generalize ha2 : a1 + b1 = a2
          replace hb1 := Lib.hid hb1
          replace ha2 := Lib.hid ha2
          refine (rdig_rot16 _ _).mono ?_
          rintro e _ ⟨rfl, n3, rfl⟩
          go_wp2_with fail
          generalize hd2 : Dig.rot (d1 ^^^ a2) 16 = d2
          generalize he2 : e1 + d2 = e2
          replace hd2 := Lib.hid hd2
          replace he2 := Lib.hid he2
          refine (rdig_rot63 _ _).mono ?_
          rintro e _ ⟨rfl, n4, rfl⟩
          go_wp2_with fail
          have hro := hro.out
          have hrd : Dig.round s' (Dig.at4 M (r % 4)) (K + Dig.golden) = ⟨Dig.rot (b1 ^^^ e2) 63, e2, d2, a2⟩ := by
            rw [← he2.out, ← hd2.out, ← ha2.out, ← hb1.out, ← he1.out, ← hd1.out, ← ha1.out]
            unfold Dig.round
            rw [show s'.a + (s'.b + Dig.at4 M (r % 4) + (K + Dig.golden)) = s'.a + s'.b + Dig.at4 M (r % 4) + (K + Dig.golden) by simp only [UInt64.add_assoc]]
          rw [hrd] at hro
          refine ⟨⟨r + 1, ⟨Dig.rot (b1 ^^^ e2) 63, e2, d2, a2⟩, K + Dig.golden, by omega, by go_num, rfl, rfl, rfl, rfl, rfl, hro, hx.out.drewN _⟩, by simp [intOf]; omega⟩
        · obtain rfl : r = 8 := by omega
          have hmix : Dig.absorb (j + 1) Dig.begun T = Dig.xor4 s' S := by
            rw [Dig.absorb_succ, HS.out]
            unfold Dig.mixed
            rw [HM.out, hro]
            rfl
          clear hro
          have c0 : wr.cell? ⟨gp, 0, none⟩ = some (.int .u64 (Dig.v S.a)) := hx.2.1.at_ 0 (by omega)
          have c1 : wr.cell? ⟨gp, 1, none⟩ = some (.int .u64 (Dig.v S.b)) := hx.2.1.at_ 1 (by omega)
          have c2 : wr.cell? ⟨gp, 2, none⟩ = some (.int .u64 (Dig.v S.c)) := hx.2.1.at_ 2 (by omega)
          have c3 : wr.cell? ⟨gp, 3, none⟩ = some (.int .u64 (Dig.v S.d)) := hx.2.1.at_ 3 (by omega)
          replace hx := Lib.hid hx
          replace hmix := Lib.hid hmix
          go_wp2_with fail
          go_still_tail 20, (by kernel_rfl)
          change wpList _ _ _ _ _ wr.drew
          go_wp2_with fail
          have hrow := Row4.new' wr (s'.a ^^^ S.a) (s'.b ^^^ S.b) (s'.c ^^^ S.c) (s'.d ^^^ S.d) 68
          have hbn := (Below.refl wr.heap.size wr).alloc (Nat.le_refl _) (.cells #[.int .u64 (Dig.v (s'.a ^^^ S.a)), .int .u64 (Dig.v (s'.b ^^^ S.b)), .int .u64 (Dig.v (s'.c ^^^ S.c)), .int .u64 (Dig.v (s'.d ^^^ S.d))] 68)
          have hx := hx.out
          refine ⟨⟨j + 1, by go_num, _, rfl, hj2, ?_, (hx.2.2.2.1.step hbn).drew, (hx.2.2.2.2.1.below hbn hx.2.2.2.2.1.lt).drew, (hx.2.2.2.2.2.trans (hbn.mono hx.2.2.2.2.2.size)).drew⟩, by simp [intOf]; omega⟩
          rw [hmix.out]
          exact ⟨by simp, fun i hi => hrow.2 i hi⟩
    · have hj : j = T.length / 32 := by omega
      rw [← hj] at hof
      have hlt' : ¬ (32 * (j : Int) < (T.length : Int)) := by omega
      have hF := hof.out
      generalize Dig.absorb j Dig.begun T = F at *
      replace hF := Lib.hid hF
      clear hof hpm hj
      have hdl := hd.lt
      have hz := Lib.hid ((Blk.zeros wr _ 30 rfl).eq (cs' := row32 (outI F 0)) rfl)
      replace hs := Lib.hid hs
      replace hd := Lib.hid hd
      replace hB := Lib.hid hB
      clear hT
      go_wp2_with fail
      refine code_at (OutA w wr.heap.size gs F 0) ⟨hz.out, hs.out.below ((Below.refl _ _).alloc (Nat.le_refl _) _), hd.out.alloc _, hB.out.alloc (by omega) _⟩ ?_
      clear hz hs hd hB
      generalize wr.heap.size = D at *
      intro wo ho
      go_loopw [17] (fun i wx => ∃ k : Nat, k ≤ 32 ∧ i = .int .i64 k ∧ OutA w D gs F k wx) (fun i _ => 32 - (intOf i).toNat)
      case atStart => exact ⟨0, by omega, rfl, ho⟩
      case round =>
        clear ho
        obtain ⟨k, hk, rfl, h0, h1, h2, h3⟩ := hrel
        by_cases hlk : k < 32
        · have c1 := h1.at_ (k / 8) (by omega)
          have ⟨v0, hv0⟩ : ∃ v, (row32 (outI F k))[k]? = some v := ⟨_, Array.getElem?_eq_getElem (by rw [row32_size (outI_length F k hk)]; exact hlk)⟩
          have c0 := (h0.cell k).trans hv0
          have f0 := h0.frozen k
          clear hv0
          replace h0 := Lib.hid h0
          replace h1 := Lib.hid h1
          replace h2 := Lib.hid h2
          replace h3 := Lib.hid h3
          have q1 : ((k : Int) / 8).toNat = k / 8 := by omega
          have q2 : (56 - 8 * ((k : Int) % 8)).toNat = 56 - 8 * (k % 8) := by omega
          have q3 : (k : Int) / 8 < 4 := by omega
          have q4 : 0 ≤ (k : Int) / 8 := by omega
          go_wp2_with fail
          have hn0 := h0.out.set_ k (.int .u8 (Dig.v (Dig.at4 F (k / 8)) / 2 ^ (56 - 8 * (k % 8)) % 256))
          rw [outI_set F k hlk _ rfl] at hn0
          have hgsD := h1.out.1
          refine ⟨⟨k + 1, by omega, by go_num, hn0, h1.out.setCell (Nat.le_refl _) _, h2.out.far (by simp; omega) _, h3.out.setCell (Nat.le_of_lt hdl) _⟩, by simp [intOf]; omega⟩
        · obtain rfl : k = 32 := by omega
          have h32 : outI F 32 = Dig.out F := by simp [outI, List.take_of_length_le (Nat.le_of_eq (Dig.out_length F))]
          rw [h32] at h0
          have ho' := row32_size (Dig.out_length F)
          replace h0 := Lib.hid h0
          replace h2 := Lib.hid h2
          replace h3 := Lib.hid h3
          clear h1
          go_wp2_with (first
            | (refine wpList_load_row rfl 30 _ rfl _ rfl _ (row32 (Dig.out F)) _ _ h0.out Try.underlying30 rfl (by rw [ho']; exact info_digest) ?_)
            | (refine wpList_store_row rfl 30 _ _ rfl w.heap.size (row32 (Dig.out F)) rfl rfl _ _ h2.out (by rw [ho']; exact info_digest) (by rw [ho']; rfl) (row32_one _) ?_))
          exact bodyPost_ret (v := digV (Dig.out F)) (results_cell_row rfl _ _ w.heap.size _ (row32 (Dig.out F)) _ _ rfl (h2.out.row _) Try.underlying30 rfl (by rw [ho']; exact info_digest)) rfl ⟨by rw [hF.out], below_row h3.out (Nat.le_refl _) _⟩
end Go.Proofs.Ytioanppnkhiokaa

/-
  Digests compared.
-/
namespace Go.Proofs.Ytioanppnkhiokaa
open Go.RowKit

theorem dig_law : Maps.Keyed Try.prog 30 := Maps.Keyed.of_law (deep_law_laid (by kernel_rfl) (m := 2) (by omega) (of_decide_eq_true (by kernel_rfl)) (by kernel_rfl) (by kernel_rfl))
theorem mapM_some {α β : Type} (f : α → Option β) : ∀ l : List α, (∀ x ∈ l, ∃ y, f x = some y) → ∃ ys, l.mapM f = some ys
  | [], _ => ⟨[], rfl⟩
  | x :: r, h => by
    obtain ⟨y, hy⟩ := h x (List.mem_cons_self ..)
    obtain ⟨ys, hys⟩ := mapM_some f r (fun z hz => h z (List.mem_cons_of_mem _ hz))
    exact ⟨y :: ys, by simp [List.mapM_cons, hy, hys]⟩
theorem bv_inj : ∀ {a b : List UInt8}, bv a = bv b → a = b
  | [], [], _ => rfl
  | [], _ :: _, h => by simp [bv] at h
  | _ :: _, [], h => by simp [bv] at h
  | x :: a, y :: b, h => by
    simp only [bv, List.map_cons, List.cons.injEq, Value.int.injEq, true_and] at h
    have hx : x = y := UInt8.toNat_inj.1 (by omega)
    rw [hx, bv_inj (a := a) (b := b) h.2]
theorem digV_inj {a b : List UInt8} (h : digV a = digV b) : a = b := by
  simp only [digV, row32, Value.agg.injEq] at h
  exact bv_inj (by simpa using h)
theorem dig_key (l : List UInt8) (h : l.length = 32) : ∃ k, keyOf Try.prog 30 (digV l) = some k := by
  have hu : Try.prog.underlying 30 = some (.array 32 5) := Try.underlying30
  have he : Try.prog.underlying 5 = some (.int .u8) := Try.underlying5
  have hk : Try.prog.keyType 30 = true := by kernel_rfl
  have hc : Try.prog.cellsOf 30 = 32 := by kernel_rfl
  have hc1 : Try.prog.cellsOf 5 = 1 := by kernel_rfl
  obtain ⟨s, hs⟩ : ∃ s, Try.prog.types.size = s + 1 := ⟨Try.prog.types.size - 1, by kernel_rfl⟩
  have hf : (digV l).formed Try.prog 30 = true := by simp [digV, Value.formed, hu, hc, row32_size h]
  unfold keyOf
  simp only [hu, hk, hf, Bool.and_self, if_true]
  have hl : ∃ ls, Try.prog.keyLits (Try.prog.types.size + 1) 30 (digV l).cells.toList = some ls := by
    have hz : (digV l).cells.toList = bv l := by simp [digV, Value.cells, row32]
    rw [hz]
    unfold Program.keyLits
    simp only [hu, bv_length, h, hc, if_true]
    have := mapM_some (fun i => Try.prog.keyLits Try.prog.types.size 5 (((bv l).drop (i * Try.prog.cellsOf 5)).take (Try.prog.cellsOf 5))) (List.range 32) (fun i hi => by
      have hi := List.mem_range.1 hi
      rw [hs, hc1, Nat.mul_one]
      have hd : ((bv l).drop i).take 1 = [.int .u8 (l[i].toNat : Int)] := by
        rw [List.drop_eq_getElem_cons (by rw [bv_length]; omega)]
        simp [bv]
      rw [hd]
      unfold Program.keyLits
      simp only [he]
      have := l[i].toNat_lt
      exact ⟨_, if_pos ⟨trivial, by simp [Lit.wf, IntKind.min, IntKind.max, IntKind.signed, IntKind.bits]; omega⟩⟩)
    obtain ⟨ys, hys⟩ := this
    exact ⟨ys.flatten, by rw [hys]; rfl⟩
  obtain ⟨ls, hls⟩ := hl
  exact ⟨_, by rw [hls]; rfl⟩

set_option maxRecDepth 100000 in
theorem run_equal_dig (a b : List UInt8) (ha : a.length = 32) (hb : b.length = 32) (w : World) : (Op.equal 30 (.agg (row32 a)) (.agg (row32 b))).run Try.prog w = .ok (decide (a = b)) w := by
  obtain ⟨la, hla⟩ := dig_key a ha
  obtain ⟨lb, hlb⟩ := dig_key b hb
  obtain ⟨r, hr, hiff⟩ := run_equal_deep (P := Try.prog) w (m := 2) (by omega) (k := 30) (by kernel_rfl) (by kernel_rfl) hla hlb
  unfold digV at hr
  rw [hr]
  congr 1
  rw [Bool.eq_iff_iff, hiff, decide_eq_true_eq]
  constructor
  · intro e
    subst e
    exact digV_inj (dig_law.inj hla hlb)
  · intro e
    subst e
    rw [hla] at hlb
    exact Option.some.inj hlb
theorem run_eql_dig (a b : List UInt8) (ha : a.length = 32) (hb : b.length = 32) (w : World) : (binOp .eql 30 (.agg (row32 a)) (.agg (row32 b))).run Try.prog w = .ok (.bool (decide (a = b))) w := by
  simp [binOp, run_equal_dig a b ha hb]

end Go.Proofs.Ytioanppnkhiokaa
