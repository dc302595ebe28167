/-
  Memory words: slices that read as lists, whole blocks, append onto a row of the call's own.
-/
import Derived.Below
import Derived.Laws.OwnMore
import Derived.Deep.AppendLies
import Derived.Deep.Draws
import Derived.Laws.Rows
import Derived.Maps.AppendAt
import Derived.RegionTactic
import Derived.OwnWalk
import Derived.Lib.Hide
import Derived.Laws.BytesArg
import Derived.Lib.Bytealg
namespace Go.Proofs.YtahaaeenbahknaaRRRR
open Go.RowKit

theorem add_mk (g o j : Nat) : (⟨g, o, none⟩ : Addr).add j = ⟨g, o + j, none⟩ := by unfold Addr.add; split <;> simp_all

/-- the slice value '.slice A n c' holds the cells xs, below block B -/
def Reads (w : World) (B size : Nat) (A : Option Addr) (n : Nat) (xs : List Value) : Prop :=
  xs.length = n * size ∧ (0 < n → ∃ g o, A = some ⟨g, o, none⟩ ∧ g < B ∧ ∀ j u, xs[j]? = some u → w.cell? ⟨g, o + j, none⟩ = some u)

section
variable {w w' : World} {B B' size n : Nat} {A : Option Addr} {xs : List Value}
theorem Reads.none_ : Reads w B size A 0 [] := ⟨by simp, fun h => absurd h (by omega)⟩
theorem Reads.at_ {k : Nat} (h : Reads w B 1 A n xs) (hk : k < n) : ∃ g o u, A = some ⟨g, o, none⟩ ∧ g < B ∧ xs[k]? = some u ∧ w.cell? ⟨g, o + k, none⟩ = some u := by
  obtain ⟨g, o, e, hb, hc⟩ := h.2 (by omega)
  have hl : k < xs.length := by have := h.1; omega
  exact ⟨g, o, xs[k], e, hb, List.getElem?_eq_getElem hl, hc k _ (List.getElem?_eq_getElem hl)⟩
theorem Reads.keep (h : Reads w B size A n xs) (hk : ∀ p : Addr, p.block < B → w'.cell? p = w.cell? p) : Reads w' B size A n xs :=
  ⟨h.1, fun hn => by
    obtain ⟨g, o, e, hb, hc⟩ := h.2 hn
    exact ⟨g, o, e, hb, fun j u hu => (hk ⟨g, o + j, none⟩ hb).trans (hc j u hu)⟩⟩
theorem Reads.more (h : Reads w B size A n xs) (hB : B ≤ B') : Reads w B' size A n xs :=
  ⟨h.1, fun hn => by
    obtain ⟨g, o, e, hb, hc⟩ := h.2 hn
    exact ⟨g, o, e, by omega, hc⟩⟩
theorem Reads.below (h : Reads w B size A n xs) (hb : Below B w w') : Reads w' B size A n xs := h.keep fun _ hp => hb.cell hp
theorem Reads.drew (h : Reads w B size A n xs) : Reads w.drew B size A n xs := h
theorem Reads.drewN (h : Reads w B size A n xs) (k : Nat) : Reads (w.drewN k) B size A n xs := h
theorem Reads.alloc (h : Reads w B size A n xs) (hB : B ≤ w.heap.size) (o : Obj) : Reads (w.alloc o) B size A n xs := h.keep fun p hp => World.cell?_alloc_lt w o p (by omega)
theorem Reads.setCell (h : Reads w B size A n xs) {p : Addr} (hB : B ≤ p.block) (u : Value) : Reads (w.setCell p u) B size A n xs :=
  h.keep fun q hq => World.cell?_setCell_other w p q u (fun e => by subst e; omega)
theorem Reads.grown (h : Reads w B size A n xs) {row : Option Nat} (hg : w.grownBy w' row) (hB : B ≤ w.heap.size) (hr : ∀ g, row = some g → B ≤ g) : Reads w' B size A n xs :=
  h.keep fun p hp => World.cell?_of_block (hg.block p.block (by omega) (fun e => by have := hr _ e.symm; omega))
/-- 'x[k:]' -/
theorem Reads.cut (h : Reads w B size A n xs) {k cap : Nat} (hk : k ≤ n) (hc : n ≤ cap) :
    Reads w B size (if cap = k then A else A.map (·.add (k * size))) (n - k) (xs.drop (k * size)) := by
  refine ⟨by rw [List.length_drop, h.1, Nat.sub_mul], fun hn => ?_⟩
  obtain ⟨g, o, rfl, hb, hcell⟩ := h.2 (by omega)
  rw [if_neg (by omega)]
  refine ⟨g, o + k * size, by simp only [Option.map_some, add_mk], hb, fun j u hu => ?_⟩
  rw [Nat.add_assoc]
  exact hcell _ u (by rw [← hu, List.getElem?_drop])
/-- 'x[:k]' -/
theorem Reads.take (h : Reads w B size A n xs) {k : Nat} (hk : k ≤ n) : Reads w B size A k (xs.take (k * size)) := by
  refine ⟨by rw [List.length_take, h.1, Nat.min_eq_left (Nat.mul_le_mul_right _ hk)], fun hn => ?_⟩
  obtain ⟨g, o, rfl, hb, hcell⟩ := h.2 (by omega)
  refine ⟨g, o, rfl, hb, fun j u hu => hcell j u ?_⟩
  rw [List.getElem?_take] at hu
  split at hu
  · exact hu
  · cases hu
theorem Reads.of_own {base : Nat} {e : TypeId} {c : Nat} (h : w.ownsRow base e size (.slice A n c) n xs) : Reads w w.heap.size size A n xs := by
  refine ⟨h.1, fun hn => ?_⟩
  obtain ⟨g, cap, hv, _, hlt⟩ := h.form hn
  have hA : A = some ⟨g, 0, none⟩ := by injection hv
  subst hA
  refine ⟨g, 0, rfl, hlt, fun j u hu => ?_⟩
  have := h.cells (g := g) rfl j u hu
  rwa [add_mk] at this
end

theorem below_drewN {B : Nat} {a w : World} (h : Below B a w) (n : Nat) : Below B a (w.drewN n) := ⟨h.os, h.tape, h.output, h.size, h.block⟩

/-- bytes as values -/
def bv (l : List UInt8) : List Value := l.map fun b => Value.int .u8 (b.toNat : Int)
theorem bv_length (l : List UInt8) : (bv l).length = l.length := by simp [bv]
theorem bv_at (l : List UInt8) (k : Nat) (h : k < l.length) : (bv l)[k]? = some (.int .u8 (l[k].toNat : Int)) := by
  simp [bv, h]
theorem bv_one (l : List UInt8) : ∀ u ∈ bv l, u.oneCell' = true := by
  intro u hu
  simp only [bv, List.mem_map] at hu
  obtain ⟨_, _, rfl⟩ := hu
  rfl

/-- the slice '.slice A n c' holds the bytes l, below block B -/
structure Bytes (w : World) (B : Nat) (A : Option Addr) (n c : Nat) (l : List UInt8) : Prop where
  len : n = l.length
  cap : n ≤ c
  lim : c ≤ maxLen
  reads : Reads w B 1 A n (bv l)

section
variable {w w' : World} {B B' n c : Nat} {A : Option Addr} {l : List UInt8}
theorem Bytes.at_ (h : Bytes w B A n c l) {k : Nat} (hk : k < l.length) : ∃ g o, A = some ⟨g, o, none⟩ ∧ g < B ∧ w.cell? ⟨g, o + k, none⟩ = some (.int .u8 (l[k].toNat : Int)) := by
  obtain ⟨g, o, u, e, hb, hx, hc⟩ := h.reads.at_ (k := k) (by have := h.len; omega)
  rw [bv_at l k hk] at hx
  cases hx
  exact ⟨g, o, e, hb, hc⟩
theorem Bytes.below (h : Bytes w B A n c l) (hb : Below B w w') : Bytes w' B A n c l := ⟨h.len, h.cap, h.lim, h.reads.below hb⟩
theorem Bytes.more (h : Bytes w B A n c l) (hb : B ≤ B') : Bytes w B' A n c l := ⟨h.len, h.cap, h.lim, h.reads.more hb⟩
end


theorem bv_append (a b : List UInt8) : bv (a ++ b) = bv a ++ bv b := by simp [bv]
theorem bv_nums (l : List UInt8) : bv l = (l.map fun b => (b.toNat : Int)).map (Value.int .u8) := by simp [bv]
theorem strOf_bytes (l : List UInt8) : strOfNums (l.map fun b => (b.toNat : Int)) = ⟨l.toArray⟩ := by
  unfold strOfNums
  rw [List.map_map, show ((fun n : Int => UInt8.ofNat n.toNat) ∘ fun b : UInt8 => (b.toNat : Int)) = id from by funext b; simp, List.map_id]

section
variable {P : Program} {w : World} {B n c : Nat} {A : Option Addr} {l : List UInt8}
/-- 'string(b)' -/
theorem Bytes.toStr (h : Bytes w B A n c l) {src e : TypeId} (hs : P.underlying src = some (.slice e)) (he : P.underlying e = some (.int .u8)) :
    ∀ dst, P.underlying dst = some .string → (convert src dst (.slice A n c)).run P w = .ok (.string ⟨l.toArray⟩) w := by
  obtain ⟨hlen, _, _, hr⟩ := h
  subst hlen
  rcases Nat.eq_zero_or_pos l.length with h0 | h0
  · have hl : l = [] := List.eq_nil_of_length_eq_zero h0
    subst hl
    intro dst hd
    rw [run_convert_bytes_string w src dst e _ _ c hs he hd]
    rcases A with _ | ad
    · simp [Conv.bytesToString]; rfl
    · simp [Conv.bytesToString, loadCells, loadCellsFrom]; rfl
  · obtain ⟨g, o, rfl, _, hc⟩ := hr.2 h0
    have := run_convert_bytes_arg (P := P) w src e hs he g o l.length c (l.map fun b => (b.toNat : Int)) (by simp) (fun i hi => by
      have h1 := hc i _ (bv_at l i hi)
      rw [h1]
      simp [List.getD, hi])
    rw [strOf_bytes] at this
    exact this
/-- what bytealg.Compare and its kin read -/
theorem Bytes.ofVal (h : Bytes w B A n c l) : (Extern.Bytes.bytesOf (.slice A n c)).run P w = .ok ⟨l.toArray⟩ w := by
  obtain ⟨hlen, _, _, hr⟩ := h
  subst hlen
  have key : ∀ (m : List UInt8) (g o : Nat) (acc : List UInt8), (∀ j (h : j < m.length), w.cell? ⟨g, o + j, none⟩ = some (.int .u8 (m[j].toNat : Int))) →
      (Extern.Bytes.loadBytes ⟨g, o, none⟩ m.length ⟨acc.toArray⟩).run P w = .ok ⟨(acc ++ m).toArray⟩ w := by
    intro m
    induction m with
    | nil => intro g o acc _; simp [Extern.Bytes.loadBytes]
    | cons x m ih =>
      intro g o acc hc
      have h0 := hc 0 (by simp)
      simp only [Nat.add_zero, List.getElem_cons_zero] at h0
      have h1 := ih g (o + 1) (acc ++ [x]) (fun j hj => by
        have := hc (j + 1) (by simp; omega)
        rw [show o + 1 + j = o + (j + 1) by omega]
        simpa using this)
      simp only [List.length_cons, Extern.Bytes.loadBytes]
      have hx : (ByteArray.push ⟨acc.toArray⟩ ((x.toNat : Int).toNat.toUInt8)) = ⟨(acc ++ [x]).toArray⟩ := by
        simp [ByteArray.push]
      have hl : (load (⟨g, o, none⟩ : Addr)).run P w = .ok (.int .u8 (x.toNat : Int)) w := by simp [h0]
      simp only [Sem.run_bind, hl, Result.andThen_ok, add_mk, hx]
      simpa using h1
  rcases Nat.eq_zero_or_pos l.length with h0 | h0
  · have hl : l = [] := List.eq_nil_of_length_eq_zero h0
    subst hl
    rcases A with _ | ad
    · simp [Extern.Bytes.bytesOf]; rfl
    · simp [Extern.Bytes.bytesOf, Extern.Bytes.loadBytes]; rfl
  · obtain ⟨g, o, rfl, _, hc⟩ := hr.2 h0
    have := key l g o [] (fun j hj => hc j _ (bv_at l j hj))
    simp only [Extern.Bytes.bytesOf]
    exact this
end

/-- what a call has made: the slice '.slice A n c' over a block from B on, not frozen; it may begin in the block's middle -/
structure Own (w : World) (B : Nat) (e : TypeId) (size : Nat) (A : Option Addr) (n c : Nat) (xs : List Value) : Prop where
  len : xs.length = n * size
  cap : n ≤ c
  lim : c ≤ maxLen
  nil : A = none → c = 0
  blk : 0 < c → ∃ g off cur, A = some ⟨g, off, none⟩ ∧ B ≤ g ∧ w.heap[g]? = some (.cells cur e (0, 0)) ∧ off + c * size ≤ cur.size ∧ (cur.toList.drop off).take (n * size) = xs

section
variable {w w' : World} {B B' size n c : Nat} {e : TypeId} {A : Option Addr} {xs : List Value}
theorem Own.reads (h : Own w B e size A n c xs) : Reads w w.heap.size size A n xs := by
  refine ⟨h.len, fun hn => ?_⟩
  obtain ⟨g, off, cur, rfl, hb, hg, hsz, ht⟩ := h.blk (by have := h.cap; omega)
  have hlt : g < w.heap.size := (Array.getElem?_eq_some_iff.1 hg).1
  refine ⟨g, off, rfl, hlt, fun j u hu => ?_⟩
  rw [cell_of_row w g (off + j) cur e (0, 0) hg]
  rw [← ht, List.getElem?_take] at hu
  split at hu
  · rw [List.getElem?_drop] at hu; simpa using hu
  · cases hu
/-- 'x[k:]' -/
theorem Own.cut (h : Own w B e size A n c xs) {k : Nat} (hk : k ≤ n) : Own w B e size (if c = k then A else A.map (·.add (k * size))) (n - k) (c - k) (xs.drop (k * size)) := by
  refine ⟨by rw [List.length_drop, h.len, Nat.sub_mul], by have := h.cap; omega, by have := h.lim; omega, fun hn => ?_, fun hc => ?_⟩
  · split at hn
    · omega
    · have : c = 0 := h.nil (by simpa using hn)
      omega
  obtain ⟨g, off, cur, rfl, hb, hg, hsz, ht⟩ := h.blk (by omega)
  rw [if_neg (by omega)]
  have hkc : k * size + (c - k) * size = c * size := by rw [← Nat.add_mul]; congr 1; omega
  have hkn : k * size + (n - k) * size = n * size := by rw [← Nat.add_mul]; congr 1; omega
  refine ⟨g, off + k * size, cur, by simp only [Option.map_some, add_mk], hb, hg, by omega, ?_⟩
  rw [← ht, List.drop_take, List.drop_drop]
  congr 1
  omega
theorem Own.below {w' : World} (h : Own w B e size A n c xs) {B' : Nat} (hb : Below B' w w') (hB : w.heap.size ≤ B') : Own w' B e size A n c xs := by
  refine ⟨h.len, h.cap, h.lim, h.nil, fun hc => ?_⟩
  obtain ⟨g, off, cur, rfl, hb', hg, r⟩ := h.blk hc
  exact ⟨g, off, cur, rfl, hb', by rw [hb.block g (by have := (Array.getElem?_eq_some_iff.1 hg).1; omega)]; exact hg, r⟩
theorem Own.less {B' : Nat} (h : Own w B e size A n c xs) (hB : B' ≤ B) : Own w B' e size A n c xs := by
  refine ⟨h.len, h.cap, h.lim, h.nil, fun hc => ?_⟩
  obtain ⟨g, off, cur, rfl, hb', r⟩ := h.blk hc
  exact ⟨g, off, cur, rfl, by omega, r⟩
theorem Own.of_row (h : w.ownsRow B e size (.slice A n c) n xs) : Own w B e size A n c xs := by
  refine ⟨h.1, ?_, ?_, fun hn => ?_, fun hc => ?_⟩
  · rcases h.2 with ⟨h1, h2⟩ | ⟨g, cap, cur, hv, _, _, hnc, _, _⟩
    · omega
    · simp only [Value.slice.injEq] at hv; obtain ⟨_, _, rfl⟩ := hv; exact hnc
  · rcases h.2 with ⟨h1, h2⟩ | ⟨g, cap, cur, hv, _, _, _, hm, _⟩
    · simp only [Value.slice.injEq] at h1; obtain ⟨_, _, rfl⟩ := h1; exact Nat.zero_le _
    · simp only [Value.slice.injEq] at hv; obtain ⟨_, _, rfl⟩ := hv; exact hm
  · subst hn
    rcases h.2 with ⟨h1, h2⟩ | ⟨g, cap, cur, hv, _⟩
    · simp only [Value.slice.injEq] at h1; exact h1.2.2
    · simp at hv
  · rcases h.2 with ⟨h1, h2⟩ | ⟨g, cap, cur, hv, hb, hg, hnc, hm, hs, ht⟩
    · simp only [Value.slice.injEq] at h1; omega
    · simp only [Value.slice.injEq] at hv
      obtain ⟨rfl, _, rfl⟩ := hv
      exact ⟨g, 0, cur, rfl, hb, hg, by omega, by simpa using ht⟩
end

section
variable {P : Program} (w : World)

theorem run_append_of_nil (base : Nat) (t ty e : TypeId) (i : TypeInfo) (size : Nat) (ht : P.underlying t = some (.slice e)) (hi : P.info? e = some i)
    (v : Value) (n : Nat) (xs : List Value) (hown : w.ownsRow base e size v n xs) (c : Nat) : (Builtin.append_ #[t, t] ty #[v, .slice none 0 c]).run P w = .ok v w := by
  rcases hown.2 with ⟨rfl, rfl⟩ | ⟨g, cap, cur, rfl, _, _, hnc, _⟩
  · simp [Builtin.append_, run_underlying ht, sizeOf, typeInfo, hi, Builtin.lenOf, Builtin.firstCells]
  · simp [Builtin.append_, run_underlying ht, sizeOf, typeInfo, hi, Builtin.lenOf, Builtin.firstCells, hnc, storeCells]

theorem run_append_any (base : Nat) (t ty e : TypeId) (i : TypeInfo) (z : Value) (size bytes : Nat) (ht : P.underlying t = some (.slice e)) (hi : P.info? e = some i) (hz : i.zero = some z)
    (hsize : i.size = size) (hby : i.bytes = bytes) (hzs : z.cells.size = size) (hsz : 0 < size)
    (v : Value) (n : Nat) (xs : List Value) (hown : w.ownsRow base e size v n xs)
    (B : Nat) (A : Option Addr) (m c : Nat) (news : List Value) (hr : Reads w B size A m news) (h1 : ∀ u ∈ news, u.oneCell' = true)
    (h63 : n + m ≤ maxLen) (hbytes : (n + m) * bytes ≤ 140737488355328) (hbase : base ≤ w.heap.size) :
    ∃ v' w', (Builtin.append_ #[t, t] ty #[v, .slice A m c]).run P w = .ok v' w' ∧ w'.ownsRow base e size v' (n + m) (xs ++ news) ∧ w.grownBy w' v.ownBlock ∧
      (v'.ownBlock = v.ownBlock ∨ v'.ownBlock = some w.heap.size) := by
  rcases A with _ | ad
  · have hm : m = 0 := by
      rcases Nat.eq_zero_or_pos m with h0 | h0
      · exact h0
      · obtain ⟨g, o, h, _⟩ := hr.2 h0
        cases h
    subst hm
    have hn : news = [] := List.eq_nil_of_length_eq_zero (by simpa using hr.1)
    subst hn
    exact ⟨v, w, run_append_of_nil w base t ty e i size ht hi v n xs hown c, by simpa using hown, World.grownBy.refl w _, .inl rfl⟩
  · have hcells : ∀ j u, news[j]? = some u → w.cell? (ad.add j) = some u := by
      intro j u hu
      rcases Nat.eq_zero_or_pos m with h0 | h0
      · subst h0
        have hn : news = [] := List.eq_nil_of_length_eq_zero (by simpa using hr.1)
        subst hn
        simp at hu
      · obtain ⟨g, o, h, _, hc⟩ := hr.2 h0
        injection h with h
        subst h
        rw [add_mk]
        exact hc j u hu
    obtain ⟨v', w', hrun, h2, h3, _, h5⟩ := run_append_own_at (P := P) w base t ty e i z size bytes ht hi hz hsize hby hzs hsz v n xs hown ad m c news hr.1 hcells h1 h63 hbytes hbase
    exact ⟨v', w', hrun, h2, h3, h5⟩

theorem wp_append_any {o : Oper} {a : Act} {K : Act → World → Prop} {Q : Exit → Act → World → Prop} (s x : Operand) (t : TypeId)
    (ho : o.op = .call { callee := .builtin .append, args := #[s, x], argTypes := #[t, t] })
    (base : Nat) (e : TypeId) (i : TypeInfo) (z : Value) (size bytes : Nat) (ht : P.underlying t = some (.slice e)) (hi : P.info? e = some i) (hz : i.zero = some z)
    (hsize : i.size = size) (hby : i.bytes = bytes) (hzs : z.cells.size = size) (hsz : 0 < size)
    (v : Value) (n : Nat) (xs : List Value) (hs : a.eval s = v) (hown : w.ownsRow base e size v n xs)
    (B : Nat) (A : Option Addr) (m c : Nat) (news : List Value) (hx : a.eval x = .slice A m c) (hr : Reads w B size A m news) (h1 : ∀ u ∈ news, u.oneCell' = true)
    (h63 : n + m ≤ maxLen) (hbytes : (n + m) * bytes ≤ 140737488355328) (hbase : base ≤ w.heap.size)
    (h : ∀ v' w', w'.ownsRow base e size v' (n + m) (xs ++ news) → w.grownBy w' v.ownBlock → (v'.ownBlock = v.ownBlock ∨ v'.ownBlock = some w.heap.size) → K (a.put o.dst v') w') : o.wp P a w K Q := by
  obtain ⟨v', w', hrun, h2, h3, h4⟩ := run_append_any (P := P) w base t o.type e i z size bytes ht hi hz hsize hby hzs hsz v n xs hown B A m c news hr h1 h63 hbytes hbase
  unfold Oper.wp execOp
  simp only [ho, resolve, invoke, builtin, Sem.run_bind, Sem.run_pure, Result.andThen_ok, List.map_toArray, List.map_cons, List.map_nil, hs, hx, hrun]
  exact h v' w' h2 h3 h4

theorem wpList_append_any {ops : Array Oper} {rest : List Oper} {o : Oper} {a : Act} {Q : Exit → Act → World → Prop} (hgd : o.guard = none) (s x : Operand) (t : TypeId)
    (ho : o.op = .call { callee := .builtin .append, args := #[s, x], argTypes := #[t, t] })
    (base : Nat) (e : TypeId) (i : TypeInfo) (z : Value) (size bytes : Nat) (ht : P.underlying t = some (.slice e)) (hi : P.info? e = some i) (hz : i.zero = some z)
    (hsize : i.size = size) (hby : i.bytes = bytes) (hzs : z.cells.size = size) (hsz : 0 < size)
    (v : Value) (n : Nat) (xs : List Value) (hs : a.eval s = v) (hown : w.ownsRow base e size v n xs)
    (B : Nat) (A : Option Addr) (m c : Nat) (news : List Value) (hx : a.eval x = .slice A m c) (hr : Reads w B size A m news) (h1 : ∀ u ∈ news, u.oneCell' = true)
    (h63 : n + m ≤ maxLen) (hbytes : (n + m) * bytes ≤ 140737488355328) (hbase : base ≤ w.heap.size)
    (h : ∀ v' w', w'.ownsRow base e size v' (n + m) (xs ++ news) → w.grownBy w' v.ownBlock → (v'.ownBlock = v.ownBlock ∨ v'.ownBlock = some w.heap.size) → wpList P ops Q rest (a.put o.dst v') w') : wpList P ops Q (o :: rest) a w :=
  wpList_plain hgd fun _ hK => wp_append_any w s x t ho base e i z size bytes ht hi hz hsize hby hzs hsz v n xs hs hown B A m c news hx hr h1 h63 hbytes hbase fun v' w' h2 h3 h4 => hK _ _ (h v' w' h2 h3 h4)
end

end Go.Proofs.YtahaaeenbahknaaRRRR
