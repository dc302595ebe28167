/-
  append onto a slice of the call's own that may begin in the middle of its block; writing over what is one's own.
-/
import Derived.Test.YtahaaeenbahknaaRRRRBy
namespace Go.Proofs.YtahaaeenbahknaaRRRR
open Go.RowKit

section
variable {P : Program} (w : World)

theorem run_append_room_mid (t ty e : TypeId) (i : TypeInfo) (ht : P.underlying t = some (.slice e)) (hi : P.info? e = some i)
    (g off n c : Nat) (cur : Array Value) (hg : w.heap[g]? = some (.cells cur e (0, 0)))
    (a : Addr) (m c2 : Nat) (news : List Value) (hl : news.length = m * i.size) (hnews : ∀ j u, news[j]? = some u → w.cell? (a.add j) = some u) (h1 : ∀ u ∈ news, u.oneCell' = true)
    (hroom : n + m ≤ c) (hfit : off + n * i.size + news.length ≤ cur.size) :
    (Builtin.append_ #[t, t] ty #[.slice (some ⟨g, off, none⟩) n c, .slice (some a) m c2]).run P w =
      .ok (.slice (some ⟨g, off, none⟩) (n + m) c) (w.setRow g (cur.toList.take (off + n * i.size) ++ news ++ cur.toList.drop (off + n * i.size + news.length)).toArray) := by
  have hf := run_firstCells_some (P := P) w i.size m a m c2 news hl hnews
  have hst := run_storeCells_at P g (off + n * i.size) e news 0 cur w hg (by simpa using hfit) h1
  simp only [Nat.add_zero] at hst
  simp [Builtin.append_, run_underlying ht, sizeOf, typeInfo, hi, Builtin.lenOf, hroom, hf, add_mk, hst]

theorem run_append_mid (t ty e : TypeId) (i : TypeInfo) (z : Value) (size bytes : Nat) (ht : P.underlying t = some (.slice e)) (hi : P.info? e = some i) (hz : i.zero = some z)
    (hsize : i.size = size) (hby : i.bytes = bytes) (hzs : z.cells.size = size)
    (B : Nat) (A : Option Addr) (n c : Nat) (xs : List Value) (hown : Own w B e size A n c xs)
    (B2 : Nat) (A2 : Option Addr) (m c2 : Nat) (news : List Value) (hr : Reads w B2 size A2 m news) (h1 : ∀ u ∈ news, u.oneCell' = true)
    (h63 : n + m ≤ maxLen) (hbytes : (n + m) * bytes ≤ 140737488355328) (hB : B ≤ w.heap.size) (hm : 0 < m) :
    ∃ A' c' w', (Builtin.append_ #[t, t] ty #[.slice A n c, .slice A2 m c2]).run P w = .ok (.slice A' (n + m) c') w' ∧ Own w' B e size A' (n + m) c' (xs ++ news) ∧ Below B w w' := by
  subst hsize
  subst hby
  obtain ⟨g2, o2, rfl, _, hc2⟩ := hr.2 hm
  have hcells : ∀ j u, news[j]? = some u → w.cell? ((⟨g2, o2, none⟩ : Addr).add j) = some u := fun j u hu => by rw [add_mk]; exact hc2 j u hu
  have hsmall : n + m ≤ 9223372036854775807 := by unfold maxLen at h63; omega
  have hlen : (xs ++ news).length = (n + m) * i.size := by rw [List.length_append, hown.len, hr.1, Nat.add_mul]
  by_cases hroom : n + m ≤ c
  · obtain ⟨g, off, cur, rfl, hbg, hg, hsz, htake⟩ := hown.blk (by omega)
    have hmul : (n + m) * i.size ≤ c * i.size := Nat.mul_le_mul_right _ hroom
    have hfit : off + n * i.size + news.length ≤ cur.size := by rw [hr.1]; rw [Nat.add_mul] at hmul; omega
    refine ⟨_, _, _, run_append_room_mid w t ty e i ht hi g off n c cur hg ⟨g2, o2, none⟩ m c2 news hr.1 hcells h1 hroom hfit, ⟨hlen, hroom, hown.lim, (fun h => by cases h), fun _ => ⟨g, off, _, rfl, hbg, setRow_heap w g cur _ e _ hg, ?_, ?_⟩⟩, ⟨rfl, rfl, rfl, by simp, fun k hk => setRow_other w g k _ (by omega)⟩⟩
    · simp only [List.size_toArray, List.length_append, List.length_take, List.length_drop, Array.length_toList]
      omega
    · have hl1 : (cur.toList.take (off + n * i.size)).length = off + n * i.size := by rw [List.length_take, Array.length_toList]; omega
      show List.take ((n + m) * i.size) (List.drop off (cur.toList.take (off + n * i.size) ++ news ++ cur.toList.drop (off + n * i.size + news.length))) = xs ++ news
      have hd : List.drop off (cur.toList.take (off + n * i.size)) = xs := by
        rw [List.drop_take, Nat.add_sub_cancel_left]
        exact htake
      rw [List.append_assoc, List.drop_append_of_le_length (by omega), hd, ← List.append_assoc, ← hlen]
      exact List.take_left
  · have grown : ∀ old, Own (w.drew.alloc (.cells (xs.toArray ++ news.toArray ++ Builtin.zeroCells z.cells (grownCap w (n + m) old e - (n + m))) e)) B e i.size (some ⟨w.heap.size, 0, none⟩) (n + m) (grownCap w (n + m) old e) (xs ++ news) ∧
        Below B w (w.drew.alloc (.cells (xs.toArray ++ news.toArray ++ Builtin.zeroCells z.cells (grownCap w (n + m) old e - (n + m))) e)) := by
      intro old
      have hge := grownCap_ge w (n + m) old e
      have hcm : grownCap w (n + m) old e ≤ maxLen := grownCap_le_maxLen w (n + m) old e h63
      refine ⟨⟨hlen, hge, hcm, (fun h => by cases h), fun _ => ⟨w.heap.size, 0, _, rfl, hB, heap_alloc_new w.drew _, ?_, ?_⟩⟩, ⟨rfl, rfl, rfl, by simp, fun k hk => Below.heap_alloc w.drew _ k (by show k < w.heap.size; omega)⟩⟩
      · simp only [Array.size_append, List.size_toArray, size_zeroCells, hzs, hown.len, hr.1, ← Nat.add_mul]
        rw [Nat.zero_add]
        exact Nat.mul_le_mul_right _ (by omega)
      · simp only [Array.toList_append, List.append_assoc, List.drop_zero]
        rw [← List.append_assoc, ← hlen]
        exact List.take_left
    rcases A with _ | ad
    · have hc0 := hown.nil rfl
      subst hc0
      have hn0 : n = 0 := by have := hown.cap; omega
      subst hn0
      have hx : xs = [] := List.eq_nil_of_length_eq_zero (by simpa using hown.len)
      subst hx
      have hrun := run_append_nil (P := P) w t ty e i z ht hi hz ⟨g2, o2, none⟩ m c2 news hr.1 hcells hm (by omega) (by rw [Nat.zero_add] at hbytes; omega)
      have hgr := grown 0
      simp only [Nat.zero_add, List.nil_append, Array.empty_append] at hgr ⊢
      exact ⟨_, _, _, hrun, hgr.1, hgr.2⟩
    · have holds : ∀ j u, xs[j]? = some u → w.cell? (ad.add j) = some u := by
        intro j u hu
        have hj := (List.getElem?_eq_some_iff.1 hu).1
        have hn0 : 0 < n := by
          rcases Nat.eq_zero_or_pos n with h0 | h0
          · subst h0; have := hown.len; simp at this; simp [this] at hj
          · exact h0
        obtain ⟨g, o, e1, _, hc⟩ := hown.reads.2 hn0
        injection e1 with e1
        subst e1
        rw [add_mk]
        exact hc j u hu
      have hrun := run_append_grow (P := P) w t ty e i z ht hi hz ad n c xs hown.len holds ⟨g2, o2, none⟩ m c2 news hr.1 hcells (by omega) (by omega) (growslice_fits (by omega) hbytes)
      exact ⟨_, _, _, hrun, (grown c).1, (grown c).2⟩
end

/-- one byte more behind bytes of the call's own, wherever they begin -/
theorem wpList_append1_mid {w : World} {ops : Array Oper} {rest : List Oper} {o : Oper} {a : Act} {Q : Exit → Act → World → Prop} (hgd : o.guard = none) (s x : Operand)
    (ho : o.op = .call { callee := .builtin .append, args := #[s, x], argTypes := #[22, 22] })
    (B : Nat) (A : Option Addr) (n c : Nat) (xs : List Value) (hs : a.eval s = .slice A n c) (hown : Own w B 5 1 A n c xs)
    (z : Int) (gx : Nat) (hx : a.eval x = .slice (some ⟨gx, 0, none⟩) 1 1) (hgx : gx = w.heap.size)
    (hlim : n + 1 ≤ 140737488355328) (hB : B ≤ w.heap.size)
    (h : ∀ A' c' w', Own w' B 5 1 A' (n + 1) c' (xs ++ [.int .u8 z]) → Below B w w' → wpList Try.prog ops Q rest (a.put o.dst (.slice A' (n + 1) c')) w') :
    wpList Try.prog ops Q (o :: rest) a (w.alloc (.cells #[.int .u8 z] 5)) := by
  subst hgx
  obtain ⟨i0, hi, hz0, hz1, hz2⟩ := info_parts info_u8
  have hown1 : Own (w.alloc (.cells #[.int .u8 z] 5)) B 5 1 A n c xs := hown.below (B' := w.heap.size) ((Below.refl _ _).alloc (Nat.le_refl _) _) (Nat.le_refl _)
  have hr : Reads (w.alloc (.cells #[.int .u8 z] 5)) (w.heap.size + 1) 1 (some ⟨w.heap.size, 0, none⟩) 1 [.int .u8 z] := by
    refine ⟨rfl, fun _ => ⟨w.heap.size, 0, rfl, Nat.lt_succ_self _, fun j u hu => ?_⟩⟩
    rw [Nat.zero_add, cell_of_row (w.alloc (.cells #[.int .u8 z] 5)) w.heap.size j _ 5 (0, 0) (heap_alloc_new w _)]
    simpa using hu
  obtain ⟨A', c', w', hrun, h2, h3⟩ := run_append_mid (P := Try.prog) (w.alloc (.cells #[.int .u8 z] 5)) 22 o.type 5 i0 (.int .u8 0) 1 1 Try.underlying22 hi hz0 hz1 hz2 rfl B A n c xs hown1
    (w.heap.size + 1) (some ⟨w.heap.size, 0, none⟩) 1 1 [.int .u8 z] hr (by intro u hu; simp at hu; subst hu; rfl) (by unfold maxLen; omega) (by omega) (by simp; omega) (by omega)
  refine wpList_plain hgd fun _ hK => ?_
  unfold Oper.wp execOp
  simp only [ho, resolve, invoke, builtin, Sem.run_bind, Sem.run_pure, Result.andThen_ok, List.map_toArray, List.map_cons, List.map_nil, hs, hx, hrun]
  exact hK _ _ (h A' c' w' h2 (((Below.refl _ _).alloc hB _).trans h3))

/-- one of its own cells is written -/
theorem Own.stored {w : World} {B : Nat} {e : TypeId} {g o n c : Nat} {xs : List Value} (h : Own w B e 1 (some ⟨g, o, none⟩) n c xs) (j : Nat) (hj : j < n) (u : Value) :
    Own (w.setCell ⟨g, o + j, none⟩ u) B e 1 (some ⟨g, o, none⟩) n c (xs.set j u) := by
  refine ⟨by rw [List.length_set]; exact h.len, h.cap, h.lim, h.nil, fun hc => ?_⟩
  obtain ⟨g', off, cur, hA, hB, hg, hsz, ht⟩ := h.blk hc
  cases hA
  have hcap := h.cap
  refine ⟨g, o, cur.setIfInBounds (o + j) u, rfl, hB, ?_, by simpa using hsz, ?_⟩
  · simp [World.setCell, Array.getElem?_modify, hg]
  · rw [← ht]
    rw [Array.toList_setIfInBounds, List.drop_set, if_neg (by omega), List.take_set]
    congr 1; omega
/-- a cell below its own is written -/
theorem Own.far {w : World} {B size : Nat} {e : TypeId} {A : Option Addr} {n c : Nat} {xs : List Value} (h : Own w B e size A n c xs) {p : Addr} (hp : p.block < B) (u : Value) : Own (w.setCell p u) B e size A n c xs := by
  refine ⟨h.len, h.cap, h.lim, h.nil, fun hc => ?_⟩
  obtain ⟨g, off, cur, rfl, hB, hg, r⟩ := h.blk hc
  exact ⟨g, off, cur, rfl, hB, by rw [Below.heap_setCell _ _ _ _ (by omega)]; exact hg, r⟩
/-- where it lies, and what may be done there -/
theorem Own.at_ {w : World} {B : Nat} {e : TypeId} {A : Option Addr} {n c : Nat} {xs : List Value} (h : Own w B e 1 A n c xs) (hn : 0 < n) : ∃ g o, A = some ⟨g, o, none⟩ ∧ B ≤ g ∧ g < w.heap.size ∧
    ∀ j, j < n → (∃ v, w.cell? ⟨g, o + j, none⟩ = some v) ∧ w.frozen? ⟨g, o + j, none⟩ = false := by
  have hcap := h.cap
  obtain ⟨g, off, cur, rfl, hB, hg, hsz, ht⟩ := h.blk (by omega)
  have hlt : g < w.heap.size := (Array.getElem?_eq_some_iff.1 hg).1
  refine ⟨g, off, rfl, hB, hlt, fun j hj => ⟨⟨cur[off + j]'(by omega), ?_⟩, by simp [World.frozen?, hg]⟩⟩
  rw [cell_of_row w g (off + j) cur e (0, 0) hg]
  simp

/-- a slice into which may be written -/
def Room (w : World) (B : Nat) (A : Option Addr) (n : Nat) : Prop :=
  0 < n → ∃ g o, A = some ⟨g, o, none⟩ ∧ B ≤ g ∧ ∀ j, j < n → (∃ v, w.cell? ⟨g, o + j, none⟩ = some v) ∧ w.frozen? ⟨g, o + j, none⟩ = false
theorem Room.set_ {w : World} {B : Nat} {A : Option Addr} {n : Nat} (h : Room w B A n) (p : Addr) (u : Value) : Room (w.setCell p u) B A n := by
  intro hn
  obtain ⟨g, o, rfl, hB, hc⟩ := h hn
  refine ⟨g, o, rfl, hB, fun j hj => ?_⟩
  obtain ⟨⟨v, hv⟩, hf⟩ := hc j hj
  exact ⟨cell?_setCell_some hv, by rw [World.frozen?_setCell]; exact hf⟩
theorem Own.room {w : World} {B : Nat} {e : TypeId} {A : Option Addr} {n c : Nat} {xs : List Value} (h : Own w B e 1 A n c xs) : Room w B A n := by
  intro hn
  obtain ⟨g, off, cur, rfl, hB, hg, hsz, ht⟩ := h.blk (by have := h.cap; omega)
  refine ⟨g, off, rfl, hB, fun j hj => ?_⟩
  have := h.cap
  refine ⟨⟨cur[off + j]'(by omega), ?_⟩, by simp [World.frozen?, hg]⟩
  rw [cell_of_row w g (off + j) cur e (0, 0) hg]
  simp
theorem Room.below {w w' : World} {B B' : Nat} {A : Option Addr} {n : Nat} (h : Room w B A n) (hb : Below B' w w') (hB : w.heap.size ≤ B') : Room w' B A n := by
  intro hn
  obtain ⟨g, o, rfl, hB, hc⟩ := h hn
  refine ⟨g, o, rfl, hB, fun j hj => ?_⟩
  obtain ⟨⟨v, hv⟩, hf⟩ := hc j hj
  have hlt : g < w.heap.size := World.block_lt_of_cell? w _ hv
  exact ⟨⟨v, (hb.cell (p := ⟨g, o + j, none⟩) (by show g < B'; omega)).trans hv⟩, (hb.frozen (p := ⟨g, o + j, none⟩) (by show g < B'; omega)).trans hf⟩
end Go.Proofs.YtahaaeenbahknaaRRRR
