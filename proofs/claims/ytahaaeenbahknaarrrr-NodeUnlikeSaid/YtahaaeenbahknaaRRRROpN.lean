/-
  A node that is handed in.
-/
import Derived.Test.YtahaaeenbahknaaRRRRNo7
import Derived.Test.YtahaaeenbahknaaRRRRWrap
namespace Go.Proofs.YtahaaeenbahknaaRRRR
open Go.RowKit Go.WideShapes Go.ChangeShapes Go.ChangeAt Go.WideElems Go.Deep
section
variable {H : Type} {enc : TypeId × Value → H} {w : World} {base : Nat} {sp : Nat → Bool} {hd : Bool} {fuel : Nat} {cs : List Value} {x : DataW H × List MemPlace}
/-- byte slices, by their cells -/
theorem trod_bytes (h : DataW.trod enc Try.prog w base sp hd fuel 22 cs = some x) : ∃ A n c l, cs = [.slice A n c] ∧ Bytes w w.heap.size A n c l := by
  rcases open_ints Try.underlying22 Try.underlying5 (by kernel_rfl) h with ⟨rfl, hx⟩ | ⟨a, len, cap, zs, rfl, _, hl, hm, hz, hx, hcell, hwz⟩
  · exact ⟨none, 0, 0, [], rfl, Bytes.none_ _ _ _ (Nat.zero_le _)⟩
  · have hle : len ≤ zs.length := by rw [hz]; split <;> omega
    have hlen : ((zs.take len).map fun z => UInt8.ofNat z.toNat).length = len := by simp; omega
    refine ⟨some a, len, cap, (zs.take len).map fun z => UInt8.ofNat z.toNat, rfl, ⟨hlen.symm, hl, hm, by rw [bv_length, hlen, Nat.mul_one], fun hp => ?_⟩⟩
    obtain ⟨b, off, rfl, hc⟩ := ints_at hcell (by omega)
    have hb : b < w.heap.size := World.block_lt_of_cell? w _ (hc 0 (by omega))
    refine ⟨b, off, rfl, hb, fun j u hu => ?_⟩
    have hj : j < ((zs.take len).map fun z => UInt8.ofNat z.toNat).length := by
      have := (List.getElem?_eq_some_iff.1 hu).1
      rwa [bv_length] at this
    rw [bv_at _ j hj] at hu
    cases hu
    have hj2 : j < zs.length := by omega
    rw [hc j hj2]
    have hwf := hwz _ (List.getElem_mem hj2)
    have hbd : 0 ≤ zs[j] ∧ zs[j] ≤ 255 := by simpa [Lit.wf, IntKind.min, IntKind.max, IntKind.signed, IntKind.bits] using hwf
    simp only [List.getElem_map, List.getElem_take]
    have : (((UInt8.ofNat zs[j].toNat).toNat : Nat) : Int) = zs[j] := by simp; omega
    rw [this]
    simp [List.getD, hj2]
theorem Bytes.inS {A : Option Addr} {n c : Nat} {l : List UInt8} (h : Bytes w w.heap.size A n c l) : InS (fun q => q < w.heap.size) w 1 A n (bv l) :=
  ⟨h.reads.1, fun hp => by
    obtain ⟨g, o, e, hg, hc⟩ := h.reads.2 hp
    exact ⟨g, o, e, hg, hg, hc⟩⟩
/-- a digest -/
theorem trod_dig (h : DataW.trod enc Try.prog w base sp hd fuel 24 cs = some x) : ∃ d : List UInt8, cs = bv d ∧ d.length = 32 := by
  obtain ⟨xs, m, _, _, hl, _, hi⟩ := DataW.trod_array Try.underlying24 h
  have hl32 : cs.length = 32 := hl
  have hb : ∀ i, i < 32 → ∃ b : UInt8, cs[i]? = some (.int .u8 (b.toNat : Int)) := by
    intro i h32
    have := hi i h32
    have hc1 : Try.prog.cellsOf 5 = 1 := by kernel_rfl
    rw [hc1, Nat.mul_one] at this
    have hxi : ∃ y, xs[i]? = some y := ⟨xs[i]'(by simp_all), List.getElem?_eq_getElem _⟩
    obtain ⟨y, hy⟩ := hxi
    rw [hy] at this
    obtain ⟨n, hn, _, hw⟩ := DataW.trod_int Try.underlying5 this
    have hbd : 0 ≤ n ∧ n ≤ 255 := by simpa [Lit.wf, IntKind.min, IntKind.max, IntKind.signed, IntKind.bits] using hw
    refine ⟨UInt8.ofNat n.toNat, ?_⟩
    have e1 : (((UInt8.ofNat n.toNat).toNat : Nat) : Int) = n := by simp; omega
    rw [e1]
    have e2 : ((cs.drop i).take 1)[0]? = some (.int .u8 n) := by rw [hn]; rfl
    rwa [List.getElem?_take, if_pos (by decide), List.getElem?_drop, Nat.add_zero] at e2
  clear hi h
  have key : ∀ (k : Nat) (l : List Value), l.length = k → (∀ i, i < k → ∃ b : UInt8, l[i]? = some (.int .u8 (b.toNat : Int))) → ∃ d : List UInt8, l = bv d ∧ d.length = k := by
    intro k
    induction k with
    | zero => intro l hl _; exact ⟨[], by rw [List.eq_nil_of_length_eq_zero hl]; rfl, rfl⟩
    | succ k ih =>
      intro l hl hb
      match l, hl with
      | v :: l, hl =>
        obtain ⟨b, hb0⟩ := hb 0 (by omega)
        obtain ⟨d, hd, hk⟩ := ih l (by simpa using hl) (fun i hi => by
          obtain ⟨b, hb⟩ := hb (i + 1) (by omega)
          exact ⟨b, by simpa using hb⟩)
        have hv : v = .int .u8 (b.toNat : Int) := by simpa using hb0
        exact ⟨b :: d, by rw [hd, hv]; rfl, by simp [hk]⟩
  exact key 32 cs hl32 hb
/-- a reference -/
theorem trod_ref (h : DataW.trod enc Try.prog w base sp hd fuel 26 cs = some x) : ∃ (r : Nd.Rf) (A : Option Addr) (n c : Nat), cs = refCells r.kind r.dig A n c ∧ r.dig.length = 32 ∧ Bytes w w.heap.size A n c r.inl := by
  obtain ⟨xs, m, _, _, hl, hxl, hf⟩ := DataW.trod_struct Try.underlying26 h
  have hl34 : cs.length = 34 := hl
  have hx : ∀ i, i < 3 → ∃ y, xs[i]? = some y := fun i hi => ⟨xs[i]'(by simp_all), List.getElem?_eq_getElem _⟩
  obtain ⟨y0, h0⟩ := hx 0 (by omega)
  obtain ⟨y1, h1⟩ := hx 1 (by omega)
  obtain ⟨y2, h2⟩ := hx 2 (by omega)
  have f0 := (hf 0 _ rfl).trans h0
  have f1 := (hf 1 _ rfl).trans h1
  have f2 := (hf 2 _ rfl).trans h2
  obtain ⟨k, hk, _, _⟩ := DataW.trod_int Try.underlying3 f0
  obtain ⟨d, hd', hdl⟩ := trod_dig f1
  obtain ⟨A, n, c, l, hb, hB⟩ := trod_bytes f2
  have k0 : cs.take 1 = [.int .i64 k] := hk
  have k1 : (cs.drop 1).take 32 = bv d := hd'
  have k2 : (cs.drop 33).take 1 = [.slice A n c] := hb
  refine ⟨⟨k, d, l⟩, A, n, c, ?_, hdl, hB⟩
  have e1 : cs = cs.take 1 ++ ((cs.drop 1).take 32 ++ (cs.drop 33).take 1) := by
    have a1 : (cs.drop 33).take 1 = cs.drop 33 := List.take_of_length_le (by rw [List.length_drop]; omega)
    have a2 : cs.drop 33 = (cs.drop 1).drop 32 := by rw [List.drop_drop]
    rw [a1, a2, List.take_append_drop, List.take_append_drop]
  rw [e1, k0, k1, k2]
  rfl
/-- references -/
theorem trod_refs (h : DataW.trod enc Try.prog w base sp hd fuel 27 cs = some x) : ∃ (A : Option Addr) (n c : Nat) (vs : List Value) (rs : List Nd.Rf), cs = [.slice A n c] ∧ n = rs.length ∧ n ≤ c ∧ c ≤ maxLen ∧ InS (fun q => q < w.heap.size) w 34 A n (flat vs) ∧ All2 (RefIn (fun q => q < w.heap.size) w) vs rs := by
  rcases open_slice Try.underlying27 h with ⟨rfl, _⟩ | ⟨a, len, cap, m, n, D, Pl, rfl, _, hl, hm, hmm, _, hi⟩
  · exact ⟨none, 0, 0, [], [], rfl, rfl, Nat.le_refl _, Nat.zero_le _, ⟨rfl, fun h => by omega⟩, All2.nil⟩
  · have hlm : len ≤ m := by rw [hmm]; split <;> omega
    have hc34 : Try.prog.cellsOf 26 = 34 := by kernel_rfl
    rw [hc34] at hi
    have hel : ∀ i, i < len → ∃ (r : Nd.Rf) (A : Option Addr) (n c : Nat), (∀ j u, (refCells r.kind r.dig A n c)[j]? = some u → w.cell? (a.add (i * 34 + j)) = some u) ∧ r.dig.length = 32 ∧ Bytes w w.heap.size A n c r.inl := by
      intro i h
      obtain ⟨cs', hcs, ht⟩ := hi i (by omega)
      obtain ⟨r, A, n, c, rfl, hd, hB⟩ := trod_ref ht
      obtain ⟨_, hcl, hat⟩ := World.cells?_some hcs
      refine ⟨r, A, n, c, fun j u hu => ?_, hd, hB⟩
      have hj : j < 34 := by
        have := (List.getElem?_eq_some_iff.1 hu).1
        rwa [refCells_length hd] at this
      have := hat j hj
      rw [hu] at this
      rw [← Go.Deep.add_add]
      exact this
    clear hi hmm
    have key : ∀ k, k ≤ len → ∃ (vs : List Value) (rs : List Nd.Rf), rs.length = k ∧ (flat vs).length = k * 34 ∧ All2 (RefIn (fun q => q < w.heap.size) w) vs rs ∧ (∀ j u, (flat vs)[j]? = some u → w.cell? (a.add j) = some u) := by
      intro k
      induction k with
      | zero => intro _; exact ⟨[], [], rfl, rfl, All2.nil, fun j u hu => by simp [flat] at hu⟩
      | succ k ih =>
        intro hk
        obtain ⟨vs, rs, h1, h2, h3, h4⟩ := ih (by omega)
        obtain ⟨r, A, n, c, hcell, hd, hB⟩ := hel k (by omega)
        have hfl : flat (vs ++ [.agg (refRow r.kind r.dig A n c)]) = flat vs ++ refCells r.kind r.dig A n c := by rw [flat_append, flat_one]; rfl
        refine ⟨vs ++ [.agg (refRow r.kind r.dig A n c)], rs ++ [r], by simp [h1], ?_, h3.snoc ⟨A, n, c, rfl, hd, hB.len, hB.cap, hB.lim, hB.inS⟩, fun j u hu => ?_⟩
        · rw [hfl, List.length_append, h2, refCells_length hd]; omega
        · rw [hfl, List.getElem?_append, h2] at hu
          split at hu
          · exact h4 j u hu
          · have := hcell _ u hu
            rwa [show k * 34 + (j - k * 34) = j by omega] at this
    obtain ⟨vs, rs, h1, h2, h3, h4⟩ := key len (Nat.le_refl _)
    refine ⟨some a, len, cap, vs, rs, rfl, h1.symm, hl, hm, ⟨h2, fun hp => ?_⟩, h3⟩
    have h0 : (flat vs)[0]? = some ((flat vs)[0]'(by omega)) := List.getElem?_eq_getElem _
    have hc0 := h4 0 _ h0
    obtain ⟨g, o, st⟩ := a
    have hst : st = none := by simpa [Addr.add] using World.cell?_spot hc0
    subst hst
    have hb : g < w.heap.size := World.block_lt_of_cell? w _ hc0
    refine ⟨g, o, rfl, hb, hb, fun j u hu => ?_⟩
    rw [← Go.WideShapes.add_plain]
    exact h4 j u hu
/-- a node -/
theorem trod_node (h : DataW.trod enc Try.prog w base sp hd fuel 29 cs = some x) : ∃ y : Nd.No, NodIn (fun q => q < w.heap.size) w (.agg cs.toArray) y := by
  obtain ⟨xs, m, _, _, hl, hxl, hf⟩ := DataW.trod_struct Try.underlying29 h
  have hl38 : cs.length = 38 := hl
  have hx : ∀ i, i < 5 → ∃ y, xs[i]? = some y := fun i hi => ⟨xs[i]'(by simp_all), List.getElem?_eq_getElem _⟩
  obtain ⟨y0, h0⟩ := hx 0 (by omega)
  obtain ⟨y1, h1⟩ := hx 1 (by omega)
  obtain ⟨y2, h2⟩ := hx 2 (by omega)
  obtain ⟨y3, h3⟩ := hx 3 (by omega)
  obtain ⟨y4, h4⟩ := hx 4 (by omega)
  have f0 := (hf 0 _ rfl).trans h0
  have f1 := (hf 1 _ rfl).trans h1
  have f2 := (hf 2 _ rfl).trans h2
  have f3 := (hf 3 _ rfl).trans h3
  have f4 := (hf 4 _ rfl).trans h4
  obtain ⟨k, hk, _, _⟩ := DataW.trod_int Try.underlying3 f0
  obtain ⟨Ap, np, cp, lp, hp, hpB⟩ := trod_bytes f1
  obtain ⟨Av, nv, cv, lv, hv, hvB⟩ := trod_bytes f2
  obtain ⟨r, Ac, nc, cc, hr, hrd, hrB⟩ := trod_ref f3
  obtain ⟨Ak, nk, kk, vs, rs, hks, hn, hkk, hkm, hin, hall⟩ := trod_refs f4
  have k0 : cs.take 1 = [.int .i64 k] := hk
  have k1 : (cs.drop 1).take 1 = [.slice Ap np cp] := hp
  have k2 : (cs.drop 2).take 1 = [.slice Av nv cv] := hv
  have k3 : (cs.drop 3).take 34 = refCells r.kind r.dig Ac nc cc := hr
  have k4 : (cs.drop 37).take 1 = [.slice Ak nk kk] := hks
  have e : cs = nodCells k Ap np cp Av nv cv r.kind r.dig Ac nc cc Ak nk kk := by
    have e1 : cs = cs.take 1 ++ ((cs.drop 1).take 1 ++ ((cs.drop 2).take 1 ++ ((cs.drop 3).take 34 ++ (cs.drop 37).take 1))) := by
      have a1 : (cs.drop 37).take 1 = cs.drop 37 := List.take_of_length_le (by rw [List.length_drop]; omega)
      have a2 : cs.drop 37 = (cs.drop 3).drop 34 := by rw [List.drop_drop]
      have a3 : cs.drop 3 = (cs.drop 2).drop 1 := by rw [List.drop_drop]
      have a4 : cs.drop 2 = (cs.drop 1).drop 1 := by rw [List.drop_drop]
      rw [a1, a2, List.take_append_drop, a3, List.take_append_drop, a4, List.take_append_drop, List.take_append_drop]
    rw [e1, k0, k1, k2, k3, k4]
    rfl
  subst e
  exact ⟨⟨k, lp, lv, r, rs⟩, Ap, np, cp, Av, nv, cv, Ac, nc, cc, Ak, nk, kk, vs, rfl, hrd, ⟨hpB.len, hpB.cap, hpB.lim, hpB.inS⟩, ⟨hvB.len, hvB.cap, hvB.lim, hvB.inS⟩, ⟨hrB.len, hrB.cap, hrB.lim, hrB.inS⟩, hn, hkk, hkm, hin, hall⟩
end
/-- a node that is handed in -/
theorem open_node {H : Type} {enc : TypeId × Value → H} {W : World} {base : Nat} {sp : Nat → Bool} {hd : Bool} {v : Value} {d : DataW H} {p : List MemPlace} (hv : Value.okWide Try.prog W .any base 29 v) (h : DataW.Trod enc Try.prog W 0 sp hd 29 v d p) :
    ∃ x : Nd.No, NodIn (fun q => q < W.heap.size) W v x := by
  obtain ⟨cs, rfl, _⟩ := okWide_struct Try.underlying29 hv
  obtain ⟨fuel, hf⟩ := h
  exact trod_node hf
end Go.Proofs.YtahaaeenbahknaaRRRR
