/-
  Texts of a proof, one behind the other: OpD.
-/
import Derived.Test.YtioanppnkhiokaaNodedbBackA4
/-
  A script that is handed in.
-/
namespace Go.Proofs.Ytioanppnkhiokaa
open Go.RowKit Go.WideShapes Go.ChangeShapes Go.ChangeAt Go.WideElems Go.Deep

def reachOk {H : Type} (t : TypeId) (d : DataW H) : Prop := ((d.weights Try.prog t).all (· ≤ reachBytes)) = true
theorem reach_field {H : Type} {t tj : TypeId} {fs : Array Field} {parts : List (DataW H)} {j : Nat} {d : DataW H} (hu : Try.prog.underlying t = some (.struct fs)) (h : reachOk t (.agg parts)) (hj : (fs.toList.map (·.type))[j]? = some tj) (hd : parts[j]? = some d) : reachOk tj d := by
  refine List.all_eq_true.2 fun n hn => List.all_eq_true.1 h n ?_
  simp only [DataW.weights, hu]
  exact DataW.weights_mem_each hj hd n hn
theorem weights_all {H : Type} {e : TypeId} : ∀ {ds : List (DataW H)} {d : DataW H}, d ∈ ds → ∀ n ∈ d.weights Try.prog e, n ∈ DataW.weightsAll Try.prog e ds
  | [], d, h => by cases h
  | x :: xs, d, h => by
    intro n hn
    simp only [DataW.weightsAll, List.mem_append]
    rcases List.mem_cons.1 h with rfl | h
    · exact .inl hn
    · exact .inr (weights_all h n hn)
theorem reach_elem {H : Type} {t e : TypeId} {elems spare : List (DataW H)} {d : DataW H} (hu : Try.prog.underlying t = some (.slice e)) (h : reachOk t (.slice elems spare)) (hd : d ∈ elems) : reachOk e d := by
  refine List.all_eq_true.2 fun n hn => List.all_eq_true.1 h n ?_
  simp only [DataW.weights, hu, List.mem_cons, List.mem_append]
  exact .inr (.inl (weights_all hd n hn))
theorem reach_len {H : Type} {t e : TypeId} {elems spare : List (DataW H)} (hu : Try.prog.underlying t = some (.slice e)) (h : reachOk t (.slice elems spare)) : elems.length * Try.prog.bytesOf e ≤ 140737488351232 := by
  have h1 := List.all_eq_true.1 h ((elems.length + spare.length) * Try.prog.bytesOf e) (by simp [DataW.weights, hu])
  have h2 : (elems.length + spare.length) * Try.prog.bytesOf e ≤ 140737488351232 := by
    have e : reachBytes = 140737488351232 := by decide
    rw [← e]; simpa using h1
  refine Nat.le_trans ?_ h2
  rw [Nat.add_mul]; exact Nat.le_add_right _ _
theorem reach_arg {H : Type} {ts : List TypeId} {ds : List (DataW H)} (h : (DataW.weightsEach Try.prog ts ds).all (· ≤ reachBytes) = true) {j : Nat} {t : TypeId} {d : DataW H} (ht : ts[j]? = some t) (hd : ds[j]? = some d) : reachOk t d :=
  List.all_eq_true.2 fun n hn => List.all_eq_true.1 h n (DataW.weights_mem_each ht hd n hn)
theorem reach_text {H : Type} {t : TypeId} {l : List UInt8} (h : reachOk (H := H) t (.lit (.string l))) : l.length ≤ 140737488351232 := by
  have := List.all_eq_true.1 h l.length (by simp [DataW.weights])
  have e : reachBytes = 140737488351232 := by decide
  rw [← e]; simpa using this
theorem bulk_mem {H : Type} : ∀ {l : List (DataW H)} {d : DataW H}, d ∈ l → Rows.uptoBulk d ≤ Rows.uptoBulkAll l
  | [], _, h => by cases h
  | x :: r, d, h => by
    simp only [Rows.uptoBulkAll]
    rcases List.mem_cons.1 h with rfl | h
    · omega
    · have := bulk_mem h; omega
theorem bulk_text {H : Type} (l : List UInt8) : l.length ≤ Rows.uptoBulk (H := H) (.lit (.string l)) := by simp [Rows.uptoBulk]
/-- a script, as it reads: what bounds its texts, and their number -/
structure OpsAt {H : Type} (w : World) (t : TypeId) (d : DataW H) (ys : List OpC) (A : Option Addr) (n c : Nat) : Prop where
  len : n = ys.length
  ds : ∀ y ∈ ys, y.d.length = 32
  rd : Reads w w.heap.size 35 A n (opRows ys)
  reach : reachOk t d → n * 64 ≤ 140737488351232 ∧ ∀ y ∈ ys, y.t.size ≤ 140737488351232
  bulk : n ≤ Rows.uptoBulk d ∧ ∀ y ∈ ys, y.t.size ≤ Rows.uptoBulk d
section
variable {H : Type} {enc : TypeId × Value → H} {w : World} {base : Nat} {sp : Nat → Bool} {hd : Bool} {fuel : Nat} {cs : List Value} {x : DataW H × List MemPlace}
set_option maxRecDepth 100000 in
/-- a digest -/
theorem trod_dig (h : DataW.trod enc Try.prog w base sp hd fuel 30 cs = some x) : ∃ d : List UInt8, cs = bv d ∧ d.length = 32 := by
  obtain ⟨xs, m, _, _, hl, _, hi⟩ := DataW.trod_array Try.underlying30 h
  have hl32 : cs.length = 32 := hl
  have hb : ∀ i, i < 32 → ∃ b : UInt8, cs[i]? = some (.int .u8 (b.toNat : Int)) := by
    intro i h32
    have := hi i h32
    have hc1 : Try.prog.cellsOf 5 = 1 := by kernel_rfl
    rw [hc1, Nat.mul_one] at this
    have hxi : ∃ y, xs[i]? = some y := ⟨xs[i]'(by simp_all), List.getElem?_eq_getElem _⟩
    obtain ⟨y, hy⟩ := hxi
    rw [hy] at this
    obtain ⟨n, hn, _, hw⟩ := DataW.trod_int Try.underlying5 this
    have hbd : 0 ≤ n ∧ n ≤ 255 := by simpa [Lit.wf, IntKind.min, IntKind.max, IntKind.signed, IntKind.bits] using hw
    refine ⟨UInt8.ofNat n.toNat, ?_⟩
    have e1 : (((UInt8.ofNat n.toNat).toNat : Nat) : Int) = n := by simp; omega
    rw [e1]
    have e2 : ((cs.drop i).take 1)[0]? = some (.int .u8 n) := by rw [hn]; rfl
    rwa [List.getElem?_take, if_pos (by decide), List.getElem?_drop, Nat.add_zero] at e2
  clear hi h
  have key : ∀ (k : Nat) (l : List Value), l.length = k → (∀ i, i < k → ∃ b : UInt8, l[i]? = some (.int .u8 (b.toNat : Int))) → ∃ d : List UInt8, l = bv d ∧ d.length = k := by
    intro k
    induction k with
    | zero => intro l hl _; exact ⟨[], by rw [List.eq_nil_of_length_eq_zero hl]; rfl, rfl⟩
    | succ k ih =>
      intro l hl hb
      match l, hl with
      | v :: l, hl =>
        obtain ⟨b, hb0⟩ := hb 0 (by omega)
        obtain ⟨d, hd, hk⟩ := ih l (by simpa using hl) (fun i hi => by
          obtain ⟨b, hb⟩ := hb (i + 1) (by omega)
          exact ⟨b, by simpa using hb⟩)
        have hv : v = .int .u8 (b.toNat : Int) := by simpa using hb0
        exact ⟨b :: d, by rw [hd, hv]; rfl, by simp [hk]⟩
  exact key 32 cs hl32 hb
set_option maxRecDepth 100000 in
/-- a call -/
theorem trod_op (h : DataW.trod enc Try.prog w base sp hd fuel 54 cs = some x) : ∃ y : OpC, cs = opRow y ∧ y.d.length = 32 ∧ (reachOk 54 x.1 → y.t.size ≤ 140737488351232) ∧ y.t.size ≤ Rows.uptoBulk x.1 := by
  obtain ⟨xs, m, _, rfl, hl, hxl, hf⟩ := DataW.trod_struct Try.underlying54 h
  have hl35 : cs.length = 35 := hl
  have hx : ∀ i, i < 4 → ∃ y, xs[i]? = some y := fun i hi => ⟨xs[i]'(by simp_all), List.getElem?_eq_getElem _⟩
  obtain ⟨y0, h0⟩ := hx 0 (by omega)
  obtain ⟨y1, h1⟩ := hx 1 (by omega)
  obtain ⟨y2, h2⟩ := hx 2 (by omega)
  obtain ⟨y3, h3⟩ := hx 3 (by omega)
  have f0 := (hf 0 _ rfl).trans h0
  have f1 := (hf 1 _ rfl).trans h1
  have f2 := (hf 2 _ rfl).trans h2
  have f3 := (hf 3 _ rfl).trans h3
  obtain ⟨k, hk, _, _⟩ := DataW.trod_int Try.underlying3 f0
  obtain ⟨s, hs, hsx, _⟩ := DataW.trod_string Try.underlying9 f1
  obtain ⟨o, ho, _⟩ := DataW.trod_bool Try.underlying4 f2
  obtain ⟨d, hd', hdl⟩ := trod_dig f3
  have k0 : cs.take 1 = [.int .i64 k] := hk
  have k1 : (cs.drop 1).take 1 = [.string s] := hs
  have k2 : (cs.drop 2).take 1 = [.bool o] := ho
  have k3 : (cs.drop 3).take 32 = bv d := hd'
  have hsz : s.data.toList.length = s.size := Array.length_toList
  have hpart : (xs.map (·.1))[1]? = some (.lit (.string s.data.toList)) := by rw [List.getElem?_map, h1, hsx]; rfl
  refine ⟨⟨k, s, o, d⟩, ?_, hdl, fun hk => ?_, ?_⟩
  · have e1 : cs = cs.take 1 ++ ((cs.drop 1).take 1 ++ ((cs.drop 2).take 1 ++ (cs.drop 3).take 32)) := by
      have a1 : (cs.drop 3).take 32 = cs.drop 3 := List.take_of_length_le (by rw [List.length_drop]; omega)
      have a2 : cs.drop 3 = (cs.drop 2).drop 1 := by rw [List.drop_drop]
      have a3 : cs.drop 2 = (cs.drop 1).drop 1 := by rw [List.drop_drop]
      rw [a1, a2, List.take_append_drop, a3, List.take_append_drop, List.take_append_drop]
    rw [e1, k0, k1, k2, k3]
    rfl
  · have := reach_text (reach_field (j := 1) Try.underlying54 hk rfl hpart)
    rwa [hsz] at this
  · have h5 := bulk_mem (List.mem_of_getElem? hpart)
    have h6 := bulk_text (H := H) s.data.toList
    show s.size ≤ Rows.uptoBulk (.agg (xs.map (·.1)))
    rw [Rows.uptoBulk]
    omega
set_option maxRecDepth 100000 in
/-- a script -/
theorem trod_ops (h : DataW.trod enc Try.prog w base sp hd fuel 52 cs = some x) : ∃ (A : Option Addr) (n c : Nat) (ys : List OpC), cs = [.slice A n c] ∧ OpsAt w 52 x.1 ys A n c := by
  rcases open_slice Try.underlying52 h with ⟨rfl, _⟩ | ⟨a, len, cap, m, n, D, Pl, rfl, _, hl, hm, hmm, rfl, hi⟩
  · exact ⟨none, 0, 0, [], rfl, rfl, by simp, Reads.none_, fun _ => ⟨by simp, by simp⟩, Nat.zero_le _, by simp⟩
  · have hlm : len ≤ m := by rw [hmm]; split <;> omega
    have hc35 : Try.prog.cellsOf 54 = 35 := by kernel_rfl
    have hb64 : Try.prog.bytesOf 54 = 64 := by kernel_rfl
    rw [hc35] at hi
    have hel : ∀ i, i < len → ∃ y : OpC, (∀ j u, (opRow y)[j]? = some u → w.cell? (a.add (i * 35 + j)) = some u) ∧ y.d.length = 32 ∧ (reachOk 54 (D i) → y.t.size ≤ 140737488351232) ∧ y.t.size ≤ Rows.uptoBulk (D i) := by
      intro i h
      obtain ⟨cs', hcs, ht⟩ := hi i (by omega)
      obtain ⟨y, rfl, hd, hk, hbk⟩ := trod_op ht
      obtain ⟨_, hcl, hat⟩ := World.cells?_some hcs
      refine ⟨y, fun j u hu => ?_, hd, hk, hbk⟩
      have hj : j < 35 := by
        have := (List.getElem?_eq_some_iff.1 hu).1
        rwa [opRow_length hd] at this
      have := hat j hj
      rw [hu] at this
      rw [← Go.Deep.add_add]
      exact this
    clear hi hmm
    have key : ∀ k, k ≤ len → ∃ ys : List OpC, ys.length = k ∧ (∀ y ∈ ys, y.d.length = 32) ∧ (∀ j u, (opRows ys)[j]? = some u → w.cell? (a.add j) = some u) ∧ ((∀ i, i < len → reachOk 54 (D i)) → ∀ y ∈ ys, y.t.size ≤ 140737488351232) ∧ ∀ y ∈ ys, ∃ i, i < len ∧ y.t.size ≤ Rows.uptoBulk (D i) := by
      intro k
      induction k with
      | zero => intro _; exact ⟨[], rfl, by simp, fun j u hu => by simp [opRows] at hu, fun _ => by simp, by simp⟩
      | succ k ih =>
        intro hk
        obtain ⟨ys, h1, h2, h3, h4, h5⟩ := ih (by omega)
        obtain ⟨y, hcell, hd, hkr, hbk⟩ := hel k (by omega)
        have hrl := opRows_length h2
        have hfl : opRows (ys ++ [y]) = opRows ys ++ opRow y := by simp [opRows]
        refine ⟨ys ++ [y], by simp [h1], fun z hz => ?_, fun j u hu => ?_, fun hk' z hz => ?_, fun z hz => ?_⟩
        · rcases List.mem_append.1 hz with h | h
          · exact h2 z h
          · rw [List.mem_singleton.1 h]; exact hd
        · rw [hfl, List.getElem?_append, hrl, h1] at hu
          split at hu
          · exact h3 j u hu
          · have := hcell _ u hu
            rwa [show k * 35 + (j - k * 35) = j by omega] at this
        · rcases List.mem_append.1 hz with h | h
          · exact h4 hk' z h
          · rw [List.mem_singleton.1 h]; exact hkr (hk' k (by omega))
        · rcases List.mem_append.1 hz with h | h
          · exact h5 z h
          · rw [List.mem_singleton.1 h]; exact ⟨k, by omega, hbk⟩
    obtain ⟨ys, h1, h2, h3, h4, h5⟩ := key len (Nat.le_refl _)
    have hrl := opRows_length h2
    refine ⟨some a, len, cap, ys, rfl, h1.symm, h2, ⟨by rw [hrl, h1], fun hp => ?_⟩, fun hk => ⟨?_, h4 fun i hi => reach_elem Try.underlying52 hk (by simp; exact ⟨i, hi, rfl⟩)⟩, ?_, fun y hy => ?_⟩
    · have h0 : (opRows ys)[0]? = some ((opRows ys)[0]'(by omega)) := List.getElem?_eq_getElem _
      have hc0 := h3 0 _ h0
      obtain ⟨g, o, st⟩ := a
      have hst : st = none := by simpa [Addr.add] using World.cell?_spot hc0
      subst hst
      have hb : g < w.heap.size := World.block_lt_of_cell? w _ hc0
      refine ⟨g, o, rfl, hb, fun j u hu => ?_⟩
      rw [← Go.WideShapes.add_plain]
      exact h3 j u hu
    · have h6 := reach_len Try.underlying52 hk
      rw [hb64] at h6
      simpa using h6
    · have := dlen_bulk (H := H) (.slice (List.map D (List.range len)) (List.map (fun j => D (len + j)) (List.range (m - len))))
      simpa [dlen] using this
    · obtain ⟨i, hi, hb⟩ := h5 y hy
      have h6 := bulk_mem (l := List.map D (List.range len)) (d := D i) (List.mem_map.2 ⟨i, List.mem_range.2 hi, rfl⟩)
      show y.t.size ≤ Rows.uptoBulk (.slice (List.map D (List.range len)) (List.map (fun j => D (len + j)) (List.range (m - len))))
      rw [Rows.uptoBulk]
      omega
end
set_option maxRecDepth 100000 in
/-- a script that is handed in -/
theorem open_ops {H : Type} {enc : TypeId × Value → H} {W : World} {base : Nat} {sp : Nat → Bool} {hd : Bool} {v : Value} {d : DataW H} {p : List MemPlace} (hv : Value.okWide Try.prog W .any base 52 v) (h : DataW.Trod enc Try.prog W 0 sp hd 52 v d p) :
    ∃ (A : Option Addr) (n c : Nat) (ys : List OpC), v = .slice A n c ∧ OpsAt W 52 d ys A n c := by
  obtain ⟨A, n, c, rfl⟩ := okWide_slice Try.underlying52 hv
  obtain ⟨fuel, hf⟩ := h
  obtain ⟨A', n', c', ys, hcs, h⟩ := trod_ops hf
  simp only [Value.cells, List.cons.injEq, Value.slice.injEq, and_true] at hcs
  obtain ⟨rfl, rfl, rfl⟩ := hcs
  exact ⟨A, n, c, ys, rfl, h⟩
theorem OpsAt.reached {H : Type} {w : World} {t : TypeId} {d : DataW H} {ys : List OpC} {A : Option Addr} {n c : Nat} (h : OpsAt w t d ys A n c) (hk : reachOk t d) : OpsIn w w.heap.size ys A n c ∧ (n + 1) * 56 ≤ 140737488355328 := by
  obtain ⟨h1, h2⟩ := h.reach hk
  exact ⟨⟨h.len, fun y hy => ⟨h.ds y hy, h2 y hy⟩, h.rd⟩, by omega⟩
theorem OpsAt.small {H : Type} {w : World} {t : TypeId} {d : DataW H} {ys : List OpC} {A : Option Addr} {n c : Nat} (h : OpsAt w t d ys A n c) (hk : Rows.uptoBulk d ≤ 1048576) : OpsIn w w.heap.size ys A n c ∧ n ≤ 1048576 := by
  obtain ⟨h1, h2⟩ := h.bulk
  exact ⟨⟨h.len, fun y hy => ⟨h.ds y hy, by have := h2 y hy; omega⟩, h.rd⟩, by omega⟩
end Go.Proofs.Ytioanppnkhiokaa
