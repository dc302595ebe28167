/-
  Package node: occupied; the references of a list in memory.
-/
import Derived.Test.YtahaaeenbahknaaRRRRNoR
namespace Go.Proofs.YtahaaeenbahknaaRRRR
open Go.RowKit

theorem flat_atN (m : Nat) : ∀ (vs : List Value) (i : Nat) (v : Value), (∀ u ∈ vs, u.cells.toList.length = m) → vs[i]? = some v → ∀ j u, j < m → v.cells.toList[j]? = some u → (flat vs)[m * i + j]? = some u
  | [], i, v, _, h, _, _, _, _ => by simp at h
  | x :: vs, 0, v, h3, h, j, u, hj, hu => by
    simp at h; subst h
    have hx := h3 x (by simp)
    show (x.cells.toList ++ flat vs)[m * 0 + j]? = some u
    rw [Nat.mul_zero, Nat.zero_add, List.getElem?_append_left (by omega)]
    exact hu
  | x :: vs, i + 1, v, h3, h, j, u, hj, hu => by
    have hx := h3 x (by simp)
    show (x.cells.toList ++ flat vs)[m * (i + 1) + j]? = some u
    rw [List.getElem?_append_right (by rw [Nat.mul_add]; omega), hx, show m * (i + 1) + j - m = m * i + j by rw [Nat.mul_add]; omega]
    exact flat_atN m vs i v (fun u hu => h3 u (by simp [hu])) (by simpa using h) j u hj hu
theorem RefIn.move {S S' : Nat → Prop} {w w' : World} {v : Value} {r : Nd.Rf} (h : RefIn S w v r) (hS : ∀ g, S g → g < w.heap.size → S' g ∧ w'.heap[g]? = w.heap[g]?) (hs : w.heap.size ≤ w'.heap.size) : RefIn S' w' v r := by
  obtain ⟨A, n, c, h1, h2, h3, h4, h5, h6⟩ := h
  exact ⟨A, n, c, h1, h2, h3, h4, h5, h6.move hS hs⟩
/-- the i-th reference of a list -/
theorem refs_at {S : Nat → Prop} {w : World} {n : Nat} {A : Option Addr} {vs : List Value} {rs : List Nd.Rf} (hin : InS S w 34 A n (flat vs)) (hall : All2 (RefIn S w) vs rs) (hn : n = rs.length) (i : Nat) (hi : i < rs.length) :
    ∃ (g o : Nat) (A' : Option Addr) (n' c' : Nat), A = some ⟨g, o, none⟩ ∧ S g ∧ g < w.heap.size ∧ w.rangeAt g (o + i * 34) (refCells rs[i].kind rs[i].dig A' n' c') ∧ rs[i].dig.length = 32 ∧ Bytes w w.heap.size A' n' c' rs[i].inl := by
  obtain ⟨g, o, e, h1, h2, hc⟩ := hin.2 (by omega)
  obtain ⟨v, hv, A', n', c', rfl, hd, h3, h4, h5, h6⟩ := hall.2 i rs[i] (List.getElem?_eq_getElem hi)
  refine ⟨g, o, A', n', c', e, h1, h2, fun j u hu => ?_, hd, h3, h4, h5, h6.reads fun _ _ h => h⟩
  have hj : j < 34 := by
    have := (List.getElem?_eq_some_iff.1 hu).1
    rwa [refCells_length hd] at this
  have hcl : ∀ u ∈ vs, u.cells.toList.length = 34 := by
    intro u hu
    obtain ⟨k, hk, rfl⟩ := List.mem_iff_getElem.1 hu
    obtain ⟨v, hv, A', n', c', rfl, hd, _⟩ := hall.2 k (rs[k]'(by rw [← hall.1]; exact hk)) (List.getElem?_eq_getElem _)
    rw [List.getElem?_eq_getElem hk] at hv
    injection hv with hv
    rw [hv]
    show (refRow _ _ _ _ _).toList.length = 34
    rw [Array.length_toList, refRow_size hd]
  rw [Nat.add_assoc, Nat.mul_comm i 34]
  exact hc _ u (flat_atN 34 vs i _ hcl hv j u hj (by simpa [Value.cells, refRow] using hu))
/-- a reference's row is stored anew -/
structure RefS (wr : World) (row : Array Value) (w2 : World) : Prop where
  it : Blk w2 wr.heap.size 26 row
  bel : Below wr.heap.size wr w2
def refZ : Array Value := #[.int .i64 0, .int .u8 0, .int .u8 0, .int .u8 0, .int .u8 0, .int .u8 0, .int .u8 0, .int .u8 0, .int .u8 0, .int .u8 0, .int .u8 0, .int .u8 0, .int .u8 0, .int .u8 0, .int .u8 0, .int .u8 0, .int .u8 0, .int .u8 0, .int .u8 0, .int .u8 0, .int .u8 0, .int .u8 0, .int .u8 0, .int .u8 0, .int .u8 0, .int .u8 0, .int .u8 0, .int .u8 0, .int .u8 0, .int .u8 0, .int .u8 0, .int .u8 0, .int .u8 0, .slice none 0 0]
theorem ref_stored {wr : World} (row : Array Value) : RefS wr row ((wr.alloc (.cells refZ 26)).setRow wr.heap.size row) :=
  ⟨(Blk.new wr 26 refZ).row row, below_row ((Below.refl _ _).alloc (Nat.le_refl _) _) (Nat.le_refl _) _⟩
theorem refRow_one (k : Int) (d : List UInt8) (A : Option Addr) (n c : Nat) : (refRow k d A n c).all (·.oneCell') = true :=
  Array.all_eq_true_iff_forall_mem.2 (by intro u hu; exact refCells_one k d A n c u (by simpa [refRow] using hu))
/-- a node's row, by what it is made of -/
def nodRow (k : Int) (Ap : Option Addr) (np cp : Nat) (Av : Option Addr) (nv cv : Nat) (ck : Int) (cd : List UInt8) (Ac : Option Addr) (nc cc : Nat) (Ak : Option Addr) (nk kk : Nat) : Array Value := (nodCells k Ap np cp Av nv cv ck cd Ac nc cc Ak nk kk).toArray
theorem nodRow_last {k ck : Int} {Ap Av Ac Ak : Option Addr} {np cp nv cv nc cc nk kk : Nat} {cd : List UInt8} (h : cd.length = 32) : (nodRow k Ap np cp Av nv cv ck cd Ac nc cc Ak nk kk)[37]? = some (.slice Ak nk kk) := by
  simp only [nodRow, nodCells, List.getElem?_toArray, List.getElem?_cons_succ]
  rw [List.getElem?_append_right (by rw [refCells_length h]; omega), refCells_length h]
  rfl
theorem nodRow_size {k ck : Int} {Ap Av Ac Ak : Option Addr} {np cp nv cv nc cc nk kk : Nat} {cd : List UInt8} (h : cd.length = 32) : (nodRow k Ap np cp Av nv cv ck cd Ac nc cc Ak nk kk).size = 38 := by
  show (nodCells k Ap np cp Av nv cv ck cd Ac nc cc Ak nk kk).toArray.size = 38
  rw [List.size_toArray, nodCells_length h]
set_option maxHeartbeats 1000000 in
set_option maxRecDepth 100000 in
theorem node_occupied (S : Nat → Prop) (k ck : Int) (Ap Av Ac Ak : Option Addr) (np cp nv cv nc cc nk kk : Nat) (cd : List UInt8) (hcd : cd.length = 32) (vs : List Value) (ks : List Nd.Rf) (w : World) (hnk : nk = ks.length) (hkk : nk ≤ kk) (hm : kk ≤ maxLen) (hsm : nk ≤ 9223372036854775800)
    (hin : InS S w 34 Ak nk (flat vs)) (hall : All2 (RefIn S w) vs ks) :
    Calls Try.prog 18 #[.agg (nodRow k Ap np cp Av nv cv ck cd Ac nc cc Ak nk kk)] w fun e w' => e = .returned (.int .i64 (((ks.filter fun r => decide (r.kind ≠ 0)).length + if 0 < nv then 1 else 0 : Nat) : Int)) ∧ Below w.heap.size w w' := by
  have hn63 : (nk : Int) ≤ 9223372036854775807 := by unfold maxLen at hm; omega
  obtain ⟨T, hT⟩ : ∃ T, T = (ks.filter fun r => decide (r.kind ≠ 0)).length + if 0 < nv then 1 else 0 := ⟨_, rfl⟩
  rw [← hT]
  replace hT := Lib.hid hT
  have hb := Blk.new w 29 (nodRow k Ap np cp Av nv cv ck cd Ac nc cc Ak nk kk)
  have hbe := (Below.refl w.heap.size w).alloc (Nat.le_refl _) (.cells (nodRow k Ap np cp Av nv cv ck cd Ac nc cc Ak nk kk) 29)
  have g37 : (w.alloc (.cells (nodRow k Ap np cp Av nv cv ck cd Ac nc cc Ak nk kk) 29)).cell? ⟨w.heap.size, 37, none⟩ = some (.slice Ak nk kk) := (hb.cell 37).trans (nodRow_last hcd)
  have hg2 : ∀ W, Blk W w.heap.size 29 (nodRow k Ap np cp Av nv cv ck cd Ac nc cc Ak nk kk) → W.cell? ⟨w.heap.size, 2, none⟩ = some (.slice Av nv cv) := fun W h => h.cell 2
  have hs0 : (w.alloc (.cells (nodRow k Ap np cp Av nv cv ck cd Ac nc cc Ak nk kk) 29)).heap.size = w.heap.size + 1 := by simp
  generalize nodRow k Ap np cp Av nv cv ck cd Ac nc cc Ak nk kk = R at *
  have hfle : ∀ j, ((ks.take j).filter fun r => decide (r.kind ≠ 0)).length ≤ j := fun j => Nat.le_trans (List.length_filter_le _ _) (by rw [List.length_take]; omega)
  have hfst : ∀ j (h : j < ks.length), ((ks.take (j + 1)).filter fun r => decide (r.kind ≠ 0)).length = ((ks.take j).filter fun r => decide (r.kind ≠ 0)).length + if ks[j].kind = 0 then 0 else 1 := by
    intro j h
    rw [List.take_succ_eq_append_getElem h, List.filter_append, List.length_append]
    by_cases hk : ks[j].kind = 0 <;> simp [hk]
  subst hnk
  replace hb := Lib.hid hb
  replace hbe := Lib.hid hbe
  replace hg2 := Lib.hid hg2
  replace hin := Lib.hid hin
  replace hall := Lib.hid hall
  replace hs0 := Lib.hid hs0
  replace hfle := Lib.hid hfle
  replace hfst := Lib.hid hfst
  clear hkk hm
  go_enter Try.func18, Try.ntmps18
  go_wp2_with fail
  clear g37
  go_loopw [3, 9] (fun m i wr => ∃ j : Nat, j ≤ ks.length ∧ i = .int .i64 j ∧ m = .int .i64 (((ks.take j).filter fun r => decide (r.kind ≠ 0)).length : Nat) ∧ Blk wr w.heap.size 29 R ∧ Below w.heap.size w wr) (fun _ i _ => ks.length - (intOf i).toNat)
  case atStart => exact ⟨0, Nat.zero_le _, rfl, rfl, hb.out, hbe.out⟩
  case round =>
    clear hb hbe
    obtain ⟨j, hj, rfl, rfl, hbr, hbw⟩ := hrel
    have hbl := hbr.lt
    by_cases hlt : j < ks.length
    · have hmv : ∀ q, S q → q < w.heap.size → S q ∧ wr.heap[q]? = w.heap[q]? := fun q h1 h2 => ⟨h1, hbw.block q h2⟩
      obtain ⟨g, o, A', n', c', rfl, hSg, hg, hrg, hdl, _⟩ := refs_at (hin.out.move hmv hbw.size) (hall.out.imp fun v x hx => hx.move hmv hbw.size) rfl j hlt
      have hst := hfst.out j hlt
      have hle := hfle.out j
      generalize ks[j] = r at *
      generalize ((ks.take j).filter fun r => decide (r.kind ≠ 0)).length = F at *
      obtain ⟨rk, rd, ri⟩ := r
      simp only at hrg hdl hst
      have hrs := ref_stored (wr := wr) (refRow rk rd A' n' c')
      have hlt' : (j : Int) < (ks.length : Int) := by omega
      have hFw : IntKind.i64.wrap ((F : Int) + 1) = (F : Int) + 1 := by rw [IntKind.wrap_i64]; omega
      replace hrs := Lib.hid hrs
      replace hbr := Lib.hid hbr
      replace hbw := Lib.hid hbw
      replace hst := Lib.hid hst
      clear hmv
      by_cases hk0 : rk = 0
      · subst hk0
        go_wp2_with (first
          | (refine wpList_load_mid rfl 26 _ rfl g (o + j * 34) rfl (refCells 0 rd A' n' c') _ hrg Try.underlying26 rfl (by rw [refCells_length hdl]; exact info_ref) ?_)
          | (refine wpList_store_row rfl 26 _ _ rfl wr.heap.size (refRow 0 rd A' n' c') rfl rfl _ _ (Blk.new wr 26 refZ) (by rw [refRow_size hdl]; exact info_ref) (by rw [refRow_size hdl]; rfl) (refRow_one _ _ _ _ _) ?_; refine list_at (RefS wr _) hrs.out ?_; intro w3 hI3; have k0 : w3.cell? ⟨wr.heap.size, 0, none⟩ = some (.int .i64 0) := (hI3.it.cell 0).trans refRow_zero; replace hI3 := Lib.hid hI3)
          | fail)
        refine ⟨⟨j + 1, by omega, by go_num, by rw [hst.out]; simp , hbr.out.below hI3.out.bel hbl, hbw.out.trans (hI3.out.bel.mono hbw.out.size)⟩, ?_⟩
        simp [intOf]; omega
      · replace hk0 := Lib.hid hk0
        have hk0' := hk0.out
        go_wp2_with (first
          | (refine wpList_load_mid rfl 26 _ rfl g (o + j * 34) rfl (refCells rk rd A' n' c') _ hrg Try.underlying26 rfl (by rw [refCells_length hdl]; exact info_ref) ?_)
          | (refine wpList_store_row rfl 26 _ _ rfl wr.heap.size (refRow rk rd A' n' c') rfl rfl _ _ (Blk.new wr 26 refZ) (by rw [refRow_size hdl]; exact info_ref) (by rw [refRow_size hdl]; rfl) (refRow_one _ _ _ _ _) ?_; refine list_at (RefS wr _) hrs.out ?_; intro w3 hI3; have k0 : w3.cell? ⟨wr.heap.size, 0, none⟩ = some (.int .i64 rk) := (hI3.it.cell 0).trans refRow_zero; replace hI3 := Lib.hid hI3)
          | fail)
        refine ⟨⟨j + 1, by omega, by go_num, by rw [hst.out]; simp [hk0.out], hbr.out.below hI3.out.bel hbl, hbw.out.trans (hI3.out.bel.mono hbw.out.size)⟩, ?_⟩
        simp [intOf]; omega
    · obtain rfl : j = ks.length := by omega
      rw [List.take_length]
      have k2 := hg2.out wr hbr
      have hle := hfle.out ks.length
      rw [List.take_length] at hle
      have hTF := hT.out
      generalize (ks.filter fun r => decide (r.kind ≠ 0)).length = F at *
      replace hTF := Lib.hid hTF
      have hlt' : ¬ (ks.length : Int) < (ks.length : Int) := by omega
      replace hbw := Lib.hid hbw
      replace hbr := Lib.hid hbr
      by_cases hv : 0 < nv
      · have hv' : (0 : Int) < (nv : Int) := by omega
        have hFw : IntKind.i64.wrap ((F : Int) + 1) = (F : Int) + 1 := by rw [IntKind.wrap_i64]; omega
        replace hv := Lib.hid hv
        go_wp2_with fail
        go_ret
        exact ⟨by rw [hTF.out, if_pos hv.out]; simp, hbw.out⟩
      · have hv' : ¬ (0 : Int) < (nv : Int) := by omega
        replace hv := Lib.hid hv
        go_wp2_with fail
        go_ret
        exact ⟨by rw [hTF.out, if_neg hv.out]; simp, hbw.out⟩
end Go.Proofs.YtahaaeenbahknaaRRRR
