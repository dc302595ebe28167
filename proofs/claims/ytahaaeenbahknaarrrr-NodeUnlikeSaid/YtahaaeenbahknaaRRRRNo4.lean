/-
  Package node: many.
-/
import Derived.Test.YtahaaeenbahknaaRRRRNo3
namespace Go.Proofs.YtahaaeenbahknaaRRRR
open Go.RowKit

/-- in the midst of many: the node being filled -/
structure ManI (w : World) (Av : Option Addr) (nv cv : Nat) (A : Option Addr) (k c : Nat) (W : World) : Prop where
  res : Blk W w.heap.size 29 noZ
  n : Blk W (w.heap.size + 1) 29 (nodRow 3 none 0 0 Av nv cv 0 Nd.z32 none 0 0 A k c)
  bel : Below w.heap.size w W
  sz : w.heap.size + 2 ≤ W.heap.size
theorem ManI.step {w W W' : World} {Av A : Option Addr} {nv cv k c : Nat} (h : ManI w Av nv cv A k c W) (hb : Below W.heap.size W W') : ManI w Av nv cv A k c W' := by
  have := h.sz
  exact ⟨h.res.below hb h.res.lt, h.n.below hb h.n.lt, h.bel.trans (hb.mono h.bel.size), Nat.le_trans h.sz hb.size⟩
theorem RfL.far {B m c g : Nat} {w w' : World} {A : Option Addr} {vs : List Value} {rs : List Nd.Rf} (h : RfL B w A m c vs rs) (hg : w.grownBy w' (some g)) (hgB : g < B) : RfL B w' A m c vs rs := by
  refine ⟨h.own.kept hg ?_, h.len, h.all.imp fun v x hx => hx.move (fun q h1 h2 => ⟨h1, hg.block q h2 (fun e => ?_)⟩) hg.size⟩
  · cases e : (Value.slice A m c).ownBlock with
    | none => exact .inl rfl
    | some q => exact .inr (fun e2 => by injection e2 with e2; have := (h.own.lt q e).1; omega)
  · injection e with e
    rcases h1.1 with h | h
    · exact h
    · omega
/-- the next reference lies in a row of its own -/
structure ManM (w : World) (Av : Option Addr) (nv cv : Nat) (gy : Nat) (row : Array Value) (x : Nd.Rf) (A : Option Addr) (k c : Nat) (vs : List Value) (rs : List Nd.Rf) (W : World) : Prop where
  lst : RfL (w.heap.size + 2) W A k c vs rs
  nod : ManI w Av nv cv A k c W
  y : Blk W gy 26 row
  rv : RefIn (Apart (fun _ => False) (w.heap.size + 2) (.slice A k c)) W (.agg row) x
theorem man_mid {w wr w3 : World} {Av A : Option Addr} {nv cv k c : Nat} {vs : List Value} {rs : List Nd.Rf} {row : Array Value} {x : Nd.Rf} (h : RfL (w.heap.size + 2) wr A k c vs rs) (hI : ManI w Av nv cv A k c wr) (hb : Below wr.heap.size wr w3)
    (hv : RefIn (fun q => wr.heap.size ≤ q) w3 (.agg row) x) : ManM w Av nv cv w3.heap.size row x A k c vs rs ((w3.alloc (.cells refZ 26)).setRow w3.heap.size row) := by
  have hs := hb.size
  have hsz := hI.sz
  have hb2 : Below wr.heap.size wr ((w3.alloc (.cells refZ 26)).setRow w3.heap.size row) := below_row (hb.alloc hs _) hs _
  refine ⟨h.below hb2, hI.step hb2, (Blk.new w3 _ _).row _, ?_⟩
  refine hv.move (fun q h1 h2 => ⟨⟨.inr (by omega), fun e => by have := (h.own.lt _ e).2; omega⟩, ?_⟩) (by simp)
  exact (setRow_other _ _ q _ (by omega)).trans (Below.heap_alloc w3 _ q h2)
theorem man_next {w w3 w5 : World} {Av A A5 : Option Addr} {nv cv k c c5 gy : Nat} {vs vs' : List Value} {rs rs' : List Nd.Rf} {row cs : Array Value} {x : Nd.Rf}
    (hM : ManM w Av nv cv gy row x A k c vs rs w3) (hL : RfL (w.heap.size + 2) w5 A5 (k + 1) c5 vs' rs') (hg : (w3.alloc (.cells cs 26)).grownBy w5 (Value.slice A k c).ownBlock) :
    RfL (w.heap.size + 2) (w5.setCell ⟨w.heap.size + 1, 37, none⟩ (.slice A5 (k + 1) c5)) A5 (k + 1) c5 vs' rs' ∧ ManI w Av nv cv A5 (k + 1) c5 (w5.setCell ⟨w.heap.size + 1, 37, none⟩ (.slice A5 (k + 1) c5)) := by
  have hsz := hM.nod.sz
  have hs4 : (w3.alloc (.cells cs 26)).heap.size = w3.heap.size + 1 := by simp
  have hs5 := hg.size
  have hlow : ∀ q, q < w.heap.size + 2 → some q ≠ (Value.slice A k c).ownBlock := fun q hq e => by have := (hM.lst.own.lt q e.symm).1; omega
  have hb5 : ∀ q, q < w.heap.size + 2 → w5.heap[q]? = w3.heap[q]? := fun q hq => (hg.block q (by omega) (hlow q hq)).trans (Below.heap_alloc w3 _ q (by omega))
  have hbel : Below w.heap.size w w5 := (hM.nod.bel.alloc (by omega) (.cells cs 26)).trans ⟨hg.os, hg.tape, hg.output, hg.size, fun q hq => hg.block q (by omega) (hlow q (by omega))⟩
  refine ⟨hL.far (g := w.heap.size + 1) (grown_set (World.grownBy.refl w5 _)) (by omega), ?_, ?_, hbel.setCell (by simp) _, by rw [size_set]; omega⟩
  · exact (Below.heap_setCell w5 _ _ _ (by simp)).trans ((hb5 _ (by omega)).trans hM.nod.res)
  · have hX5 : Blk w5 (w.heap.size + 1) 29 (nodRow 3 none 0 0 Av nv cv 0 Nd.z32 none 0 0 A k c) := (hb5 _ (by omega)).trans hM.nod.n
    exact (hX5.set_ 37 _).eq rfl
/-- an item lies in a row of its own -/
structure ItB (wr : World) (row : Array Value) (W : World) : Prop where
  it : Blk W wr.heap.size 46 row
  bel : Below wr.heap.size wr W
theorem itB_stored {wr : World} (row : Array Value) : ItB wr row ((wr.alloc (.cells rowZ 46)).setRow wr.heap.size row) :=
  ⟨(Blk.new wr _ _).row row, below_row ((Below.refl _ _).alloc (Nat.le_refl _) _) (Nat.le_refl _) _⟩
set_option maxHeartbeats 2000000 in
set_option maxRecDepth 100000 in
theorem node_many (S : Nat → Prop) (A : Option Addr) (c : Nat) (vs : List Value) (xs : List (Ns.It 8)) (w : World) (hin : InS S w 3 A 17 (flat vs)) (hall : All2 (Sits S w 8) vs xs) (h17 : xs.length = 17) (hc : 17 ≤ c) (hm : c ≤ maxLen)
    (hS : ∀ q, S q → q < w.heap.size) (hfit : ∀ x ∈ xs, Ns.fit 7 x) (hlim : ∀ x ∈ xs, (Ns.enc 8 x).length ≤ 16777215) :
    Calls Try.prog 26 #[.slice A 17 c] w (ShpQ S (Nd.many (xs.take 16) (xs[16]'(by omega))).1 (Nd.many (xs.take 16) (xs[16]'(by omega))).2 w) := by
  obtain ⟨g, o, a, b, z, rfl, hSg, hg, hrg, hone, hst⟩ := items_at hin hall h17.symm 16 (by omega)
  obtain ⟨Av, nv, cv, z', he, hnv, hcv, hmv, hiv, hz⟩ := hst.row
  simp only [Value.agg.injEq, Array.mk.injEq, List.cons.injEq, and_true] at he
  obtain ⟨rfl, rfl, rfl⟩ := he
  have hT : Nd.many (xs.take 16) (xs[16]'(by omega)) = (⟨3, [], bytesOf (xs[16]'(by omega)), Nd.rf0, (xs.take 16).map fun x => (Nd.refOf x).1⟩, !isList (xs[16]'(by omega)) && (xs.take 16).all fun x => (Nd.refOf x).2) := rfl
  generalize Nd.many (xs.take 16) (xs[16]'(by omega)) = T at *
  generalize isList (xs[16]'(by omega)) = lz at *
  generalize bytesOf (xs[16]'(by omega)) = bz at *
  have g0 : w.cell? ⟨g, o + 48, none⟩ = some (.bool lz) := hrg 0 _ rfl
  have g1 : w.cell? ⟨g, o + 48 + 1, none⟩ = some (.slice Av nv cv) := hrg 1 _ rfl
  have hW : ManI w Av nv cv none 0 0 (((w.alloc (.cells noZ 29)).alloc (.cells noZ 29)).setRow (w.heap.size + 1) (nodRow 3 none 0 0 Av nv cv 0 Nd.z32 none 0 0 none 0 0)) :=
    ⟨((Blk.new w _ _).alloc _).row_far _ (by omega), (Blk.new' (by simp)).row _, below_row (((Below.refl _ _).alloc (Nat.le_refl _) _).alloc (by simp) _) (by omega) _, by simp⟩
  clear hst hrg hone
  replace hT := Lib.hid hT
  replace hin := Lib.hid hin
  replace hall := Lib.hid hall
  replace h17 := Lib.hid h17
  have hSh := Lib.hid hS
  replace hfit := Lib.hid hfit
  replace hlim := Lib.hid hlim
  replace hiv := Lib.hid hiv
  replace hnv := Lib.hid hnv
  replace hW := Lib.hid hW
  clear hS
  have k0 : (w.alloc (.cells noZ 29)).cell? ⟨g, o + 48, none⟩ = some (.bool lz) := (World.cell?_alloc_lt w _ _ (by exact hg)).trans g0
  have k1 : (w.alloc (.cells noZ 29)).cell? ⟨g, o + 48 + 1, none⟩ = some (.slice Av nv cv) := (World.cell?_alloc_lt w _ _ (by exact hg)).trans g1
  go_enter Try.func26, Try.ntmps26
  go_wp2_with (refine wpList_store_row rfl 29 _ _ rfl (w.heap.size + 1) (nodRow 3 none 0 0 Av nv cv 0 Nd.z32 none 0 0 none 0 0) rfl rfl _ _ (Blk.new' (w := w.alloc (.cells noZ 29)) (t := 29) (cs := noZ) (by simp)) (by rw [nodRow_size rfl]; exact info_node) (by rw [nodRow_size rfl]; rfl) (nodRow_one _ _ _ _ _ _ _ _ _ _ _ _ _ _ _) ?_; refine list_at (ManI w Av nv cv none 0 0) hW.out ?_; intro w1 hI; have k2 : w1.cell? ⟨g, o + 48, none⟩ = some (.bool lz) := (hI.bel.cell (p := ⟨g, o + 48, none⟩) hg).trans g0; replace hI := Lib.hid hI)
  clear k0 k1 k2 hW g0 g1
  have hok : ∀ k (h : k < xs.length), ((xs.take (k + 1)).all fun x => (Nd.refOf x).2) = (((xs.take k).all fun x => (Nd.refOf x).2) && (Nd.refOf xs[k]).2) := by
    intro k h
    rw [List.take_succ_eq_append_getElem h, List.all_append]
    simp
  have hrs : ∀ k (h : k < xs.length), ((xs.take (k + 1)).map fun x => (Nd.refOf x).1) = ((xs.take k).map fun x => (Nd.refOf x).1) ++ [(Nd.refOf xs[k]).1] := by
    intro k h
    rw [List.take_succ_eq_append_getElem h, List.map_append]
    rfl
  replace hok := Lib.hid hok
  replace hrs := Lib.hid hrs
  go_loopw [5, 23] (fun okv i wr => ∃ (k : Nat) (A' : Option Addr) (c' : Nat) (vs' : List Value), k ≤ 16 ∧ i = .int .i64 k ∧ okv = .bool (!lz && (xs.take k).all fun x => (Nd.refOf x).2) ∧ RfL (w.heap.size + 2) wr A' k c' vs' ((xs.take k).map fun x => (Nd.refOf x).1) ∧ ManI w Av nv cv A' k c' wr) (fun _ i _ => 16 - (intOf i).toNat)
  case atStart => exact ⟨0, none, 0, [], by omega, rfl, by simp, RfL.start, hI.out⟩
  case round =>
    clear hI
    obtain ⟨k, A', c', vs', hk, rfl, rfl, hL, hI⟩ := hrel
    by_cases hlt : k < 16
    · have hlt' : (k : Int) < 16 := by omega
      have hkl : k < xs.length := by rw [h17.out]; omega
      have hok1 := Lib.hid (hok.out k hkl)
      have hrs1 := Lib.hid (hrs.out k hkl)
      have hbs := hI.bel.size
      have hmv : ∀ q, S q → q < w.heap.size → S q ∧ wr.heap[q]? = w.heap[q]? := fun q h1 h2 => ⟨h1, hI.bel.block q h2⟩
      obtain ⟨g2, o2, a, b, z2, he, hSg2, hg2, hrg2, hone2, hst2⟩ := items_at (hin.out.move hmv hbs) (hall.out.imp fun v x hx => hx.move _ _ _ hmv hbs) h17.out.symm k hkl
      injection he with he
      injection he with he1 he2
      subst he1 he2
      have hf := hfit.out _ (List.getElem_mem hkl)
      have hl := hlim.out _ (List.getElem_mem hkl)
      generalize xs[k] = x at *
      have hB := itB_stored (wr := wr) #[a, b, z2]
      have hcall : ∀ w2, ItB wr #[a, b, z2] w2 → Calls Try.prog 36 #[.agg #[a, b, z2]] w2 (RefQ x w2) := fun w2 h2 =>
        node_ref S (.agg #[a, b, z2]) x w2 (hst2.move _ _ _ (fun q h1 h3 => ⟨h1, h2.bel.block q h3⟩) h2.bel.size) (fun q h => by have := hSh.out q h; have := h2.bel.size; omega) hf hl
      have hok2 : (!lz && (xs.take (k + 1)).all fun x => (Nd.refOf x).2) = ((!lz && (xs.take k).all fun x => (Nd.refOf x).2) && (Nd.refOf x).2) := by rw [hok1.out, Bool.and_assoc]
      have hrg3 : wr.rangeAt g (o + k * 3) [a, b, z2] := by rw [Nat.mul_comm k 3]; exact hrg2
      generalize (!lz && (xs.take k).all fun x => (Nd.refOf x).2) = K0 at *
      generalize (xs.take k).map (fun x => (Nd.refOf x).1) = R0 at *
      clear hst2 hf hl hmv hrg2 hok1
      replace hok2 := Lib.hid hok2
      replace hB := Lib.hid hB
      replace hL := Lib.hid hL
      replace hI := Lib.hid hI
      replace hcall := Lib.hid hcall
      cases K0 with
      | true =>
        go_wp2_with (first
          | (refine wpList_load_mid rfl 46 _ rfl g (o + k * 3) rfl [a, b, z2] _ hrg3 Try.underlying46 rfl info_item3 ?_)
          | (refine wpList_store_row rfl 46 _ _ rfl wr.heap.size #[a, b, z2] rfl rfl _ _ (Blk.new wr 46 rowZ) info_item3 rfl (by simpa using hone2) ?_; refine list_at (ItB wr _) hB.out ?_; intro w2 hI2; replace hI2 := Lib.hid hI2)
          | (refine wpList_load_row rfl 46 _ rfl wr.heap.size rfl _ _ _ _ hI2.out.it Try.underlying46 rfl info_item3 ?_)
          | fail)
        refine (hcall.out w2 hI2.out).mono ?_
        rintro e w3 ⟨hb3, vr, rfl, A3, n3, c3, rfl, hd3, hn3, hc3, hm3, hi3⟩
        clear hcall
        generalize (Nd.refOf x).2 = ok2 at *
        generalize (Nd.refOf x).1 = R at *
        obtain ⟨rk, rd, ri⟩ := R
        simp only at hd3 hn3 hi3
        have hsz2 := hI2.out.bel.size
        have hM := man_mid hL.out hI.out (hI2.out.bel.trans (hb3.mono hsz2)) (x := ⟨rk, rd, ri⟩) (row := refRow rk rd A3 n3 c3) ⟨A3, n3, c3, rfl, hd3, hn3, hc3, hm3, hi3.move (fun q h1 h2 => ⟨by omega, rfl⟩) (Nat.le_refl _)⟩
        replace hM := Lib.hid hM
        replace hd3 := Lib.hid hd3
        replace hn3 := Lib.hid hn3
        replace hb3 := Lib.hid hb3
        replace hi3 := Lib.hid hi3
        go_wp2_with (first
          | (refine wpList_load_row rfl 26 _ rfl w3.heap.size rfl _ _ _ _ hM4.out.y Try.underlying26 rfl (by rw [refRow_size hd3.out]; exact info_ref) ?_)
          | (refine wpList_build_ref rfl _ rfl rk rd n3 hd3.out rfl ?_)
          | (at_builtin; refine wpList_append_ref rfl _ _ rfl (hM4.out.lst.below ((Below.refl _ _).alloc (Nat.le_refl _) (.cells (refRow rk rd A3 n3 c3) 26))) (by have := hM4.out.nod.sz; simp; omega) rfl rfl (by simp) hd3.out (Blk.new w4 26 (refRow rk rd A3 n3 c3)) (hM4.out.rv.move (fun q h1 h2 => ⟨h1, Below.heap_alloc w4 _ q h2⟩) (by simp)) (by omega) ?_; intro A5 c5 w5 hL5 hg5; have hn := man_next hM4.out hL5 hg5; have hX5 : Blk w5 (w.heap.size + 1) 29 (nodRow 3 none 0 0 Av nv cv 0 Nd.z32 none 0 0 A' k c') := ((hg5.block _ (by have := hM4.out.nod.sz; simp; omega) (fun e => by have := (hM4.out.lst.own.lt _ e.symm).1; omega)).trans (Below.heap_alloc w4 _ _ (by have := hM4.out.nod.sz; omega))).trans hM4.out.nod.n; have gx : w5.cell? ⟨w.heap.size + 1, 37, none⟩ = some (.slice A' k c') := hX5.cell 37; have fx := hX5.frozen 37; clear hX5; replace hL5 := Lib.hid hL5; replace hg5 := Lib.hid hg5; replace hn := Lib.hid hn)
          | (refine wpList_store_row rfl 26 _ _ rfl w3.heap.size (refRow rk rd A3 n3 c3) rfl rfl _ _ (Blk.new w3 26 refZ) (by rw [refRow_size hd3.out]; exact info_ref) (by rw [refRow_size hd3.out]; rfl) (refRow_one _ _ _ _ _) ?_; refine list_at (ManM w Av nv cv w3.heap.size (refRow rk rd A3 n3 c3) ⟨rk, rd, ri⟩ A' k c' vs' R0) hM.out ?_; intro w4 hM4; have g37 : w4.cell? ⟨w.heap.size + 1, 37, none⟩ = some (.slice A' k c') := hM4.nod.n.cell 37; replace hM4 := Lib.hid hM4)
          | fail)
        refine ⟨⟨k + 1, A5, c5, _, by omega, by go_num, by rw [hok2.out]; rfl, by rw [hrs1.out]; exact hn.out.1, hn.out.2⟩, ?_⟩
        simp [intOf]; omega
      | false =>
        go_wp2_with (first
          | (refine wpList_load_mid rfl 46 _ rfl g (o + k * 3) rfl [a, b, z2] _ hrg3 Try.underlying46 rfl info_item3 ?_)
          | (refine wpList_store_row rfl 46 _ _ rfl wr.heap.size #[a, b, z2] rfl rfl _ _ (Blk.new wr 46 rowZ) info_item3 rfl (by simpa using hone2) ?_; refine list_at (ItB wr _) hB.out ?_; intro w2 hI2; replace hI2 := Lib.hid hI2)
          | (refine wpList_load_row rfl 46 _ rfl wr.heap.size rfl _ _ _ _ hI2.out.it Try.underlying46 rfl info_item3 ?_)
          | fail)
        refine (hcall.out w2 hI2.out).mono ?_
        rintro e w3 ⟨hb3, vr, rfl, A3, n3, c3, rfl, hd3, hn3, hc3, hm3, hi3⟩
        clear hcall
        generalize (Nd.refOf x).2 = ok2 at *
        generalize (Nd.refOf x).1 = R at *
        obtain ⟨rk, rd, ri⟩ := R
        simp only at hd3 hn3 hi3
        have hsz2 := hI2.out.bel.size
        have hM := man_mid hL.out hI.out (hI2.out.bel.trans (hb3.mono hsz2)) (x := ⟨rk, rd, ri⟩) (row := refRow rk rd A3 n3 c3) ⟨A3, n3, c3, rfl, hd3, hn3, hc3, hm3, hi3.move (fun q h1 h2 => ⟨by omega, rfl⟩) (Nat.le_refl _)⟩
        replace hM := Lib.hid hM
        replace hd3 := Lib.hid hd3
        replace hn3 := Lib.hid hn3
        replace hb3 := Lib.hid hb3
        replace hi3 := Lib.hid hi3
        go_wp2_with (first
          | (refine wpList_load_row rfl 26 _ rfl w3.heap.size rfl _ _ _ _ hM4.out.y Try.underlying26 rfl (by rw [refRow_size hd3.out]; exact info_ref) ?_)
          | (refine wpList_build_ref rfl _ rfl rk rd n3 hd3.out rfl ?_)
          | (at_builtin; refine wpList_append_ref rfl _ _ rfl (hM4.out.lst.below ((Below.refl _ _).alloc (Nat.le_refl _) (.cells (refRow rk rd A3 n3 c3) 26))) (by have := hM4.out.nod.sz; simp; omega) rfl rfl (by simp) hd3.out (Blk.new w4 26 (refRow rk rd A3 n3 c3)) (hM4.out.rv.move (fun q h1 h2 => ⟨h1, Below.heap_alloc w4 _ q h2⟩) (by simp)) (by omega) ?_; intro A5 c5 w5 hL5 hg5; have hn := man_next hM4.out hL5 hg5; have hX5 : Blk w5 (w.heap.size + 1) 29 (nodRow 3 none 0 0 Av nv cv 0 Nd.z32 none 0 0 A' k c') := ((hg5.block _ (by have := hM4.out.nod.sz; simp; omega) (fun e => by have := (hM4.out.lst.own.lt _ e.symm).1; omega)).trans (Below.heap_alloc w4 _ _ (by have := hM4.out.nod.sz; omega))).trans hM4.out.nod.n; have gx : w5.cell? ⟨w.heap.size + 1, 37, none⟩ = some (.slice A' k c') := hX5.cell 37; have fx := hX5.frozen 37; clear hX5; replace hL5 := Lib.hid hL5; replace hg5 := Lib.hid hg5; replace hn := Lib.hid hn)
          | (refine wpList_store_row rfl 26 _ _ rfl w3.heap.size (refRow rk rd A3 n3 c3) rfl rfl _ _ (Blk.new w3 26 refZ) (by rw [refRow_size hd3.out]; exact info_ref) (by rw [refRow_size hd3.out]; rfl) (refRow_one _ _ _ _ _) ?_; refine list_at (ManM w Av nv cv w3.heap.size (refRow rk rd A3 n3 c3) ⟨rk, rd, ri⟩ A' k c' vs' R0) hM.out ?_; intro w4 hM4; have g37 : w4.cell? ⟨w.heap.size + 1, 37, none⟩ = some (.slice A' k c') := hM4.nod.n.cell 37; replace hM4 := Lib.hid hM4)
          | fail)
        refine ⟨⟨k + 1, A5, c5, _, by omega, by go_num, by rw [hok2.out]; rfl, by rw [hrs1.out]; exact hn.out.1, hn.out.2⟩, ?_⟩
        simp [intOf]; omega
    · obtain rfl : k = 16 := by omega
      have hlt' : ¬ ((16 : Nat) : Int) < 16 := by omega
      have hsz := hI.sz
      have hO := Own.of_row hL.own
      have hbn := hI.n
      have hbr := hI.res
      replace hL := Lib.hid hL
      replace hI := Lib.hid hI
      replace hO := Lib.hid hO
      go_wp2_with (first
        | (refine wpList_load_row rfl 29 _ rfl (w.heap.size + 1) rfl _ _ _ _ hbn Try.underlying29 rfl (by rw [nodRow_size rfl]; exact info_node) ?_)
        | (refine wpList_store_row rfl 29 _ _ rfl w.heap.size (nodRow 3 none 0 0 Av nv cv 0 Nd.z32 none 0 0 A' 16 c') rfl rfl _ _ hbr (by rw [nodRow_size rfl]; exact info_node) (by rw [nodRow_size rfl]; rfl) (nodRow_one _ _ _ _ _ _ _ _ _ _ _ _ _ _ _) ?_)
        | fail)
      refine bodyPost_ret (v := .tuple #[.agg (nodRow 3 none 0 0 Av nv cv 0 Nd.z32 none 0 0 A' 16 c'), .bool (!lz && (xs.take 16).all fun x => (Nd.refOf x).2)]) (results_row_tmp rfl _ _ w.heap.size _ (nodRow 3 none 0 0 Av nv cv 0 Nd.z32 none 0 0 A' 16 c') _ _ _ rfl rfl (hbr.row _) Try.underlying29 rfl (by rw [nodRow_size rfl]; exact info_node)) rfl ?_
      rw [hT.out]
      have hbF := below_row hI.out.bel (Nat.le_refl _) (nodRow 3 none 0 0 Av nv cv 0 Nd.z32 none 0 0 A' 16 c')
      refine ⟨hbF, _, rfl, none, 0, 0, Av, nv, cv, none, 0, 0, A', 16, c', vs', rfl, rfl, ⟨rfl, Nat.le_refl _, by unfold maxLen; omega, ⟨rfl, fun h => by omega⟩⟩,
        ⟨hnv.out, hcv, ‹cv ≤ maxLen›, hiv.out.move (fun q h1 h2 => ⟨.inl h1, hbF.block q h2⟩) hbF.size⟩, ⟨rfl, Nat.le_refl _, by unfold maxLen; omega, ⟨rfl, fun h => by omega⟩⟩,
        hL.out.len, hO.out.cap, hO.out.lim, (InS.of_own hO.out).move (fun q h1 h2 => ⟨.inr (by omega), setRow_other _ _ q _ (by omega)⟩) (by simp), ?_⟩
      refine hL.out.all.imp fun v x hx => hx.move (fun q h1 h2 => ?_) (by simp)
      have h3 : w.heap.size + 2 ≤ q := by rcases h1.1 with h | h; exact h.elim; exact h
      exact ⟨.inr (by omega), setRow_other _ _ q _ (by omega)⟩
end Go.Proofs.YtahaaeenbahknaaRRRR
