/-
  Texts of a proof, one behind the other: Law06e.
-/
import Derived.Test.YtioanppnkhiokaaNodedbClonesA4
/-
  The laws of chapter 06: NodedbClones.
-/
namespace Go.Proofs.Ytioanppnkhiokaa
open Go.RowKit

/-- two stores that bear on one another in nothing -/
structure TwoI6 (w : World) (R1 R2 : Nat) (most : Int) (L1 : List One) (S1 b1 : Nat) (A1 : Option Addr) (n1 c1 : Nat) (L2 : List One) (S2 b2 : Nat) (A2 : Option Addr) (n2 c2 : Nat) (W : World) : Prop where
  one : RunI w R1 most L1 S1 b1 A1 n1 c1 W
  two : RunI w R2 most L2 S2 b2 A2 n2 c2 W
  nb : b1 ≠ b2
  nR : R1 ≠ R2
section
variable {w W W' : World} {R R' R1 R2 : Nat} {most : Int} {L L' L1 L2 : List One} {S b S' b' S1 b1 S2 b2 : Nat} {A A' A1 A2 : Option Addr} {n c n' c' n1 c1 n2 c2 : Nat}
/-- another map turns -/
theorem RunI.aside (h : RunI w R most L S b A n c W) (hm : ∃ es clock, W.heap[b']? = some (.map es clock)) (hg : W.grownBy W' (some b')) (hb : w.heap.size ≤ b') (hne : b ≠ b') : RunI w R most L S b A n c W' := by
  obtain ⟨es, clock, hbm⟩ := hm
  have hS : S ≠ b' := by
    intro e
    have := h.st.cells
    unfold Blk at this
    rw [e, hbm] at this
    cases this
  have hR : R ≠ b' := by
    intro e
    have := h.r
    unfold Blk at this
    rw [e, hbm] at this
    cases this
  exact ⟨h.st.grown hg hS hne, h.ok, h.r.grown hg hR, (⟨h.rf.len, h.rf.cap, h.rf.lim, h.rf.ds, h.rf.rd.cells_ne hbm hg (Nat.le_refl _)⟩ : RefIs W' W.heap.size L A n c).more hg.size, below_grown h.bel hg hb h.bel.size, h.lo⟩
/-- another reference's row is written -/
theorem RunI.row_aside (h : RunI w R most L S b A n c W) {cs : Array Value} (hr : Blk W R' 45 cs) (hcs : cs.size = 2) (hne : R ≠ R') (hR' : w.heap.size ≤ R') (row : Array Value) : RunI w R most L S b A n c (W.setRow R' row) := by
  have hS : S ≠ R' := by
    intro e
    have h1 := h.st.cells
    unfold Blk at h1 hr
    rw [e, hr] at h1
    simp at h1
  have hb : b ≠ R' := by
    intro e
    obtain ⟨es, clock, h1, _⟩ := h.st.map.ex
    unfold Blk at hr
    rw [e, hr] at h1
    cases h1
  exact ⟨⟨h.st.cells.row_far _ hS, h.st.map.of_block (setRow_other _ _ _ _ hb), h.st.ne⟩, h.ok, h.r.row_far _ hne, (h.rf.far hr (by omega) _).more (by simp), below_row h.bel hR' _, h.lo⟩
theorem TwoI6.swap (h : TwoI6 w R1 R2 most L1 S1 b1 A1 n1 c1 L2 S2 b2 A2 n2 c2 W) : TwoI6 w R2 R1 most L2 S2 b2 A2 n2 c2 L1 S1 b1 A1 n1 c1 W := ⟨h.two, h.one, Ne.symm h.nb, Ne.symm h.nR⟩
theorem TwoI6.step (h : TwoI6 w R1 R2 most L1 S1 b1 A1 n1 c1 L2 S2 b2 A2 n2 c2 W) (hb : Below W.heap.size W W') : TwoI6 w R1 R2 most L1 S1 b1 A1 n1 c1 L2 S2 b2 A2 n2 c2 W' := ⟨h.one.step hb, h.two.step hb, h.nb, h.nR⟩
theorem TwoI6.called (h : TwoI6 w R1 R2 most L1 S1 b1 A1 n1 c1 L2 S2 b2 A2 n2 c2 W) (hst : StoreIs W' S1 b1 most (asc L')) (hok : OkL L') (hr : RefIs W' W'.heap.size L' A' n' c') (hg : W.grownBy W' (some b1)) :
    Blk W' R1 45 #[.int .i64 most, .slice A1 n1 c1] ∧ TwoI6 w R1 R2 most L' S1 b1 A' n' c' L2 S2 b2 A2 n2 c2 (W'.setRow R1 #[.int .i64 most, .slice A' n' c']) := by
  obtain ⟨hr1, h1⟩ := h.one.called hst hok hr hg
  obtain ⟨es, clock, hb, _⟩ := h.one.st.map.ex
  have h2 := h.two.aside ⟨es, clock, hb⟩ hg h.one.lo.2.1 (Ne.symm h.nb)
  exact ⟨hr1, h1, h2.row_aside hr1 rfl (Ne.symm h.nR) h.one.lo.2.2 _, h.nb, h.nR⟩
end
/-- what a drawn round reads -/
structure WayI (w : World) (R : Nat) (most : Int) (A : Option Addr) (n c : Nat) (ways : Array Value) (W : World) : Prop where
  r : Blk W R 45 #[.int .i64 most, .slice A n c]
  ways : Blk W w.heap.size 65 ways
  bel : Below w.heap.size w W
set_option maxRecDepth 100000 in
set_option maxHeartbeats 4000000 in
theorem law_NodedbClones (most : Int) (xs ys zs : List OpC) (A Ay Az : Option Addr) (n c ny cy nz cz : Nat) (w : World) (h : OpsIn w w.heap.size xs A n c) (hy : OpsIn w w.heap.size ys Ay ny cy) (hz : OpsIn w w.heap.size zs Az nz cz) (hlim : n ≤ 1048576) (hlimy : ny ≤ 1048576) (hlimz : nz ≤ 1048576) :
    Calls Try.prog 8 #[.int .i64 most, .agg #[.slice A n c, .slice Ay ny cy, .slice Az nz cz]] w (PostT w) := by
  have hn63 : (n : Int) ≤ 9223372036854775807 := by omega
  have hny63 : (ny : Int) ≤ 9223372036854775807 := by omega
  have hnz63 : (nz : Int) ≤ 9223372036854775807 := by omega
  have hlen := Lib.hid h.len
  replace hlim := Lib.hid hlim
  replace h := Lib.hid h
  have hleny := Lib.hid hy.len
  have hlenz := Lib.hid hz.len
  replace hy := Lib.hid hy
  replace hz := Lib.hid hz
  replace hlimy := Lib.hid hlimy
  replace hlimz := Lib.hid hlimz
  have hW0 := Lib.hid (show Blk (w.alloc (.cells #[.slice A n c, .slice Ay ny cy, .slice Az nz cz] 65)) w.heap.size 65 #[.slice A n c, .slice Ay ny cy, .slice Az nz cz] from Blk.new _ _ _)
  go_enter Try.func8, Try.ntmps8
  go_wp2_with fail
  refine (law_begun most _).mono ?_
  rintro e w1 ⟨S, b, rfl, hb0', hSb, hst, hb1'⟩
  have hb0 : w.heap.size ≤ b := by simp at hb0'; omega
  have hb1 : Below w.heap.size w w1 := ((Below.refl w.heap.size w).alloc (Nat.le_refl _) _).trans (hb1'.mono (by simp))
  replace hW0 := Lib.hid (hW0.out.below hb1' (by simp))
  clear hb0' hb1'
  replace hst := Lib.hid hst
  replace hb1 := Lib.hid hb1
  go_upto_region 5 with (refine wpList_store_row rfl 45 _ _ rfl w1.heap.size #[.int .i64 most, .slice none 0 0] rfl rfl _ _ (Blk.new w1 _ _) info_sto rfl (sto_one _ _ _ _) ?_)
  refine code_at (fun W => RunI w w1.heap.size most [] S b none 0 0 W ∧ Blk W w.heap.size 65 #[.slice A n c, .slice Ay ny cy, .slice Az nz cz]) ?_ ?_
  · have hb3 := below_row ((Below.refl w1.heap.size w1).alloc (Nat.le_refl _) (.cells #[.int .i64 0, .slice none 0 0] 45)) (Nat.le_refl _) #[.int .i64 most, .slice none 0 0]
    exact ⟨⟨hst.out.step hb3, OkL.nil, (Blk.new w1 _ _).row _, RefIs.nil _ _, hb1.out.trans (hb3.mono hb1.out.size), ⟨by omega, by omega, hb1.out.size⟩⟩, hW0.out.below hb3 hW0.out.lt⟩
  clear hst hb1 hW0
  generalize w1.heap.size = R
  rintro w2 ⟨hi, hwy⟩
  have cw0 : w2.cell? ⟨w.heap.size, 0, none⟩ = some (.slice A n c) := hwy.cell 0
  replace hi := Lib.hid hi
  replace hwy := Lib.hid hwy
  go_wp2_with fail
  clear cw0
  replace hi := hi.out
  replace hwy := hwy.out
  go_loopw [6, 9, 25] (fun ov tv iv wr => ∃ (k : Nat) (L : List One) (A' : Option Addr) (n' c' : Nat), k ≤ n ∧ iv = .int .i64 k ∧ ov = .bool true ∧ L.length ≤ k ∧ RunI w R most L S b A' n' c' wr ∧ Blk wr w.heap.size 65 #[.slice A n c, .slice Ay ny cy, .slice Az nz cz]) (fun _ _ iv _ => n - (intOf iv).toNat)
  case atStart => exact ⟨0, [], none, 0, 0, Nat.zero_le _, rfl, rfl, Nat.le_refl _, hi, hwy⟩
  case round =>
    clear hi hwy
    obtain ⟨k, L, A', n', c', hk, rfl, rfl, hLk, hi, hwy⟩ := hrel
    have hnL := Lib.hid hi.rf.len
    by_cases hlt : k < n
    · have hlt' : (k : Int) < n := by omega
      have hkx : k < xs.length := by have := hlen.out; omega
      obtain ⟨g, o, hA, hg, hr⟩ := (h.out.below hi.bel).row k hkx
      subst hA
      have hop := h.out.ok _ (List.getElem_mem hkx)
      generalize xs[k] = x at *
      have hxs := opArr_size hop.1
      have hxl := opRow_length hop.1
      replace hop := Lib.hid hop
      replace hr := Lib.hid hr
      replace hi := Lib.hid hi
      go_upto_region 8 with (first
        | (refine wpList_mid_g (by rfl) 54 _ rfl g (o + k * 35) rfl (opRow x) _ hr.out Try.underlying54 rfl (by rw [hxl]; exact info_opc) ?_)
        | (refine wpList_store_row rfl 54 _ _ rfl wr.heap.size (opArr x) rfl rfl _ _ (Blk.new wr _ _) (by rw [hxs]; exact info_opc) (by rw [hxs]; rfl) (opArr_one _) ?_))
      refine code_at (fun W => RunI w R most L S b A' n' c' W ∧ Blk W wr.heap.size 54 (opArr x) ∧ Blk W w.heap.size 65 #[.slice (some ⟨g, o, none⟩) n c, .slice Ay ny cy, .slice Az nz cz]) ⟨?_, (Blk.new wr _ _).row _, ?_⟩ ?_
      · exact hi.out.step (below_row ((Below.refl wr.heap.size wr).alloc (Nat.le_refl _) _) (Nat.le_refl _) _)
      · exact hwy.below (below_row ((Below.refl wr.heap.size wr).alloc (Nat.le_refl _) _) (Nat.le_refl _) _) hwy.lt
      clear hi hr hwy
      generalize wr.heap.size = T
      rintro w3 ⟨hi, hx9, hwy⟩
      replace hwy := Lib.hid hwy
      have c0 := hx9.op_k
      replace hi := Lib.hid hi
      replace hx9 := Lib.hid hx9
      have cC := Lib.hid (law06_step S b most L A' n' c' x w3 hi.out.st hi.out.ok hi.out.rf hop.out (by have := hlim.out; have := hnL.out; omega))
      have hr0 := Lib.hid hi.out.r
      go_wp2_with (first
        | (refine wpList_load_row rfl 45 _ rfl R rfl _ #[.int .i64 most, .slice A' n' c'] _ _ hr0.out Try.underlying45 rfl info_sto ?_)
        | (refine wpList_load_row rfl 54 _ rfl T rfl _ (opArr x) _ _ hx9.out Try.underlying54 rfl (by rw [hxs]; exact info_opc) ?_))
      refine cC.out.mono ?_
      rintro e w4 ⟨A2, n2, c2, rfl, hst2, hr2, hg4⟩
      have hcl := hi.out.called hst2 (okL_step hi.out.ok most hop.out) hr2 hg4
      have hr3 := Lib.hid hcl.1
      have hi3 := Lib.hid hcl.2
      have hl3 := stepL_length L most x
      have hwy3 := Lib.hid (show Blk (w4.setRow R #[.int .i64 most, .slice A2 n2 c2]) w.heap.size 65 #[.slice (some ⟨g, o, none⟩) n c, .slice Ay ny cy, .slice Az nz cz] from by
        have h1 : Blk w4 w.heap.size 65 #[.slice (some ⟨g, o, none⟩) n c, .slice Ay ny cy, .slice Az nz cz] := hwy.out.grown hg4 (fun e => by
          obtain ⟨es, clock, hb, _⟩ := hi.out.st.map.ex
          have := hwy.out
          unfold Blk at this
          rw [e, hb] at this
          cases this)
        exact h1.row_far _ (fun e => by
          have h2 := hcl.1
          unfold Blk at h1 h2
          rw [e, h2] at h1
          simp at h1))
      clear hi cC hst2 hr2 hg4 c0 hx9 hr0 hcl hwy
      replace hl3 := Lib.hid hl3
      go_wp2_with (refine wpList_store_row rfl 45 _ _ rfl R #[.int .i64 most, .slice A2 n2 c2] rfl rfl _ _ hr3.out info_sto rfl (sto_one _ _ _ _) ?_)
      exact ⟨⟨k + 1, _, A2, n2, c2, by omega, by go_num, rfl, by have := hl3.out; omega, hi3.out, hwy3.out⟩, by simp [intOf]; omega⟩
    · obtain rfl : n = k := by omega
      have hlt' : ¬ (n : Int) < n := by omega
      replace hi := Lib.hid hi
      replace hwy := Lib.hid hwy
      go_wp2_with fail
      refine (db_Clone S b most (asc L) wr hi.out.st).mono ?_
      rintro e w4 ⟨S2, b2, rfl, hb2, hbS2, hst4, hbl4⟩
      have hord := Lib.hid (show w.heap.size ≤ S2 ∧ w.heap.size ≤ b2 ∧ b ≠ b2 from by
        have h1 := hi.out.bel.size
        obtain ⟨es, clock, h2, _⟩ := hi.out.st.map.ex
        have h3 : b < wr.heap.size := by
          rcases Nat.lt_or_ge b wr.heap.size with h | h
          · exact h
          · rw [Array.getElem?_eq_none h] at h2; cases h2
        exact ⟨by omega, by omega, by omega⟩)
      have hi4 := Lib.hid (hi.out.step hbl4)
      have hwy4 := Lib.hid (hwy.out.below hbl4 hwy.out.lt)
      replace hst4 := Lib.hid hst4
      clear hi hwy hb2 hbS2 hbl4
      have hr0 := Lib.hid hi4.out.r
      go_upto_region 16 with (first
        | (refine wpList_load_row rfl 45 _ rfl R rfl _ #[.int .i64 most, .slice A' n' c'] _ _ hr0.out Try.underlying45 rfl info_sto ?_)
        | (refine wpList_store_row rfl 45 _ _ rfl w4.heap.size #[.int .i64 most, .slice A' n' c'] rfl rfl _ _ (Blk.new w4 _ _) info_sto rfl (sto_one _ _ _ _) ?_))
      refine code_at (fun W => TwoI6 w R w4.heap.size most L S b A' n' c' L S2 b2 A' n' c' W ∧ Blk W w.heap.size 65 #[.slice A n c, .slice Ay ny cy, .slice Az nz cz]) ?_ ?_
      · skip
        have hb3 := below_row ((Below.refl w4.heap.size w4).alloc (Nat.le_refl _) (.cells #[.int .i64 0, .slice none 0 0] 45)) (Nat.le_refl _) #[.int .i64 most, .slice A' n' c']
        have hi5 := hi4.out.step hb3
        refine ⟨⟨hi5, ⟨hst4.out.step hb3, hi4.out.ok, (Blk.new w4 _ _).row _, (hi4.out.rf.below hb3).more hb3.size, hi5.bel, ⟨?_, ?_, hi4.out.bel.size⟩⟩, ?_, ?_⟩, hwy4.out.below hb3 hwy4.out.lt⟩
        · have := hord.out; omega
        · have := hord.out; omega
        · have := hord.out; omega
        · have := hi4.out.r.lt; omega
      clear hi4 hwy4 hst4 hord hr0
      generalize w4.heap.size = R2
      rintro w5 ⟨hT, hwy⟩
      replace hT := Lib.hid hT
      replace hwy := Lib.hid hwy
      go_wp2_with fail
      replace hT := hT.out
      replace hwy := hwy.out
      have hLn := Lib.hid hLk
      clear hLk hnL hlt hlt'
      go_loopw [6, 12] (fun ov iv wv => ∃ (i : Nat) (L1 : List One) (A1 : Option Addr) (n1 c1 : Nat) (L2 : List One) (A2 : Option Addr) (n2 c2 : Nat), i ≤ max ny nz ∧ iv = .int .i64 i ∧ ov = .bool true ∧ L1.length ≤ n + i ∧ L2.length ≤ n + i ∧ TwoI6 w R R2 most L1 S b A1 n1 c1 L2 S2 b2 A2 n2 c2 wv ∧ Blk wv w.heap.size 65 #[.slice A n c, .slice Ay ny cy, .slice Az nz cz]) (fun _ iv _ => max ny nz - (intOf iv).toNat)
      case atStart => exact ⟨0, L, A', n', c', L, A', n', c', Nat.zero_le _, rfl, rfl, hLn.out, hLn.out, hT, hwy⟩
      case round =>
        clear hT hwy
        obtain ⟨i, L1, A1, n1, c1, L2, A2, n2, c2, hi, rfl, rfl, hl1, hl2, hT, hwy⟩ := hrel
        clear hLn
        have hn1 := Lib.hid hT.one.rf.len
        have hn2 := Lib.hid hT.two.rf.len
        replace hi := Lib.hid hi
        replace hl1 := Lib.hid hl1
        replace hl2 := Lib.hid hl2
        have cw1 : wr.cell? ⟨w.heap.size, 1, none⟩ = some (.slice Ay ny cy) := hwy.cell 1
        have cw2 : wr.cell? ⟨w.heap.size, 2, none⟩ = some (.slice Az nz cz) := hwy.cell 2
        replace hT := Lib.hid hT
        replace hwy := Lib.hid hwy
        by_cases hiy : i < ny
        · have hiy' : (i : Int) < ny := by omega
          have hk1 : i < ys.length := by have := hleny.out; omega
          obtain ⟨gy, oy, hAy, hgy, hry⟩ := hy.out.row i hk1
          subst hAy
          have hoy := Lib.hid (hy.out.ok _ (List.getElem_mem hk1))
          generalize ys[i] = xy at *
          have hsy := opArr_size hoy.out.1
          have hty := opRow_length hoy.out.1
          replace hry := Lib.hid (show ∀ W, Below w.heap.size w W → W.rangeAt gy (oy + i * 35) (opRow xy) from fun W hb j v hv => (hb.cell (p := ⟨gy, oy + i * 35 + j, none⟩) hgy).trans (hry j v hv))
          go_wp2_with fail
          clear cw1 cw2
          refine wp_region_M (M := [11]) (S := (WayI w R most A1 n1 c1 #[.slice A n c, .slice (some ⟨gy, oy, none⟩) ny cy, .slice Az nz cz])) (by kernel_rfl) (by exact ⟨hT.out.one.r.drew, hwy.out.drew, hT.out.one.bel.drew⟩) (fun hS => ?_)
          have hTd := Lib.hid (hT.out.step (Below.refl _ _).drew)
          (refine mPure (i := 0) (v := ?v1) rfl (by kernel_rfl) (fun _ _ _ h => h) (Or.inl ⟨by rfl, ?y1⟩) (.inr hS) ?r1; (case y1 => (intro W hW; clear hW; go_simp; (try with_reducible rfl); done)); try simp only [Act.put, List.setIfInBounds_toArray, List.set_cons_zero, List.set_cons_succ])
          (refine mTake (i := 1) rfl (by kernel_rfl) (fun _ _ _ h => h) (yieldsIf_load_mid (by rfl) _ _ rfl _ _ rfl [.int .i64 most, .slice A1 n1 c1] _ (fun W hW => (hW.r.rangeL)) Try.underlying45 rfl info_sto) hS ?_; try simp only [Act.put, List.setIfInBounds_toArray, List.set_cons_zero, List.set_cons_succ])
          (refine mPure (i := 2) (v := ?v2) rfl (by kernel_rfl) (fun _ _ _ h => h) (Or.inl ⟨by rfl, ?y2⟩) (.inr hS) ?r2; (case y2 => (intro W hW; clear hW; go_simp; (try with_reducible rfl); done)); try simp only [Act.put, List.setIfInBounds_toArray, List.set_cons_zero, List.set_cons_succ])
          (refine mTake (i := 3) (v := ?v3) rfl (by kernel_rfl) (fun _ _ _ h => h) (Or.inl ⟨by rfl, ?y3⟩) hS ?r3; (case y3 => (intro W hW; ((have g1 := hW.ways.cell 1; simp at g1; go_simp)); (try with_reducible rfl); done)); try simp only [Act.put, List.setIfInBounds_toArray, List.set_cons_zero, List.set_cons_succ])
          (refine mPure (i := 4) (v := ?v4) rfl (by kernel_rfl) (fun _ _ _ h => h) (Or.inl ⟨by rfl, ?y4⟩) (.inr hS) ?r4; (case y4 => (intro W hW; clear hW; go_simp; (try with_reducible rfl); done)); try simp only [Act.put, List.setIfInBounds_toArray, List.set_cons_zero, List.set_cons_succ])
          (refine mPure (i := 5) (v := ?v5) rfl (by kernel_rfl) (fun _ _ _ h => h) (Or.inl ⟨by rfl, ?y5⟩) (.inr hS) ?r5; (case y5 => (intro W hW; clear hW; go_simp; (try with_reducible rfl); done)); try simp only [Act.put, List.setIfInBounds_toArray, List.set_cons_zero, List.set_cons_succ])
          (refine mTake (i := 6) rfl (by kernel_rfl) (fun _ _ _ h => h) (yieldsIf_load_mid (by rfl) _ _ rfl _ _ rfl (opRow xy) _ (fun W hW => (hry.out W hW.bel)) Try.underlying54 rfl (by rw [hty]; exact info_opc)) hS ?_; try simp only [Act.put, List.setIfInBounds_toArray, List.set_cons_zero, List.set_cons_succ])
          (refine mOne (i := 7) rfl (by kernel_rfl) (fun K hK => ?_))
          rw [if_pos (by rfl)]
          go_simp
          refine (law06_step S b most L1 A1 n1 c1 xy _ hTd.out.one.st hTd.out.one.ok hTd.out.one.rf hoy.out (by have := hlim.out; have := hn1.out; have := hl1.out; have := hi.out; have := hlimy.out; have := hlimz.out; omega)).mono ?_
          rintro e w6 ⟨A6, n6, c6, rfl, hst6, hr6, hg6⟩
          have hcl := hTd.out.called hst6 (okL_step hTd.out.one.ok most hoy.out) hr6 hg6
          have hwy6 : Blk w6 w.heap.size 65 #[.slice A n c, .slice (some ⟨gy, oy, none⟩) ny cy, .slice Az nz cz] := hwy.out.drew.grown hg6 (fun e => by
            obtain ⟨es, clock, hb, _⟩ := hTd.out.one.st.map.ex
            have := hwy.out.drew
            unfold Blk at this
            rw [e, hb] at this
            cases this)
          have hS6 : WayI w R most A1 n1 c1 #[.slice A n c, .slice (some ⟨gy, oy, none⟩) ny cy, .slice Az nz cz] w6 := ⟨hcl.1, hwy6, below_grown hTd.out.one.bel hg6 hTd.out.one.lo.2.1 hTd.out.one.bel.size⟩
          have hr60 := hcl.1
          have hT6 := Lib.hid hcl.2
          have hwy7 : Blk (w6.setRow R #[.int .i64 most, .slice A6 n6 c6]) w.heap.size 65 #[.slice A n c, .slice (some ⟨gy, oy, none⟩) ny cy, .slice Az nz cz] := hwy6.row_far _ (fun e => by
            unfold Blk at hwy6 hr60
            rw [e, hr60] at hwy6
            simp at hwy6)
          replace hwy7 := Lib.hid hwy7
          have hn6 := Lib.hid hr6.len
          clear hcl hwy6 hst6 hr6 hg6 hT hwy hTd
          go_wp2_with fail
          (have hS := (by exact hS6); refine hK.out _ _ (.inr hS) ?_; clear hK K; try simp only [Act.put, List.setIfInBounds_toArray, List.set_cons_zero, List.set_cons_succ])
          clear hS6
          (refine mPure (i := 8) (v := ?v6) rfl (by kernel_rfl) (fun _ _ _ h => h) (Or.inl ⟨by rfl, ?y6⟩) (.inr hS) ?r6; (case y6 => (intro W hW; clear hW; go_simp; (try with_reducible rfl); done)); try simp only [Act.put, List.setIfInBounds_toArray, List.set_cons_zero, List.set_cons_succ])
          (refine mPure (i := 9) (v := ?v7) rfl (by kernel_rfl) (fun _ _ _ h => h) (Or.inl ⟨by rfl, ?y7⟩) (.inr hS) ?r7; (case y7 => (intro W hW; clear hW; go_simp; (try with_reducible rfl); done)); try simp only [Act.put, List.setIfInBounds_toArray, List.set_cons_zero, List.set_cons_succ])
          (refine mPure (i := 10) (v := ?v8) rfl (by kernel_rfl) (fun _ _ _ h => h) (Or.inl ⟨by rfl, ?y8⟩) (.inr hS) ?r8; (case y8 => (intro W hW; clear hW; go_simp; (try with_reducible rfl); done)); try simp only [Act.put, List.setIfInBounds_toArray, List.set_cons_zero, List.set_cons_succ])
          (refine mOne (i := 11) rfl (by kernel_rfl) (fun K hK => ?_))
          rw [if_pos (by rfl)]
          refine wp_store_row 45 _ _ rfl R #[.int .i64 most, .slice A6 n6 c6] rfl rfl _ _ hr60 info_sto rfl (sto_one _ _ _ _) ?_
          (refine hK.out _ _ (.inl ⟨11, by simp, by kernel_rfl⟩) ?_; clear hK K; try simp only [Act.put, List.setIfInBounds_toArray, List.set_cons_zero, List.set_cons_succ])
          (refine mOne (i := 12) rfl (by kernel_rfl) (fun K hK => ?_))
          rw [if_pos (by rfl)]
          go_simp
          (refine hK.out _ _ (.inl ⟨11, by simp, by kernel_rfl⟩) ?_; clear hK K; try simp only [Act.put, List.setIfInBounds_toArray, List.set_cons_zero, List.set_cons_succ])
          refine wpAnyM_done (by kernel_rfl) ?_ _
          clear hS hr60 hry
          have hl6 := Lib.hid (stepL_length L1 most xy)

          go_upto_region 23 with fail
          refine code_at (fun W => TwoI6 w R R2 most (stepL L1 most xy) S b A6 n6 c6 L2 S2 b2 A2 n2 c2 W ∧ Blk W w.heap.size 65 #[.slice A n c, .slice (some ⟨gy, oy, none⟩) ny cy, .slice Az nz cz]) ⟨hT6.out, hwy7.out⟩ ?_
          clear hT6 hwy7
          have hl3 := Lib.hid (show (stepL L1 most xy).length ≤ n + (i + 1) from by have := hl6.out; have := hl1.out; omega)
          clear hl6 hl1 hn1
          generalize stepL L1 most xy = L1 at *
          have hn1 := hn6
          clear hn6
          have hl1 := hl3
          clear hl3
          rintro w7 ⟨hT, hwy⟩
          have cw2 : w7.cell? ⟨w.heap.size, 2, none⟩ = some (.slice Az nz cz) := hwy.cell 2
          replace hT := Lib.hid hT
          replace hwy := Lib.hid hwy
          by_cases hiz : i < nz
          · have hiz' : (i : Int) < nz := by omega
            have hk2 : i < zs.length := by have := hlenz.out; omega
            obtain ⟨gz, oz, hAz, hgz, hrz⟩ := hz.out.row i hk2
            subst hAz
            have hoz := Lib.hid (hz.out.ok _ (List.getElem_mem hk2))
            generalize zs[i] = xz at *
            have hsz := opArr_size hoz.out.1
            have htz := opRow_length hoz.out.1
            replace hrz := Lib.hid (show ∀ W, Below w.heap.size w W → W.rangeAt gz (oz + i * 35) (opRow xz) from fun W hb j v hv => (hb.cell (p := ⟨gz, oz + i * 35 + j, none⟩) hgz).trans (hrz j v hv))
            go_wp2_with fail
            clear cw2
            refine wp_region_M (M := [11]) (S := (WayI w R2 most A2 n2 c2 #[.slice A n c, .slice (some ⟨gy, oy, none⟩) ny cy, .slice (some ⟨gz, oz, none⟩) nz cz])) (by kernel_rfl) (by exact ⟨hT.out.two.r.drew, hwy.out.drew, hT.out.two.bel.drew⟩) (fun hS => ?_)
            have hTd := Lib.hid (hT.out.step (Below.refl _ _).drew)
            (refine mPure (i := 0) (v := ?v9) rfl (by kernel_rfl) (fun _ _ _ h => h) (Or.inl ⟨by rfl, ?y9⟩) (.inr hS) ?r9; (case y9 => (intro W hW; clear hW; go_simp; (try with_reducible rfl); done)); try simp only [Act.put, List.setIfInBounds_toArray, List.set_cons_zero, List.set_cons_succ])
            (refine mTake (i := 1) rfl (by kernel_rfl) (fun _ _ _ h => h) (yieldsIf_load_mid (by rfl) _ _ rfl _ _ rfl [.int .i64 most, .slice A2 n2 c2] _ (fun W hW => (hW.r.rangeL)) Try.underlying45 rfl info_sto) hS ?_; try simp only [Act.put, List.setIfInBounds_toArray, List.set_cons_zero, List.set_cons_succ])
            (refine mPure (i := 2) (v := ?v10) rfl (by kernel_rfl) (fun _ _ _ h => h) (Or.inl ⟨by rfl, ?y10⟩) (.inr hS) ?r10; (case y10 => (intro W hW; clear hW; go_simp; (try with_reducible rfl); done)); try simp only [Act.put, List.setIfInBounds_toArray, List.set_cons_zero, List.set_cons_succ])
            (refine mTake (i := 3) (v := ?v11) rfl (by kernel_rfl) (fun _ _ _ h => h) (Or.inl ⟨by rfl, ?y11⟩) hS ?r11; (case y11 => (intro W hW; ((have g1 := hW.ways.cell 2; simp at g1; go_simp)); (try with_reducible rfl); done)); try simp only [Act.put, List.setIfInBounds_toArray, List.set_cons_zero, List.set_cons_succ])
            (refine mPure (i := 4) (v := ?v12) rfl (by kernel_rfl) (fun _ _ _ h => h) (Or.inl ⟨by rfl, ?y12⟩) (.inr hS) ?r12; (case y12 => (intro W hW; clear hW; go_simp; (try with_reducible rfl); done)); try simp only [Act.put, List.setIfInBounds_toArray, List.set_cons_zero, List.set_cons_succ])
            (refine mPure (i := 5) (v := ?v13) rfl (by kernel_rfl) (fun _ _ _ h => h) (Or.inl ⟨by rfl, ?y13⟩) (.inr hS) ?r13; (case y13 => (intro W hW; clear hW; go_simp; (try with_reducible rfl); done)); try simp only [Act.put, List.setIfInBounds_toArray, List.set_cons_zero, List.set_cons_succ])
            (refine mTake (i := 6) rfl (by kernel_rfl) (fun _ _ _ h => h) (yieldsIf_load_mid (by rfl) _ _ rfl _ _ rfl (opRow xz) _ (fun W hW => (hrz.out W hW.bel)) Try.underlying54 rfl (by rw [htz]; exact info_opc)) hS ?_; try simp only [Act.put, List.setIfInBounds_toArray, List.set_cons_zero, List.set_cons_succ])
            (refine mOne (i := 7) rfl (by kernel_rfl) (fun K hK => ?_))
            rw [if_pos (by rfl)]
            go_simp
            refine (law06_step S2 b2 most L2 A2 n2 c2 xz _ hTd.out.two.st hTd.out.two.ok hTd.out.two.rf hoz.out (by have := hlim.out; have := hn2.out; have := hl2.out; have := hi.out; have := hlimy.out; have := hlimz.out; omega)).mono ?_
            rintro e w6 ⟨A8, n8, c8, rfl, hst6, hr6, hg6⟩
            have hcl := hTd.out.swap.called hst6 (okL_step hTd.out.two.ok most hoz.out) hr6 hg6
            have hwy6 : Blk w6 w.heap.size 65 #[.slice A n c, .slice (some ⟨gy, oy, none⟩) ny cy, .slice (some ⟨gz, oz, none⟩) nz cz] := hwy.out.drew.grown hg6 (fun e => by
              obtain ⟨es, clock, hb, _⟩ := hTd.out.two.st.map.ex
              have := hwy.out.drew
              unfold Blk at this
              rw [e, hb] at this
              cases this)
            have hS6 : WayI w R2 most A2 n2 c2 #[.slice A n c, .slice (some ⟨gy, oy, none⟩) ny cy, .slice (some ⟨gz, oz, none⟩) nz cz] w6 := ⟨hcl.1, hwy6, below_grown hTd.out.two.bel hg6 hTd.out.two.lo.2.1 hTd.out.two.bel.size⟩
            have hr60 := hcl.1
            have hT6 := Lib.hid hcl.2.swap
            have hwy7 : Blk (w6.setRow R2 #[.int .i64 most, .slice A8 n8 c8]) w.heap.size 65 #[.slice A n c, .slice (some ⟨gy, oy, none⟩) ny cy, .slice (some ⟨gz, oz, none⟩) nz cz] := hwy6.row_far _ (fun e => by
              unfold Blk at hwy6 hr60
              rw [e, hr60] at hwy6
              simp at hwy6)
            replace hwy7 := Lib.hid hwy7
            have hn6 := Lib.hid hr6.len
            clear hcl hwy6 hst6 hr6 hg6 hT hwy hTd
            go_wp2_with fail
            (have hS := (by exact hS6); refine hK.out _ _ (.inr hS) ?_; clear hK K; try simp only [Act.put, List.setIfInBounds_toArray, List.set_cons_zero, List.set_cons_succ])
            clear hS6
            (refine mPure (i := 8) (v := ?v14) rfl (by kernel_rfl) (fun _ _ _ h => h) (Or.inl ⟨by rfl, ?y14⟩) (.inr hS) ?r14; (case y14 => (intro W hW; clear hW; go_simp; (try with_reducible rfl); done)); try simp only [Act.put, List.setIfInBounds_toArray, List.set_cons_zero, List.set_cons_succ])
            (refine mPure (i := 9) (v := ?v15) rfl (by kernel_rfl) (fun _ _ _ h => h) (Or.inl ⟨by rfl, ?y15⟩) (.inr hS) ?r15; (case y15 => (intro W hW; clear hW; go_simp; (try with_reducible rfl); done)); try simp only [Act.put, List.setIfInBounds_toArray, List.set_cons_zero, List.set_cons_succ])
            (refine mPure (i := 10) (v := ?v16) rfl (by kernel_rfl) (fun _ _ _ h => h) (Or.inl ⟨by rfl, ?y16⟩) (.inr hS) ?r16; (case y16 => (intro W hW; clear hW; go_simp; (try with_reducible rfl); done)); try simp only [Act.put, List.setIfInBounds_toArray, List.set_cons_zero, List.set_cons_succ])
            (refine mOne (i := 11) rfl (by kernel_rfl) (fun K hK => ?_))
            rw [if_pos (by rfl)]
            refine wp_store_row 45 _ _ rfl R2 #[.int .i64 most, .slice A8 n8 c8] rfl rfl _ _ hr60 info_sto rfl (sto_one _ _ _ _) ?_
            (refine hK.out _ _ (.inl ⟨11, by simp, by kernel_rfl⟩) ?_; clear hK K; try simp only [Act.put, List.setIfInBounds_toArray, List.set_cons_zero, List.set_cons_succ])
            (refine mOne (i := 12) rfl (by kernel_rfl) (fun K hK => ?_))
            rw [if_pos (by rfl)]
            go_simp
            (refine hK.out _ _ (.inl ⟨11, by simp, by kernel_rfl⟩) ?_; clear hK K; try simp only [Act.put, List.setIfInBounds_toArray, List.set_cons_zero, List.set_cons_succ])
            refine wpAnyM_done (by kernel_rfl) ?_ _
            clear hS hr60 hrz
            have hl6 := Lib.hid (stepL_length L2 most xz)

            go_wp2_with fail
            exact ⟨⟨i + 1, L1, _, _, _, _, A8, n8, c8, by have := hi.out; omega, by go_num, rfl, by have := hl1.out; omega, by have := hl6.out; have := hl2.out; omega, hT6.out, hwy7.out⟩, by simp [intOf]; omega⟩
          · have hiz' : ¬ (i : Int) < nz := by omega
            go_wp2_with fail
            exact ⟨⟨i + 1, _, _, _, _, L2, A2, n2, c2, by omega, by go_num, rfl, by have := hl1.out; omega, by have := hl2.out; omega, hT.out, hwy.out⟩, by simp [intOf]; omega⟩
        · have hiy' : ¬ (i : Int) < ny := by omega
          by_cases hiz : i < nz
          · have hiz' : (i : Int) < nz := by omega
            have hk2 : i < zs.length := by have := hlenz.out; omega
            obtain ⟨gz, oz, hAz, hgz, hrz⟩ := hz.out.row i hk2
            subst hAz
            have hoz := Lib.hid (hz.out.ok _ (List.getElem_mem hk2))
            generalize zs[i] = xz at *
            have hsz := opArr_size hoz.out.1
            have htz := opRow_length hoz.out.1
            replace hrz := Lib.hid (show ∀ W, Below w.heap.size w W → W.rangeAt gz (oz + i * 35) (opRow xz) from fun W hb j v hv => (hb.cell (p := ⟨gz, oz + i * 35 + j, none⟩) hgz).trans (hrz j v hv))
            go_wp2_with fail
            clear cw1 cw2
            refine wp_region_M (M := [11]) (S := (WayI w R2 most A2 n2 c2 #[.slice A n c, .slice Ay ny cy, .slice (some ⟨gz, oz, none⟩) nz cz])) (by kernel_rfl) (by exact ⟨hT.out.two.r.drew, hwy.out.drew, hT.out.two.bel.drew⟩) (fun hS => ?_)
            have hTd := Lib.hid (hT.out.step (Below.refl _ _).drew)
            (refine mPure (i := 0) (v := ?v17) rfl (by kernel_rfl) (fun _ _ _ h => h) (Or.inl ⟨by rfl, ?y17⟩) (.inr hS) ?r17; (case y17 => (intro W hW; clear hW; go_simp; (try with_reducible rfl); done)); try simp only [Act.put, List.setIfInBounds_toArray, List.set_cons_zero, List.set_cons_succ])
            (refine mTake (i := 1) rfl (by kernel_rfl) (fun _ _ _ h => h) (yieldsIf_load_mid (by rfl) _ _ rfl _ _ rfl [.int .i64 most, .slice A2 n2 c2] _ (fun W hW => (hW.r.rangeL)) Try.underlying45 rfl info_sto) hS ?_; try simp only [Act.put, List.setIfInBounds_toArray, List.set_cons_zero, List.set_cons_succ])
            (refine mPure (i := 2) (v := ?v18) rfl (by kernel_rfl) (fun _ _ _ h => h) (Or.inl ⟨by rfl, ?y18⟩) (.inr hS) ?r18; (case y18 => (intro W hW; clear hW; go_simp; (try with_reducible rfl); done)); try simp only [Act.put, List.setIfInBounds_toArray, List.set_cons_zero, List.set_cons_succ])
            (refine mTake (i := 3) (v := ?v19) rfl (by kernel_rfl) (fun _ _ _ h => h) (Or.inl ⟨by rfl, ?y19⟩) hS ?r19; (case y19 => (intro W hW; ((have g1 := hW.ways.cell 2; simp at g1; go_simp)); (try with_reducible rfl); done)); try simp only [Act.put, List.setIfInBounds_toArray, List.set_cons_zero, List.set_cons_succ])
            (refine mPure (i := 4) (v := ?v20) rfl (by kernel_rfl) (fun _ _ _ h => h) (Or.inl ⟨by rfl, ?y20⟩) (.inr hS) ?r20; (case y20 => (intro W hW; clear hW; go_simp; (try with_reducible rfl); done)); try simp only [Act.put, List.setIfInBounds_toArray, List.set_cons_zero, List.set_cons_succ])
            (refine mPure (i := 5) (v := ?v21) rfl (by kernel_rfl) (fun _ _ _ h => h) (Or.inl ⟨by rfl, ?y21⟩) (.inr hS) ?r21; (case y21 => (intro W hW; clear hW; go_simp; (try with_reducible rfl); done)); try simp only [Act.put, List.setIfInBounds_toArray, List.set_cons_zero, List.set_cons_succ])
            (refine mTake (i := 6) rfl (by kernel_rfl) (fun _ _ _ h => h) (yieldsIf_load_mid (by rfl) _ _ rfl _ _ rfl (opRow xz) _ (fun W hW => (hrz.out W hW.bel)) Try.underlying54 rfl (by rw [htz]; exact info_opc)) hS ?_; try simp only [Act.put, List.setIfInBounds_toArray, List.set_cons_zero, List.set_cons_succ])
            (refine mOne (i := 7) rfl (by kernel_rfl) (fun K hK => ?_))
            rw [if_pos (by rfl)]
            go_simp
            refine (law06_step S2 b2 most L2 A2 n2 c2 xz _ hTd.out.two.st hTd.out.two.ok hTd.out.two.rf hoz.out (by have := hlim.out; have := hn2.out; have := hl2.out; have := hi.out; have := hlimy.out; have := hlimz.out; omega)).mono ?_
            rintro e w6 ⟨A6, n6, c6, rfl, hst6, hr6, hg6⟩
            have hcl := hTd.out.swap.called hst6 (okL_step hTd.out.two.ok most hoz.out) hr6 hg6
            have hwy6 : Blk w6 w.heap.size 65 #[.slice A n c, .slice Ay ny cy, .slice (some ⟨gz, oz, none⟩) nz cz] := hwy.out.drew.grown hg6 (fun e => by
              obtain ⟨es, clock, hb, _⟩ := hTd.out.two.st.map.ex
              have := hwy.out.drew
              unfold Blk at this
              rw [e, hb] at this
              cases this)
            have hS6 : WayI w R2 most A2 n2 c2 #[.slice A n c, .slice Ay ny cy, .slice (some ⟨gz, oz, none⟩) nz cz] w6 := ⟨hcl.1, hwy6, below_grown hTd.out.two.bel hg6 hTd.out.two.lo.2.1 hTd.out.two.bel.size⟩
            have hr60 := hcl.1
            have hT6 := Lib.hid hcl.2.swap
            have hwy7 : Blk (w6.setRow R2 #[.int .i64 most, .slice A6 n6 c6]) w.heap.size 65 #[.slice A n c, .slice Ay ny cy, .slice (some ⟨gz, oz, none⟩) nz cz] := hwy6.row_far _ (fun e => by
              unfold Blk at hwy6 hr60
              rw [e, hr60] at hwy6
              simp at hwy6)
            replace hwy7 := Lib.hid hwy7
            have hn6 := Lib.hid hr6.len
            clear hcl hwy6 hst6 hr6 hg6 hT hwy hTd
            go_wp2_with fail
            (have hS := (by exact hS6); refine hK.out _ _ (.inr hS) ?_; clear hK K; try simp only [Act.put, List.setIfInBounds_toArray, List.set_cons_zero, List.set_cons_succ])
            clear hS6
            (refine mPure (i := 8) (v := ?v22) rfl (by kernel_rfl) (fun _ _ _ h => h) (Or.inl ⟨by rfl, ?y22⟩) (.inr hS) ?r22; (case y22 => (intro W hW; clear hW; go_simp; (try with_reducible rfl); done)); try simp only [Act.put, List.setIfInBounds_toArray, List.set_cons_zero, List.set_cons_succ])
            (refine mPure (i := 9) (v := ?v23) rfl (by kernel_rfl) (fun _ _ _ h => h) (Or.inl ⟨by rfl, ?y23⟩) (.inr hS) ?r23; (case y23 => (intro W hW; clear hW; go_simp; (try with_reducible rfl); done)); try simp only [Act.put, List.setIfInBounds_toArray, List.set_cons_zero, List.set_cons_succ])
            (refine mPure (i := 10) (v := ?v24) rfl (by kernel_rfl) (fun _ _ _ h => h) (Or.inl ⟨by rfl, ?y24⟩) (.inr hS) ?r24; (case y24 => (intro W hW; clear hW; go_simp; (try with_reducible rfl); done)); try simp only [Act.put, List.setIfInBounds_toArray, List.set_cons_zero, List.set_cons_succ])
            (refine mOne (i := 11) rfl (by kernel_rfl) (fun K hK => ?_))
            rw [if_pos (by rfl)]
            refine wp_store_row 45 _ _ rfl R2 #[.int .i64 most, .slice A6 n6 c6] rfl rfl _ _ hr60 info_sto rfl (sto_one _ _ _ _) ?_
            (refine hK.out _ _ (.inl ⟨11, by simp, by kernel_rfl⟩) ?_; clear hK K; try simp only [Act.put, List.setIfInBounds_toArray, List.set_cons_zero, List.set_cons_succ])
            (refine mOne (i := 12) rfl (by kernel_rfl) (fun K hK => ?_))
            rw [if_pos (by rfl)]
            go_simp
            (refine hK.out _ _ (.inl ⟨11, by simp, by kernel_rfl⟩) ?_; clear hK K; try simp only [Act.put, List.setIfInBounds_toArray, List.set_cons_zero, List.set_cons_succ])
            refine wpAnyM_done (by kernel_rfl) ?_ _
            clear hS hr60 hrz
            have hl6 := Lib.hid (stepL_length L2 most xz)

            go_wp2_with fail
            exact ⟨⟨i + 1, L1, A1, n1, c1, _, A6, n6, c6, by have := hi.out; omega, by go_num, rfl, by have := hl1.out; omega, by have := hl6.out; have := hl2.out; omega, hT6.out, hwy7.out⟩, by simp [intOf]; omega⟩
          · have hiz' : ¬ (i : Int) < nz := by omega
            have cD1 := Lib.hid (fun W (hW : TwoI6 w R R2 most L1 S b A1 n1 c1 L2 S2 b2 A2 n2 c2 W) => db_List_asc S b most L1 W hW.one.st (by have := hlim.out; have := hl1.out; have := hi.out; have := hlimy.out; have := hlimz.out; omega))
            have cR1 := Lib.hid (fun W (hW : TwoI6 w R R2 most L1 S b A1 n1 c1 L2 S2 b2 A2 n2 c2 W) => ref_List most L1 A1 n1 c1 W hW.one.rf hW.one.ok (by have := hlim.out; have := hl1.out; have := hn1.out; have := hi.out; have := hlimy.out; have := hlimz.out; omega))
            have cD2 := Lib.hid (fun W (hW : TwoI6 w R R2 most L1 S b A1 n1 c1 L2 S2 b2 A2 n2 c2 W) => db_List_asc S2 b2 most L2 W hW.two.st (by have := hlim.out; have := hl2.out; have := hi.out; have := hlimy.out; have := hlimz.out; omega))
            have cR2 := Lib.hid (fun W (hW : TwoI6 w R R2 most L1 S b A1 n1 c1 L2 S2 b2 A2 n2 c2 W) => ref_List most L2 A2 n2 c2 W hW.two.rf hW.two.ok (by have := hlim.out; have := hl2.out; have := hn2.out; have := hi.out; have := hlimy.out; have := hlimz.out; omega))
            go_wp2_with fail
            clear cw1 cw2
            refine wp_region_held_drew (S := (TwoI6 w R R2 most L1 S b A1 n1 c1 L2 S2 b2 A2 n2 c2)) (by kernel_rfl) (by exact hT.out.step (Below.refl _ _).drew) (fun hS => ?_)
            clear hT hwy
            (refine hTake (i := 0) (v := ?v25) rfl (by kernel_rfl) (by kernel_rfl) (by kernel_rfl) (fun _ _ _ h => h) (Or.inl ⟨by rfl, ?y25⟩) hS ?r25; (case y25 => (intro W hW; (go_simp); (try with_reducible rfl); done)); try simp only [Act.put, List.setIfInBounds_toArray, List.set_cons_zero, List.set_cons_succ])
            (refine hTake (i := 2) rfl (by kernel_rfl) (by kernel_rfl) (by kernel_rfl) (fun _ _ _ h => h) (yieldsIf_load_mid (by rfl) _ _ rfl _ _ rfl [.int .i64 most, .slice A1 n1 c1] _ (fun W hW => (hW.one.r.rangeL)) Try.underlying45 rfl info_sto) hS ?_; try simp only [Act.put, List.setIfInBounds_toArray, List.set_cons_zero, List.set_cons_succ])
            (refine hOne (i := 1) rfl (by kernel_rfl) (fun K hK => ?_))
            rw [if_pos (by rfl)]
            go_simp
            refine (cD1.out _ hS).mono ?_
            rintro e w6 ⟨B1, m1, e1, rfl, hd6, hb6⟩
            have hS6 := Lib.hid (hS.step hb6)
            replace hd6 := Lib.hid hd6
            go_wp2_with fail
            (refine hK.out _ _ (by exact hS6.out) (fun hS => ?_); clear hK K; try simp only [Act.put, List.setIfInBounds_toArray, List.set_cons_zero, List.set_cons_succ])
            clear hS6 hb6
            (refine hOne (i := 3) rfl (by kernel_rfl) (fun K hK => ?_))
            rw [if_pos (by rfl)]
            go_simp
            refine (cR1.out _ hS).mono ?_
            rintro e w7 ⟨B2, m2, e2, rfl, hd7, hb7⟩
            have hS7 := Lib.hid (hS.step hb7)
            replace hd6 := Lib.hid (hd6.out.below hb7)
            replace hd7 := Lib.hid hd7
            go_wp2_with fail
            (refine hK.out _ _ (by exact hS7.out) (fun hS => ?_); clear hK K; try simp only [Act.put, List.setIfInBounds_toArray, List.set_cons_zero, List.set_cons_succ])
            clear hS7 hb7
            (refine hOne (i := 4) rfl (by kernel_rfl) (fun K hK => ?_))
            rw [if_pos (by rfl)]
            go_simp
            refine (law06_same (srt L1) (srt L1) B1 B2 m1 m2 e1 e2 _ _ w7 hd6.out hd7.out).mono ?_
            rintro e w8 ⟨rfl, hb8⟩
            rw [decide_eq_true rfl]
            have hS8 := Lib.hid (hS.step hb8)
            go_wp2_with fail
            (refine hK.out _ _ (by exact hS8.out) (fun hS => ?_); clear hK K; try simp only [Act.put, List.setIfInBounds_toArray, List.set_cons_zero, List.set_cons_succ])
            clear hS8 hb8 hd6 hd7 cD1 cR1
            (refine hTake (i := 5) (v := ?v26) rfl (by kernel_rfl) (by kernel_rfl) (by kernel_rfl) (fun _ _ _ h => h) (Or.inl ⟨by rfl, ?y26⟩) hS ?r26; (case y26 => (intro W hW; (go_simp); (try with_reducible rfl); done)); try simp only [Act.put, List.setIfInBounds_toArray, List.set_cons_zero, List.set_cons_succ])
            (refine hTake (i := 6) (v := ?v27) rfl (by kernel_rfl) (by kernel_rfl) (by kernel_rfl) (fun _ _ _ h => h) (Or.inl ⟨by rfl, ?y27⟩) hS ?r27; (case y27 => (intro W hW; (go_simp); (try with_reducible rfl); done)); try simp only [Act.put, List.setIfInBounds_toArray, List.set_cons_zero, List.set_cons_succ])
            (refine hTake (i := 8) rfl (by kernel_rfl) (by kernel_rfl) (by kernel_rfl) (fun _ _ _ h => h) (yieldsIf_load_mid (by rfl) _ _ rfl _ _ rfl [.int .i64 most, .slice A2 n2 c2] _ (fun W hW => (hW.two.r.rangeL)) Try.underlying45 rfl info_sto) hS ?_; try simp only [Act.put, List.setIfInBounds_toArray, List.set_cons_zero, List.set_cons_succ])
            (refine hOne (i := 7) rfl (by kernel_rfl) (fun K hK => ?_))
            rw [if_pos (by rfl)]
            go_simp
            refine (cD2.out _ hS).mono ?_
            rintro e w9 ⟨B3, m3, e3, rfl, hd9, hb9⟩
            have hS9 := Lib.hid (hS.step hb9)
            replace hd9 := Lib.hid hd9
            go_wp2_with fail
            (refine hK.out _ _ (by exact hS9.out) (fun hS => ?_); clear hK K; try simp only [Act.put, List.setIfInBounds_toArray, List.set_cons_zero, List.set_cons_succ])
            clear hS9 hb9
            (refine hOne (i := 9) rfl (by kernel_rfl) (fun K hK => ?_))
            rw [if_pos (by rfl)]
            go_simp
            refine (cR2.out _ hS).mono ?_
            rintro e wa ⟨B4, m4, e4, rfl, hda, hba⟩
            have hSa := Lib.hid (hS.step hba)
            replace hd9 := Lib.hid (hd9.out.below hba)
            replace hda := Lib.hid hda
            go_wp2_with fail
            (refine hK.out _ _ (by exact hSa.out) (fun hS => ?_); clear hK K; try simp only [Act.put, List.setIfInBounds_toArray, List.set_cons_zero, List.set_cons_succ])
            clear hSa hba
            (refine hOne (i := 10) rfl (by kernel_rfl) (fun K hK => ?_))
            rw [if_pos (by rfl)]
            go_simp
            refine (law06_same (srt L2) (srt L2) B3 B4 m3 m4 e3 e4 _ _ wa hd9.out hda.out).mono ?_
            rintro e wb ⟨rfl, hbb⟩
            rw [decide_eq_true rfl]
            have hSb := Lib.hid (hS.step hbb)
            go_wp2_with fail
            (refine hK.out _ _ (by exact hSb.out) (fun hS => ?_); clear hK K; try simp only [Act.put, List.setIfInBounds_toArray, List.set_cons_zero, List.set_cons_succ])
            clear hSb hbb hd9 hda cD2 cR2
            (refine hTake (i := 11) (v := ?v28) rfl (by kernel_rfl) (by kernel_rfl) (by kernel_rfl) (fun _ _ _ h => h) (Or.inl ⟨by rfl, ?y28⟩) hS ?r28; (case y28 => (intro W hW; (go_simp); (try with_reducible rfl); done)); try simp only [Act.put, List.setIfInBounds_toArray, List.set_cons_zero, List.set_cons_succ])
            (refine hTake (i := 12) (v := ?v29) rfl (by kernel_rfl) (by kernel_rfl) (by kernel_rfl) (fun _ _ _ h => h) (Or.inl ⟨by rfl, ?y29⟩) hS ?r29; (case y29 => (intro W hW; (go_simp); (try with_reducible rfl); done)); try simp only [Act.put, List.setIfInBounds_toArray, List.set_cons_zero, List.set_cons_succ])
            refine wpAnyH_done (by kernel_rfl) ?_ _
            replace hS := Lib.hid hS
            go_wp2_with fail
            go_ret
            exact ⟨by simp, hS.out.one.bel⟩
end Go.Proofs.Ytioanppnkhiokaa
