/-
  Package node: Right.
-/
import Derived.Test.YtahaaeenbahknaaRRRRNoO
namespace Go.Proofs.YtahaaeenbahknaaRRRR
open Go.RowKit

theorem nodRow_child {k ck : Int} {Ap Av Ac Ak : Option Addr} {np cp nv cv nc cc nk kk : Nat} {cd : List UInt8} {W : World} {g : Nat} (h : Blk W g 29 (nodRow k Ap np cp Av nv cv ck cd Ac nc cc Ak nk kk)) : W.rangeAt g 3 (refCells ck cd Ac nc cc) := by
  intro j u hu
  have hj := (List.getElem?_eq_some_iff.1 hu).1
  rw [h.cell (3 + j)]
  simp only [nodRow, nodCells, List.getElem?_toArray]
  rw [show 3 + j = j + 1 + 1 + 1 by omega]
  simp only [List.getElem?_cons_succ]
  rw [List.getElem?_append_left hj]
  exact hu
/-- what the walk reads of a node that is boxed -/
structure NodF (w : World) (k : Int) (Ap : Option Addr) (np cp : Nat) (Av : Option Addr) (nv cv : Nat) (ck : Int) (cd : List UInt8) (Ac : Option Addr) (nc cc : Nat) (Ak : Option Addr) (nk kk : Nat) (W : World) : Prop where
  blk : Blk W w.heap.size 29 (nodRow k Ap np cp Av nv cv ck cd Ac nc cc Ak nk kk)
  c0 : W.cell? ⟨w.heap.size, 0, none⟩ = some (.int .i64 k)
  c1 : W.cell? ⟨w.heap.size, 1, none⟩ = some (.slice Ap np cp)
  c2 : W.cell? ⟨w.heap.size, 2, none⟩ = some (.slice Av nv cv)
  c37 : W.cell? ⟨w.heap.size, 37, none⟩ = some (.slice Ak nk kk)
  ch : W.rangeAt w.heap.size 3 (refCells ck cd Ac nc cc)
  bel : Below w.heap.size w W
theorem NodF.of {w W : World} {k ck : Int} {Ap Av Ac Ak : Option Addr} {np cp nv cv nc cc nk kk : Nat} {cd : List UInt8} (h : Blk W w.heap.size 29 (nodRow k Ap np cp Av nv cv ck cd Ac nc cc Ak nk kk)) (hcd : cd.length = 32) (hb : Below w.heap.size w W) : NodF w k Ap np cp Av nv cv ck cd Ac nc cc Ak nk kk W :=
  ⟨h, h.cell 0, h.cell 1, h.cell 2, (h.cell 37).trans (nodRow_last hcd), nodRow_child h, hb⟩
theorem NodF.step {w W W' : World} {k ck : Int} {Ap Av Ac Ak : Option Addr} {np cp nv cv nc cc nk kk : Nat} {cd : List UInt8} (h : NodF w k Ap np cp Av nv cv ck cd Ac nc cc Ak nk kk W) (hcd : cd.length = 32) (hb : Below W.heap.size W W') : NodF w k Ap np cp Av nv cv ck cd Ac nc cc Ak nk kk W' :=
  NodF.of (h.blk.below hb h.blk.lt) hcd (h.bel.trans (hb.mono h.bel.size))
set_option maxHeartbeats 4000000 in
set_option maxRecDepth 100000 in
theorem node_Right (S : Nat → Prop) (v : Value) (x : Nd.No) (w : World) (hv : NodIn S w v x) (hS : ∀ q, S q → q < w.heap.size) (hC : ∀ r ∈ Nd.refs x, r.kind = 1 → NodC r.inl) :
    Calls Try.prog 7 #[v] w fun e w' => e = .returned (.bool (Nd.right Nd.dec x)) ∧ Below w.heap.size w w' := by
  obtain ⟨Ap, np, cp, Av, nv, cv, Ac, nc, cc, Ak, nk, kk, vs, rfl, hcd, ⟨hp1, hp2, hp3, hp4⟩, ⟨hv1, hv2, hv3, hv4⟩, ⟨hc1, hc2, hc3, hc4⟩, hnk, hkk, hkm, hin, hall⟩ := hv
  have hX : Nd.right Nd.dec x = if 64 < np ∨ Nib.right x.path = false ∨ 256 < nv then false
      else if x.kind = 1 then decide (0 < nv ∧ Nd.none x.child = true ∧ nk = 0)
      else if x.kind = 2 then decide (0 < np ∧ nv = 0 ∧ nk = 0 ∧ Nd.rightRef Nd.dec x.child = true ∧ Nd.branchOf Nd.dec x.child = true)
      else if x.kind = 3 then decide (np = 0 ∧ Nd.none x.child = true ∧ nk = 16 ∧ x.kids.all (Nd.rightRef Nd.dec) = true ∧ 2 ≤ Nd.occupied x)
      else false := by rw [hp1, hv1, hnk]; rfl
  have hocc : Nd.occupied x = (x.kids.filter fun r => decide (r.kind ≠ 0)).length + if 0 < nv then 1 else 0 := by rw [hv1]; rfl
  have hnone : Nd.none x.child = decide (x.child.kind = 0 ∧ x.child.dig = Nd.z32 ∧ nc = 0) := by rw [hc1]; rfl
  have hCc : x.child.kind = 1 → NodC x.child.inl := hC x.child (by simp [Nd.refs])
  have hCk : ∀ r ∈ x.kids, r.kind = 1 → NodC r.inl := fun r hr => hC r (by simp [Nd.refs, hr])
  have hRf : Nd.rightRef Nd.dec x.child = Nd.rightRef Nd.dec ⟨x.child.kind, x.child.dig, x.child.inl⟩ := rfl
  have hBf : Nd.branchOf Nd.dec x.child = Nd.branchOf Nd.dec ⟨x.child.kind, x.child.dig, x.child.inl⟩ := rfl
  have hpB : Bytes w w.heap.size Ap np cp x.path := ⟨hp1, hp2, hp3, hp4.reads fun g _ h => h⟩
  have hcB : Bytes w w.heap.size Ac nc cc x.child.inl := ⟨hc1, hc2, hc3, hc4.reads fun g _ h => h⟩
  generalize Nd.right Nd.dec x = X at *
  generalize Nd.occupied x = OC at *
  generalize Nd.none x.child = NC at *
  obtain ⟨k, path, value, child, kids⟩ := x
  obtain ⟨ck, cd, ci⟩ := child
  simp only at *
  have hF : NodF w k Ap np cp Av nv cv ck cd Ac nc cc Ak nk kk (w.alloc (.cells (nodRow k Ap np cp Av nv cv ck cd Ac nc cc Ak nk kk) 29)) := NodF.of (Blk.new w _ _) hcd ((Below.refl _ _).alloc (Nat.le_refl _) _)
  have hNR := nib_Right path Ap np cp w.heap.size (w.alloc (.cells (nodRow k Ap np cp Av nv cv ck cd Ac nc cc Ak nk kk) 29)) (hpB.alloc (Nat.le_refl _) _)
  generalize Nib.right path = NP at *
  rw [show (nodCells k Ap np cp Av nv cv ck cd Ac nc cc Ak nk kk).toArray = nodRow k Ap np cp Av nv cv ck cd Ac nc cc Ak nk kk from rfl]
  have hRone : (nodRow k Ap np cp Av nv cv ck cd Ac nc cc Ak nk kk).size = 38 := nodRow_size hcd
  generalize hRR : nodRow k Ap np cp Av nv cv ck cd Ac nc cc Ak nk kk = R at *
  have c0 := hF.c0
  have c1 := hF.c1
  have c2 := hF.c2
  have c37 := hF.c37
  have hch := hF.ch
  clear hp1 hp2 hp3 hp4 hv1 hv2 hv3 hv4 hc1 hc2 hc3 hc4 hC
  replace hF := Lib.hid hF
  replace hX := Lib.hid hX
  replace hocc := Lib.hid hocc
  replace hnone := Lib.hid hnone
  replace hCc := Lib.hid hCc
  replace hCk := Lib.hid hCk
  replace hpB := Lib.hid hpB
  replace hcB := Lib.hid hcB
  replace hin := Lib.hid hin
  replace hall := Lib.hid hall
  replace hnk := Lib.hid hnk
  replace hS := Lib.hid hS
  replace hRR := Lib.hid hRR
  replace hRone := Lib.hid hRone
  replace hcd := Lib.hid hcd
  replace hRf := Lib.hid hRf
  replace hBf := Lib.hid hBf
  go_enter Try.func7, Try.ntmps7
  by_cases h64 : 64 < np
  · have hx := Lib.hid (show X = false by rw [hX.out, if_pos (.inl h64)])
    have h64' : (64 : Int) < np := by omega
    go_wp2_with fail
    go_ret
    exact ⟨ret_bool hx.out.symm, hF.out.bel⟩
  have h64' : ¬ (64 : Int) < np := by omega
  go_wp2_with fail
  refine hNR.mono ?_
  rintro e w1 ⟨rfl, rfl⟩
  cases NP with
  | false =>
    have hx := Lib.hid (show X = false by rw [hX.out, if_pos (.inr (.inl rfl))])
    go_wp2_with fail
    go_ret
    exact ⟨ret_bool hx.out.symm, hF.out.bel⟩
  | true =>
    by_cases h256 : 256 < nv
    · have hx := Lib.hid (show X = false by rw [hX.out, if_pos (.inr (.inr h256))])
      have h256' : (256 : Int) < nv := by omega
      go_wp2_with fail
      go_ret
      exact ⟨ret_bool hx.out.symm, hF.out.bel⟩
    have h256' : ¬ (256 : Int) < nv := by omega
    have hx1 := hX.out
    rw [if_neg (by simp [h64, h256])] at hx1
    clear hX hNR
    by_cases hk1 : k = 1
    · rw [if_pos hk1] at hx1
      subst hk1
      by_cases hv0 : 0 < nv
      · have hv0' : (0 : Int) < nv := by omega
        replace hx1 := Lib.hid hx1
        replace hv0 := Lib.hid hv0
        go_wp2_with (refine wpList_mid_g (by rfl) 26 _ rfl w.heap.size 3 rfl (refCells ck cd Ac nc cc) _ hch Try.underlying26 rfl (by rw [refCells_length hcd.out]; exact info_ref) ?_)
        refine (node_none ck cd Ac nc cc _ hcd.out).mono ?_
        rintro e w2 ⟨rfl, hb2⟩
        rw [← hnone.out]
        have hF2 := hF.out.step hcd.out hb2
        clear c0 c1 c2 c37 hch hb2
        have c0 := hF2.c0
        have c1 := hF2.c1
        have c2 := hF2.c2
        have c37 := hF2.c37
        have hch := hF2.ch
        replace hF2 := Lib.hid hF2
        cases NC with
        | false =>
          have hx := Lib.hid (show X = false by rw [hx1.out]; simp)
          clear hx1
          go_wp2_with fail
          go_ret
          exact ⟨ret_bool hx.out.symm, hF2.out.bel⟩
        | true =>
          go_wp2_with fail
          go_ret
          exact ⟨ret_bool (by rw [hx1.out, Bool.eq_iff_iff]; simp [hv0.out]), hF2.out.bel⟩
      · have hx := Lib.hid (show X = false by rw [hx1]; simp [hv0])
        have hv0' : ¬ (0 : Int) < nv := by omega
        clear hx1
        go_wp2_with fail
        go_ret
        exact ⟨ret_bool hx.out.symm, hF.out.bel⟩
    by_cases hk2 : k = 2
    · skip
      rw [if_neg hk1, if_pos hk2] at hx1
      subst hk2
      by_cases hp0 : 0 < np
      · have hp0' : (0 : Int) < np := by omega
        by_cases hv0 : nv = 0
        · subst hv0
          by_cases hk0 : nk = 0
          · subst hk0
            replace hx1 := Lib.hid hx1
            replace hp0 := Lib.hid hp0
            have hB1 := hcB.out.alloc (Nat.le_refl _) (.cells R 29)
            have hcall := node_rightRef ck cd ci Ac nc cc _ hcd.out (hB1.more (by simp)) hCc.out
            have hcall2 := fun w' (hb : Below (w.alloc (.cells R 29)).heap.size (w.alloc (.cells R 29)) w') => node_branchOf ck cd ci Ac nc cc w' hcd.out ((hB1.more (by simp)).step hb) hCc.out
            generalize Nd.rightRef Nd.dec ⟨ck, cd, ci⟩ = RR at *
            generalize Nd.branchOf Nd.dec ⟨ck, cd, ci⟩ = BR at *
            replace hcall2 := Lib.hid hcall2
            clear hB1
            go_wp2_with (refine wpList_mid_g (by rfl) 26 _ rfl w.heap.size 3 rfl (refCells ck cd Ac nc cc) _ hch Try.underlying26 rfl (by rw [refCells_length hcd.out]; exact info_ref) ?_)
            refine hcall.mono ?_
            rintro e w2 ⟨rfl, hb2⟩
            have hF2 := hF.out.step hcd.out hb2
            have hcall3 := hcall2.out w2 hb2
            clear c0 c1 c2 c37 hch hb2 hcall hcall2
            have c0 := hF2.c0
            have c1 := hF2.c1
            have c2 := hF2.c2
            have c37 := hF2.c37
            have hch := hF2.ch
            replace hF2 := Lib.hid hF2
            cases RR with
            | false =>
              have hx := Lib.hid (show X = false by rw [hx1.out]; simp)
              clear hx1 hcall3
              go_wp2_with fail
              go_ret
              exact ⟨ret_bool hx.out.symm, hF2.out.bel⟩
            | true =>
              go_wp2_with (refine wpList_mid_g (by rfl) 26 _ rfl w.heap.size 3 rfl (refCells ck cd Ac nc cc) _ hch Try.underlying26 rfl (by rw [refCells_length hcd.out]; exact info_ref) ?_)
              refine hcall3.mono ?_
              rintro e w3 ⟨rfl, hb3⟩
              have hb3w := Lib.hid (hF2.out.bel.trans (hb3.mono hF2.out.bel.size))
              clear hcall3 hb3
              go_wp2_with fail
              go_ret
              exact ⟨ret_bool (by rw [hx1.out, Bool.eq_iff_iff]; simp [hp0.out]), hb3w.out⟩
          · have hx := Lib.hid (show X = false by rw [hx1]; simp [hk0])
            have hk0' : ¬ (nk : Int) = 0 := by omega
            clear hx1
            go_wp2_with fail
            go_ret
            exact ⟨ret_bool hx.out.symm, hF.out.bel⟩
        · have hx := Lib.hid (show X = false by rw [hx1]; simp [hv0])
          have hv0' : ¬ (nv : Int) = 0 := by omega
          clear hx1
          go_wp2_with fail
          go_ret
          exact ⟨ret_bool hx.out.symm, hF.out.bel⟩
      · have hx := Lib.hid (show X = false by rw [hx1]; simp [hp0])
        have hp0' : ¬ (0 : Int) < np := by omega
        clear hx1
        go_wp2_with fail
        go_ret
        exact ⟨ret_bool hx.out.symm, hF.out.bel⟩
    by_cases hk3 : k = 3
    · skip
      rw [if_neg hk1, if_neg hk2, if_pos hk3] at hx1
      subst hk3
      by_cases hp0 : 0 < np
      · have hx := Lib.hid (show X = false by rw [hx1]; simp; omega)
        have hp0' : (0 : Int) < np := by omega
        clear hx1
        go_wp2_with fail
        go_ret
        exact ⟨ret_bool hx.out.symm, hF.out.bel⟩
      have hp0' : ¬ (0 : Int) < np := by omega
      replace hx1 := Lib.hid hx1
      go_wp2_with (refine wpList_mid_g (by rfl) 26 _ rfl w.heap.size 3 rfl (refCells ck cd Ac nc cc) _ hch Try.underlying26 rfl (by rw [refCells_length hcd.out]; exact info_ref) ?_)
      refine (node_none ck cd Ac nc cc _ hcd.out).mono ?_
      rintro e w2 ⟨rfl, hb2⟩
      rw [← hnone.out]
      have hF2 := hF.out.step hcd.out hb2
      clear c0 c1 c2 c37 hch hb2
      have c0 := hF2.c0
      have c1 := hF2.c1
      have c2 := hF2.c2
      have c37 := hF2.c37
      have hch := hF2.ch
      replace hF2 := Lib.hid hF2
      cases NC with
      | false =>
        have hx := Lib.hid (show X = false by rw [hx1.out]; simp)
        clear hx1
        go_wp2_with fail
        go_ret
        exact ⟨ret_bool hx.out.symm, hF2.out.bel⟩
      | true =>
        by_cases h16 : nk = 16
        · subst h16
          go_wp2_with fail
          clear c0 c1 c2 c37 hch
          go_loopw [89] (fun i wr => ∃ j : Nat, j ≤ 16 ∧ i = .int .i64 j ∧ (kids.take j).all (Nd.rightRef Nd.dec) = true ∧ NodF w 3 Ap np cp Av nv cv ck cd Ac nc cc Ak 16 kk wr) (fun i _ => 16 - (intOf i).toNat)
          case atStart => exact ⟨0, Nat.zero_le _, rfl, rfl, hF2.out⟩
          case round =>
            clear hF2
            obtain ⟨j, hj, rfl, hpre, hFr⟩ := hrel
            have hbl := hFr.blk.lt
            have hkl := hnk.out
            by_cases hlt : j < 16
            · have hjk : j < kids.length := by omega
              have hmv : ∀ q, S q → q < w.heap.size → S q ∧ wr.heap[q]? = w.heap[q]? := fun q h1 h2 => ⟨h1, hFr.bel.block q h2⟩
              obtain ⟨g, o, A', n', c', rfl, hSg, hg, hrg, hdl, hby⟩ := refs_at (hin.out.move hmv hFr.bel.size) (hall.out.imp fun v x hx => hx.move hmv hFr.bel.size) hkl j hjk
              have hmem := List.getElem_mem hjk
              have hCj := hCk.out kids[j] hmem
              have htk : kids.take (j + 1) = kids.take j ++ [kids[j]] := List.take_succ_eq_append_getElem hjk
              have hbad : Nd.rightRef Nd.dec kids[j] = false → X = false := fun h => by
                rw [hx1.out]
                have : kids.all (Nd.rightRef Nd.dec) = false := List.all_eq_false.2 ⟨_, hmem, by rw [h]; simp⟩
                simp [this]
              have hgood : Nd.rightRef Nd.dec kids[j] = true → (kids.take (j + 1)).all (Nd.rightRef Nd.dec) = true := fun h => by rw [htk, List.all_append, hpre]; simp [h]
              have hcl : ∀ w', Below wr.heap.size wr w' → Calls Try.prog 16 #[.agg (refRow kids[j].kind kids[j].dig A' n' c')] w' fun e w'' => e = .returned (.bool (Nd.rightRef Nd.dec kids[j])) ∧ Below w'.heap.size w' w'' := fun w' hb => node_rightRef kids[j].kind kids[j].dig kids[j].inl A' n' c' w' hdl (hby.step hb) hCj
              generalize Nd.rightRef Nd.dec kids[j] = RJ at *
              generalize kids[j].kind = rk at *
              generalize kids[j].dig = rd at *
              have hrs := ref_stored (wr := wr) (refRow rk rd A' n' c')
              have hlt' : (j : Int) < 16 := by omega
              clear hmv hmem hCj htk hby hpre hkl
              replace hdl := Lib.hid hdl
              replace hrs := Lib.hid hrs
              replace hcl := Lib.hid hcl
              replace hbad := Lib.hid hbad
              replace hgood := Lib.hid hgood
              replace hFr := Lib.hid hFr
              go_wp2_with (first
                | (refine wpList_load_mid rfl 26 _ rfl g (o + j * 34) rfl (refCells rk rd A' n' c') _ hrg Try.underlying26 rfl (by rw [refCells_length hdl.out]; exact info_ref) ?_)
                | (refine wpList_store_row rfl 26 _ _ rfl wr.heap.size (refRow rk rd A' n' c') rfl rfl _ _ (Blk.new wr 26 refZ) (by rw [refRow_size hdl.out]; exact info_ref) (by rw [refRow_size hdl.out]; rfl) (refRow_one _ _ _ _ _) ?_; refine list_at (RefS wr _) hrs.out ?_; intro w3 hI3; replace hI3 := Lib.hid hI3)
                | (refine wpList_load_row rfl 26 _ rfl wr.heap.size rfl _ _ _ _ hI3.out.it Try.underlying26 rfl (by rw [refRow_size hdl.out]; exact info_ref) ?_)
                | fail)
              refine (hcl.out w3 hI3.out.bel).mono ?_
              rintro e w4 ⟨rfl, hb4⟩
              have hF4 := Lib.hid ((hFr.out.step hcd.out hI3.out.bel).step hcd.out hb4)
              clear hb4 hI3 hcl hrs hFr hrg
              cases RJ with
              | false =>
                have hx := Lib.hid (hbad.out rfl)
                clear hx1 hbad hgood
                go_wp2_with fail
                go_ret
                exact ⟨ret_bool hx.out.symm, hF4.out.bel⟩
              | true =>
                have hg2 := Lib.hid (hgood.out rfl)
                clear hbad hgood
                go_wp2_with fail
                refine ⟨⟨j + 1, by omega, by go_num, hg2.out, hF4.out⟩, ?_⟩
                simp [intOf]; omega
            · obtain rfl : j = 16 := by omega
              rw [List.take_of_length_le (by omega)] at hpre
              have hocl := node_occupied S 3 ck Ap Av Ac Ak np cp nv cv nc cc 16 kk cd hcd.out vs kids wr hkl hkk hkm (by omega) (hin.out.move (fun q h1 h2 => ⟨h1, hFr.bel.block q h2⟩) hFr.bel.size) (hall.out.imp fun v x hx => hx.move (fun q h1 h2 => ⟨h1, hFr.bel.block q h2⟩) hFr.bel.size)
              rw [← hocc.out, hRR.out] at hocl
              have hblk : Blk wr w.heap.size 29 R := by rw [← hRR.out]; exact hFr.blk
              have hXo : X = decide (2 ≤ OC) := by rw [hx1.out, Bool.eq_iff_iff]; simp [hpre]; omega
              replace hXo := Lib.hid hXo
              replace hFr := Lib.hid hFr
              clear hx1 hpre hkl
              go_wp2_with (refine wpList_load_row rfl 29 _ rfl w.heap.size rfl _ _ _ _ hblk Try.underlying29 rfl (by rw [hRone.out]; exact info_node) ?_)
              refine hocl.mono ?_
              rintro e w5 ⟨rfl, hb5⟩
              have hb5w := Lib.hid (hFr.out.bel.trans (hb5.mono hFr.out.bel.size))
              clear hocl hb5 hblk
              go_wp2_with fail
              go_ret
              exact ⟨ret_bool (by rw [hXo.out, Bool.eq_iff_iff]; simp; try omega), hb5w.out⟩
        · have hx := Lib.hid (show X = false by rw [hx1.out]; simp [h16])
          have h16' : ¬ (nk : Int) = 16 := by omega
          clear hx1
          go_wp2_with fail
          go_ret
          exact ⟨ret_bool hx.out.symm, hF2.out.bel⟩
    · have hx := Lib.hid (show X = false by rw [hx1, if_neg hk1, if_neg hk2, if_neg hk3])
      clear hx1
      go_wp2_with fail
      go_ret
      exact ⟨ret_bool hx.out.symm, hF.out.bel⟩

end Go.Proofs.YtahaaeenbahknaaRRRR
