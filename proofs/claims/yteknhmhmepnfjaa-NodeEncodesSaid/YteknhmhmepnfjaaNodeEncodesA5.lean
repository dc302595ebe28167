/-
  Texts of a proof, one behind the other: Rn2, Rf1, Rf2, Rf3, Rf4, Rf5, Rf6, Rf7, Rf8, Rn3, Rn4, Rn5.
-/
import Derived.Test.YteknhmhmepnfjaaNodeEncodesA4
/-
  The reference of chapter 5: Right.
-/
namespace Go.Proofs.Yteknhmhmepnfjaa
open Go.RowKit

set_option maxHeartbeats 4000000 in
set_option maxRecDepth 100000 in
theorem ref_Right05 (S : Nat → Prop) (v : Value) (x : Nd.No) (w : World) (hv : NodIn S w v x) (hS : ∀ q, S q → q < w.heap.size) (hC : ∀ r ∈ Nd.refs x, r.kind = 1 → r.inl.length < 32 → RodC r.inl) :
    Calls Try.prog 9 #[v] w fun e w' => e = .returned (.bool (Nd.right Nd.dec x)) ∧ Below w.heap.size w w' := by
  obtain ⟨Ap, np, cp, Av, nv, cv, Ac, nc, cc, Ak, nk, kk, vs, rfl, hcd, ⟨hp1, hp2, hp3, hp4⟩, ⟨hv1, hv2, hv3, hv4⟩, ⟨hc1, hc2, hc3, hc4⟩, hnk, hkk, hkm, hin, hall⟩ := hv
  have hX : Nd.right Nd.dec x = if 64 < np ∨ Nib.right x.path = false ∨ 256 < nv then false
      else if x.kind = 1 then decide (0 < nv ∧ Nd.none x.child = true ∧ nk = 0)
      else if x.kind = 2 then decide (0 < np ∧ nv = 0 ∧ nk = 0 ∧ Nd.rightRef Nd.dec x.child = true ∧ Nd.branchOf Nd.dec x.child = true)
      else if x.kind = 3 then decide (np = 0 ∧ Nd.none x.child = true ∧ nk = 16 ∧ x.kids.all (Nd.rightRef Nd.dec) = true ∧ 2 ≤ Nd.occupied x)
      else false := by rw [hp1, hv1, hnk]; rfl
  have hocc : Nd.occupied x = (x.kids.filter fun r => decide (r.kind ≠ 0)).length + if 0 < nv then 1 else 0 := by rw [hv1]; rfl
  have hnone : Nd.none x.child = decide (x.child.kind = 0 ∧ x.child.dig = Nd.z32 ∧ nc = 0) := by rw [hc1]; rfl
  have hCc : x.child.kind = 1 → x.child.inl.length < 32 → RodC x.child.inl := hC x.child (by simp [Nd.refs])
  have hCk : ∀ r ∈ x.kids, r.kind = 1 → r.inl.length < 32 → RodC r.inl := fun r hr => hC r (by simp [Nd.refs, hr])
  have hpB : Bytes w w.heap.size Ap np cp x.path := ⟨hp1, hp2, hp3, hp4.reads fun g _ h => h⟩
  have hcB : Bytes w w.heap.size Ac nc cc x.child.inl := ⟨hc1, hc2, hc3, hc4.reads fun g _ h => h⟩
  generalize Nd.right Nd.dec x = X at *
  generalize Nd.occupied x = OC at *
  generalize Nd.none x.child = NC at *
  obtain ⟨k, path, value, child, kids⟩ := x
  obtain ⟨ck, cd, ci⟩ := child
  simp only at *
  have hF : NodF w k Ap np cp Av nv cv ck cd Ac nc cc Ak nk kk (w.alloc (.cells (nodRow k Ap np cp Av nv cv ck cd Ac nc cc Ak nk kk) 29)) := NodF.of (Blk.new w _ _) hcd ((Below.refl _ _).alloc (Nat.le_refl _) _)
  have hNR := rnib_Right path Ap np cp w.heap.size (w.alloc (.cells (nodRow k Ap np cp Av nv cv ck cd Ac nc cc Ak nk kk) 29)) (hpB.alloc (Nat.le_refl _) _)
  generalize Nib.right path = NP at *
  rw [show (nodCells k Ap np cp Av nv cv ck cd Ac nc cc Ak nk kk).toArray = nodRow k Ap np cp Av nv cv ck cd Ac nc cc Ak nk kk from rfl]
  have hRone : (nodRow k Ap np cp Av nv cv ck cd Ac nc cc Ak nk kk).size = 38 := nodRow_size hcd
  generalize hRR : nodRow k Ap np cp Av nv cv ck cd Ac nc cc Ak nk kk = R at *
  have c0 := hF.c0
  have c1 := hF.c1
  have c2 := hF.c2
  have c37 := hF.c37
  have hch := hF.ch
  clear hp1 hp2 hp3 hp4 hv1 hv2 hv3 hv4 hc1 hc2 hc3 hc4 hC
  replace hF := Lib.hid hF
  replace hX := Lib.hid hX
  replace hocc := Lib.hid hocc
  replace hnone := Lib.hid hnone
  replace hCc := Lib.hid hCc
  replace hCk := Lib.hid hCk
  replace hpB := Lib.hid hpB
  replace hcB := Lib.hid hcB
  replace hin := Lib.hid hin
  replace hall := Lib.hid hall
  replace hnk := Lib.hid hnk
  replace hS := Lib.hid hS
  replace hRR := Lib.hid hRR
  replace hRone := Lib.hid hRone
  replace hcd := Lib.hid hcd
  go_enter Try.func9, Try.ntmps9
  go_wp2_with fail
  refine hNR.mono ?_
  rintro e w1 ⟨rfl, rfl⟩
  clear hNR
  cases NP with
  | false =>
    have hx := Lib.hid (show X = false by rw [hX.out, if_pos (.inr (.inl rfl))])
    go_wp2_with fail
    go_ret
    exact ⟨ret_bool hx.out.symm, hF.out.bel⟩
  | true =>
    by_cases h64 : 64 < np
    · have hx := Lib.hid (show X = false by rw [hX.out, if_pos (.inl h64)])
      have h64' : (np : Int) > 64 := by omega
      go_wp2_with fail
      go_ret
      exact ⟨ret_bool hx.out.symm, hF.out.bel⟩
    have h64' : ¬ (np : Int) > 64 := by omega
    by_cases h256 : 256 < nv
    · have hx := Lib.hid (show X = false by rw [hX.out, if_pos (.inr (.inr h256))])
      have h256' : (nv : Int) > 256 := by omega
      go_wp2_with fail
      go_ret
      exact ⟨ret_bool hx.out.symm, hF.out.bel⟩
    have h256' : ¬ (nv : Int) > 256 := by omega
    have hx1 := hX.out
    rw [if_neg (by simp [h64, h256])] at hx1
    clear hX
    by_cases hk1 : k = 1
    · rw [if_pos hk1] at hx1
      subst hk1
      by_cases hv0 : 0 < nv
      · have hv0' : (nv : Int) ≥ 1 := by omega
        replace hx1 := Lib.hid hx1
        replace hv0 := Lib.hid hv0
        go_wp2_with (refine wpList_mid_g (by rfl) 26 _ rfl w.heap.size 3 rfl (refCells ck cd Ac nc cc) _ hch Try.underlying26 rfl (by rw [refCells_length hcd.out]; exact info_ref) ?_)
        refine (ref_Empty ck cd Ac nc cc _ hcd.out).mono ?_
        rintro e w2 ⟨rfl, hb2⟩
        rw [← hnone.out]
        have hF2 := hF.out.step hcd.out hb2
        clear c0 c1 c2 c37 hch hb2
        have c0 := hF2.c0
        have c1 := hF2.c1
        have c2 := hF2.c2
        have c37 := hF2.c37
        have hch := hF2.ch
        replace hF2 := Lib.hid hF2
        cases NC with
        | false =>
          have hx := Lib.hid (show X = false by rw [hx1.out]; simp)
          clear hx1
          go_wp2_with fail
          go_ret
          exact ⟨ret_bool hx.out.symm, hF2.out.bel⟩
        | true =>
          go_wp2_with fail
          go_ret
          exact ⟨ret_bool (by rw [hx1.out, Bool.eq_iff_iff]; simp [hv0.out]), hF2.out.bel⟩
      · have hx := Lib.hid (show X = false by rw [hx1]; simp [hv0])
        have hv0' : ¬ (nv : Int) ≥ 1 := by omega
        clear hx1
        go_wp2_with fail
        go_ret
        exact ⟨ret_bool hx.out.symm, hF.out.bel⟩
    by_cases hk2 : k = 2
    · skip
      rw [if_neg hk1, if_pos hk2] at hx1
      subst hk2
      have hB1 := hcB.out.alloc (Nat.le_refl _) (.cells R 29)
      have hcall := ref_refers ck cd ci true Ac nc cc _ hcd.out (hB1.more (by simp)) hCc.out
      have hRB : X = decide (0 < np ∧ nv = 0 ∧ nk = 0 ∧ Nd.refers ⟨ck, cd, ci⟩ true = true) := by rw [hx1]; unfold Nd.refers; simp
      generalize Nd.refers ⟨ck, cd, ci⟩ true = RR at *
      clear hB1 hx1
      replace hRB := Lib.hid hRB
      go_wp2_with (refine wpList_mid_g (by rfl) 26 _ rfl w.heap.size 3 rfl (refCells ck cd Ac nc cc) _ hch Try.underlying26 rfl (by rw [refCells_length hcd.out]; exact info_ref) ?_)
      refine hcall.mono ?_
      rintro e w2 ⟨rfl, hb2⟩
      have hF2 := hF.out.step hcd.out hb2
      clear hcall
      clear c0 c1 c2 c37 hch hb2
      have c0 := hF2.c0
      have c1 := hF2.c1
      have c2 := hF2.c2
      have c37 := hF2.c37
      have hch := hF2.ch
      replace hF2 := Lib.hid hF2
      cases RR with
      | false =>
        have hx := Lib.hid (show X = false by rw [hRB.out]; simp)
        clear hRB
        go_wp2_with fail
        go_ret
        exact ⟨ret_bool hx.out.symm, hF2.out.bel⟩
      | true =>
        by_cases hp0 : 0 < np
        · have hp0' : (np : Int) ≥ 1 := by omega
          by_cases hv0 : nv = 0
          · subst hv0
            by_cases hk0 : nk = 0
            · subst hk0
              have hx := Lib.hid (show X = true by rw [hRB.out]; simp [hp0])
              clear hRB
              go_wp2_with fail
              go_ret
              exact ⟨ret_bool hx.out.symm, hF2.out.bel⟩
            · have hx := Lib.hid (show X = false by rw [hRB.out]; simp [hk0])
              have hk0' : ¬ (nk : Int) = 0 := by omega
              clear hRB
              go_wp2_with fail
              go_ret
              exact ⟨ret_bool (by rw [hx.out]; simp; omega), hF2.out.bel⟩
          · have hx := Lib.hid (show X = false by rw [hRB.out]; simp [hv0])
            have hv0' : ¬ (nv : Int) = 0 := by omega
            clear hRB
            go_wp2_with fail
            go_ret
            exact ⟨ret_bool hx.out.symm, hF2.out.bel⟩
        · have hx := Lib.hid (show X = false by rw [hRB.out]; simp [hp0])
          have hp0' : ¬ (np : Int) ≥ 1 := by omega
          clear hRB
          go_wp2_with fail
          go_ret
          exact ⟨ret_bool hx.out.symm, hF2.out.bel⟩
    by_cases hk3 : ¬ k = 3
    · have hx := Lib.hid (show X = false by rw [hx1, if_neg hk1, if_neg hk2, if_neg hk3])
      clear hx1
      go_wp2_with fail
      go_ret
      exact ⟨ret_bool hx.out.symm, hF.out.bel⟩
    replace hk3 := Classical.not_not.1 hk3
    rw [if_neg hk1, if_neg hk2, if_pos hk3] at hx1
    subst hk3
    by_cases h16 : ¬ nk = 16
    · have hx := Lib.hid (show X = false by rw [hx1]; simp [h16])
      have h16' : ¬ (nk : Int) = 16 := by omega
      clear hx1
      go_wp2_with fail
      go_ret
      exact ⟨ret_bool hx.out.symm, hF.out.bel⟩
    replace h16 := Classical.not_not.1 h16
    subst h16
    by_cases hp0 : ¬ np = 0
    · have hx := Lib.hid (show X = false by rw [hx1]; simp [hp0])
      have hp0' : ¬ (np : Int) = 0 := by omega
      clear hx1
      go_wp2_with fail
      go_ret
      exact ⟨ret_bool hx.out.symm, hF.out.bel⟩
    replace hp0 := Classical.not_not.1 hp0
    subst hp0
    replace hx1 := Lib.hid hx1
    go_wp2_with (refine wpList_mid_g (by rfl) 26 _ rfl w.heap.size 3 rfl (refCells ck cd Ac nc cc) _ hch Try.underlying26 rfl (by rw [refCells_length hcd.out]; exact info_ref) ?_)
    refine (ref_Empty ck cd Ac nc cc _ hcd.out).mono ?_
    rintro e w2 ⟨rfl, hb2⟩
    rw [← hnone.out]
    have hF2 := hF.out.step hcd.out hb2
    clear c0 c1 c2 c37 hch hb2
    have c0 := hF2.c0
    have c1 := hF2.c1
    have c2 := hF2.c2
    have c37 := hF2.c37
    have hch := hF2.ch
    replace hF2 := Lib.hid hF2
    cases NC with
    | false =>
      have hx := Lib.hid (show X = false by rw [hx1.out]; simp)
      clear hx1
      go_wp2_with fail
      go_ret
      exact ⟨ret_bool hx.out.symm, hF2.out.bel⟩
    | true =>
      go_wp2_with fail
      clear c0 c1 c2 c37 hch
      go_loopw [5, 6] (fun t i wr => ∃ j : Nat, j ≤ 16 ∧ i = .int .i64 j ∧ t = .int .i64 (((kids.take j).filter fun r => decide (r.kind ≠ 0)).length : Nat) ∧ (kids.take j).all (Nd.rightRef Nd.dec) = true ∧ NodF w 3 Ap 0 cp Av nv cv ck cd Ac nc cc Ak 16 kk wr) (fun _ i _ => 16 - (intOf i).toNat)
      case atStart => exact ⟨0, Nat.zero_le _, rfl, rfl, rfl, hF2.out⟩
      case round =>
        clear hF2
        obtain ⟨j, hj, rfl, rfl, hpre, hFr⟩ := hrel
        have hbl := hFr.blk.lt
        have hkl := hnk.out
        have c37 := hFr.c37
        by_cases hlt : j < 16
        · have hjk : j < kids.length := by omega
          have hmv : ∀ q, S q → q < w.heap.size → S q ∧ wr.heap[q]? = w.heap[q]? := fun q h1 h2 => ⟨h1, hFr.bel.block q h2⟩
          obtain ⟨g, o, A', n', c', rfl, hSg, hg, hrg, hdl, hby⟩ := refs_at (hin.out.move hmv hFr.bel.size) (hall.out.imp fun v x hx => hx.move hmv hFr.bel.size) hkl j hjk
          have hmem := List.getElem_mem hjk
          have hCj := hCk.out kids[j] hmem
          have htk : kids.take (j + 1) = kids.take j ++ [kids[j]] := List.take_succ_eq_append_getElem hjk
          have hbad : Nd.rightRef Nd.dec kids[j] = false → X = false := fun h => by
            rw [hx1.out]
            have : kids.all (Nd.rightRef Nd.dec) = false := List.all_eq_false.2 ⟨_, hmem, by rw [h]; simp⟩
            simp [this]
          have hgood : Nd.rightRef Nd.dec kids[j] = true → (kids.take (j + 1)).all (Nd.rightRef Nd.dec) = true := fun h => by rw [htk, List.all_append, hpre]; simp [h]
          have hcl := ref_refers kids[j].kind kids[j].dig kids[j].inl false A' n' c' wr hdl hby hCj
          have hrf : Nd.refers ⟨kids[j].kind, kids[j].dig, kids[j].inl⟩ false = Nd.rightRef Nd.dec kids[j] := by unfold Nd.refers; simp
          rw [hrf] at hcl
          have hcnt : ((kids.take (j + 1)).filter fun r => decide (r.kind ≠ 0)).length = ((kids.take j).filter fun r => decide (r.kind ≠ 0)).length + if kids[j].kind = 0 then 0 else 1 := by
            rw [htk, List.filter_append, List.length_append]
            by_cases h0 : kids[j].kind = 0
            · simp [h0]
            · simp [h0]
          have hcj : (List.filter (fun r : Nd.Rf => decide (r.kind ≠ 0)) (kids.take j)).length ≤ 16 := Nat.le_trans (List.length_filter_le _ _) (by rw [List.length_take]; omega)
          generalize (List.filter (fun r : Nd.Rf => decide (r.kind ≠ 0)) (kids.take j)).length = T at *
          generalize Nd.rightRef Nd.dec kids[j] = RJ at *
          generalize kids[j].kind = rk at *
          generalize kids[j].dig = rd at *
          have hlt' : (j : Int) < 16 := by omega
          have hk0 : wr.cell? ⟨g, o + j * 34, none⟩ = some (.int .i64 rk) := hrg 0 _ rfl
          have hcell : ∀ w4, Below wr.heap.size wr w4 → w4.cell? ⟨g, o + j * 34, none⟩ = some (.int .i64 rk) := fun w4 hb => (hb.cell (p := ⟨g, o + j * 34, none⟩) hg).trans hk0
          clear hmv hmem hCj htk hby hpre hkl hrf hk0
          replace hcell := Lib.hid hcell
          replace hdl := Lib.hid hdl
          replace hcnt := Lib.hid hcnt
          replace hbad := Lib.hid hbad
          replace hgood := Lib.hid hgood
          replace hFr := Lib.hid hFr
          go_wp2_with (first
            | (refine wpList_load_mid rfl 26 _ rfl g (o + j * 34) rfl (refCells rk rd A' n' c') _ hrg Try.underlying26 rfl (by rw [refCells_length hdl.out]; exact info_ref) ?_)
            | fail)
          refine hcl.mono ?_
          rintro e w4 ⟨rfl, hb4⟩
          have hF4 := hFr.out.step hcd.out hb4
          have hk4 := hcell.out w4 hb4
          clear hb4 hcl hFr hrg c37
          have c37 := hF4.c37
          replace hF4 := Lib.hid hF4
          cases RJ with
          | false =>
            have hx := Lib.hid (hbad.out rfl)
            clear hx1 hbad hgood
            go_wp2_with fail
            go_ret
            exact ⟨ret_bool hx.out.symm, hF4.out.bel⟩
          | true =>
            have hg2 := Lib.hid (hgood.out rfl)
            clear hbad hgood
            by_cases h0 : rk = 0
            · subst h0
              have hT := Lib.hid (show ((kids.take (j + 1)).filter fun r => decide (r.kind ≠ 0)).length = T by rw [hcnt.out]; simp)
              go_wp2_with fail
              refine ⟨⟨j + 1, by omega, by go_num, by rw [hT.out], hg2.out, hF4.out⟩, ?_⟩
              simp [intOf]; omega
            · have hT := Lib.hid (show ((kids.take (j + 1)).filter fun r => decide (r.kind ≠ 0)).length = T + 1 by rw [hcnt.out, if_neg h0])
              go_wp2_with fail
              refine ⟨⟨j + 1, by omega, by go_num, by rw [hT.out]; go_num, hg2.out, hF4.out⟩, ?_⟩
              simp [intOf]; omega
        · obtain rfl : j = 16 := by omega
          rw [List.take_of_length_le (by omega)] at hpre
          have hXo : X = decide (2 ≤ OC) := by rw [hx1.out, Bool.eq_iff_iff]; simp [hpre]
          have hoc := hocc.out
          have hT16 : (List.filter (fun r : Nd.Rf => decide (r.kind ≠ 0)) kids).length ≤ 16 := Nat.le_trans (List.length_filter_le _ _) (by omega)
          have htake : kids.take 16 = kids := List.take_of_length_le (by omega)
          rw [htake]
          generalize (List.filter (fun r : Nd.Rf => decide (r.kind ≠ 0)) kids).length = T at *
          have c2 := hFr.c2
          replace hFr := Lib.hid hFr
          clear hx1 hpre hkl htake
          by_cases h2 : 2 ≤ T
          · have h2' : (T : Int) ≥ 2 := by omega
            have hx := Lib.hid (show X = true by rw [hXo, decide_eq_true]; omega)
            clear hXo hoc
            go_wp2_with fail
            go_ret
            exact ⟨ret_bool hx.out.symm, hFr.out.bel⟩
          · have h2' : ¬ (T : Int) ≥ 2 := by omega
            by_cases h1 : T = 1
            · subst h1
              by_cases hv : 0 < nv
              · have hv' : (nv : Int) > 0 := by omega
                have hx := Lib.hid (show X = true by rw [hXo, hoc, if_pos hv]; rfl)
                clear hXo hoc
                go_wp2_with fail
                go_ret
                exact ⟨ret_bool hx.out.symm, hFr.out.bel⟩
              · have hv' : ¬ (nv : Int) > 0 := by omega
                have hx := Lib.hid (show X = false by rw [hXo, hoc, if_neg hv]; rfl)
                clear hXo hoc
                go_wp2_with fail
                go_ret
                exact ⟨ret_bool hx.out.symm, hFr.out.bel⟩
            · have h1' : ¬ (T : Int) = 1 := by omega
              have hx := Lib.hid (show X = false by rw [hXo, hoc, decide_eq_false]; split <;> omega)
              clear hXo hoc
              go_wp2_with fail
              go_ret
              exact ⟨ret_bool hx.out.symm, hFr.out.bel⟩
end Go.Proofs.Yteknhmhmepnfjaa

/-
  The reference of chapter 2: copied, head.
-/
namespace Go.Proofs.Yteknhmhmepnfjaa
open Go.RowKit

theorem ref_copied (A : Option Addr) (n c B : Nat) (l : List UInt8) (w : World) (h : Bytes w B A n c l) (hB : B ≤ w.heap.size) (hl : l.length ≤ 140737488355328) :
    Calls Try.prog 66 #[.slice A n c] w (PostB w l) := by
  have hlen := h.len
  subst hlen
  have ho : w.ownsRow w.heap.size 5 1 (.slice none 0 0) 0 (bv []) := World.ownsRow_nil _ _ _ _
  go_enter Try.func66, Try.ntmps66
  go_wp2_with (at_builtin; refine wpList_append_u8 rfl _ _ rfl w.heap.size _ 0 [] rfl ho B _ _ _ l rfl h (by omega) (by simp) ?_; intro A1 c1 w1 hown1 hb1)
  rw [List.nil_append, Nat.zero_add] at hown1
  go_ret
  exact ⟨_, _, _, rfl, by simp, by simpa using hown1, hb1⟩
theorem own_lit2 (w : World) (cs : Array Value) (l : List UInt8) (h : cs.toList = bv l) (hm : l.length ≤ maxLen) {n : Nat} (hn : n = l.length) : NewB w (w.alloc (.cells cs 5)) (some ⟨w.heap.size, 0, none⟩) n n l :=
  ⟨hn, own_lit w cs l w.heap.size h hm (Nat.le_refl _) hn, (Below.refl _ _).alloc (Nat.le_refl _) _⟩
theorem u8_toNat (z : Nat) (h : z < 256) : (((UInt8.ofNat z).toNat : Nat) : Int) = z := by simp; omega
theorem u8_cell {z : Int} {k : Nat} (h : z = k) (hk : k < 256) : Value.int .u8 z = .int .u8 ((UInt8.ofNat k).toNat : Int) := by rw [u8_toNat _ hk, h]
theorem ref_head (base n : Nat) (w : World) (hb : base + 58 < 256) (hn : n ≤ Ns.maxBytes) : Calls Try.prog 57 #[.int .i64 base, .int .i64 n] w (PostB w (Ns.head base n)) := by
  unfold Ns.maxBytes at hn
  by_cases h1 : n ≤ 55
  · have e : Ns.head base n = [UInt8.ofNat (base + n)] := Ns.head_small base n h1
    have h1' : (n : Int) ≤ 55 := by omega
    have hN := own_lit2 w #[.int .u8 ((base : Int) + n)] [UInt8.ofNat (base + n)] (by show [_] = [_]; rw [u8_cell (z := (base : Int) + n) (k := base + n) (by omega) (by omega)]) (by simp [maxLen]) (n := 1) rfl
    rw [← e] at hN
    clear e
    generalize Ns.head base n = L at hN ⊢
    replace hN := Lib.hid hN
    go_enter Try.func57, Try.ntmps57
    go_wp2
    go_ret
    exact ⟨_, _, _, rfl, hN.out⟩
  · have e : Ns.head base n = UInt8.ofNat (base + 55 + (Wd.be 8 n).length) :: Wd.be 8 n := by unfold Ns.head; rw [if_neg h1]
    have h1' : ¬ (n : Int) ≤ 55 := by omega
    by_cases h2 : n < 256
    · have h2' : (n : Int) < 256 := by omega
      rw [Wd.be_one 7 n (by omega) h2] at e
      simp only [List.length_singleton] at e
      have hN := own_lit2 w #[.int .u8 ((base : Int) + 56), .int .u8 (n : Int)] [UInt8.ofNat (base + 55 + 1), UInt8.ofNat n] (by show [_, _] = [_, _]; rw [u8_cell (z := (base : Int) + 56) (k := base + 55 + 1) (by omega) (by omega), u8_cell (z := (n : Int)) (k := n) rfl (by omega)]) (by simp [maxLen]) (n := 2) rfl
      rw [← e] at hN
      clear e
      generalize Ns.head base n = L at hN ⊢
      replace hN := Lib.hid hN
      go_enter Try.func57, Try.ntmps57
      go_wp2
      go_ret
      exact ⟨_, _, _, rfl, hN.out⟩
    · have h2' : ¬ (n : Int) < 256 := by omega
      by_cases h3 : n < 65536
      · have h3' : (n : Int) < 65536 := by omega
        rw [Wd.be_two 6 n (by omega) h3] at e
        simp only [List.length_cons, List.length_nil] at e
        have hN := own_lit2 w #[.int .u8 ((base : Int) + 57), .int .u8 ((n : Int) / 256), .int .u8 ((n : Int) % 256)] [UInt8.ofNat (base + 55 + (0 + 1 + 1)), UInt8.ofNat (n / 256), UInt8.ofNat (n % 256)]
          (by show [_, _, _] = [_, _, _]; rw [u8_cell (z := (base : Int) + 57) (k := base + 55 + (0 + 1 + 1)) (by omega) (by omega), u8_cell (z := (n : Int) / 256) (k := n / 256) (by omega) (by omega), u8_cell (z := (n : Int) % 256) (k := n % 256) (by omega) (by omega)]) (by simp [maxLen]) (n := 3) rfl
        rw [← e] at hN
        clear e
        generalize Ns.head base n = L at hN ⊢
        replace hN := Lib.hid hN
        go_enter Try.func57, Try.ntmps57
        go_wp2
        go_ret
        exact ⟨_, _, _, rfl, hN.out⟩
      · have h3' : ¬ (n : Int) < 65536 := by omega
        rw [Wd.be_three 5 n (by omega) (by omega)] at e
        simp only [List.length_cons, List.length_nil] at e
        have hN := own_lit2 w #[.int .u8 ((base : Int) + 58), .int .u8 ((n : Int) / 65536), .int .u8 ((n : Int) / 256 % 256), .int .u8 ((n : Int) % 256)] [UInt8.ofNat (base + 55 + (0 + 1 + 1 + 1)), UInt8.ofNat (n / 65536), UInt8.ofNat (n / 256 % 256), UInt8.ofNat (n % 256)]
          (by show [_, _, _, _] = [_, _, _, _]; rw [u8_cell (z := (base : Int) + 58) (k := base + 55 + (0 + 1 + 1 + 1)) (by omega) (by omega), u8_cell (z := (n : Int) / 65536) (k := n / 65536) (by omega) (by omega), u8_cell (z := (n : Int) / 256 % 256) (k := n / 256 % 256) (by omega) (by omega), u8_cell (z := (n : Int) % 256) (k := n % 256) (by omega) (by omega)]) (by simp [maxLen]) (n := 4) rfl
        rw [← e] at hN
        clear e
        generalize Ns.head base n = L at hN ⊢
        replace hN := Lib.hid hN
        go_enter Try.func57, Try.ntmps57
        go_wp2
        go_ret
        exact ⟨_, _, _, rfl, hN.out⟩
end Go.Proofs.Yteknhmhmepnfjaa

/-
  The reference of chapter 2: first, of texts.
-/
namespace Go.Proofs.Yteknhmhmepnfjaa
open Go.RowKit

/-- the bytes from a place up to another -/
def cutL (l : List UInt8) (a b : Nat) : List UInt8 := (l.take b).drop a
theorem cutL_len (l : List UInt8) (a b : Nat) (h : b ≤ l.length) : (cutL l a b).length = b - a := by unfold cutL; rw [List.length_drop, List.length_take]; omega
theorem cutL_nil (l : List UInt8) (a : Nat) (h : a ≤ l.length) : cutL l a a = [] := List.eq_nil_of_length_eq_zero (by rw [cutL_len l a a h]; omega)
theorem cutL_cons (l : List UInt8) (a b : Nat) (h : a < b) (hb : b ≤ l.length) : cutL l a b = l[a] :: cutL l (a + 1) b := by
  unfold cutL
  rw [List.drop_eq_getElem_cons (by rw [List.length_take]; omega), List.getElem_take]
theorem cutL_drop (l : List UInt8) (a b k : Nat) : (cutL l a b).drop k = cutL l (a + k) b := by unfold cutL; rw [List.drop_drop]
theorem cutL_take (l : List UInt8) (a b k : Nat) (h : a + k ≤ b) : (cutL l a b).take k = cutL l a (a + k) := by
  unfold cutL
  rw [List.take_drop, List.take_take, Nat.min_eq_left h]
theorem cutL_at (l : List UInt8) (a b i : Nat) (h : a + i < b) (hb : b ≤ l.length) : (cutL l a b)[i]? = some (l[a + i]'(by omega)) := by
  unfold cutL
  rw [List.getElem?_drop, List.getElem?_take, if_pos h, List.getElem?_eq_getElem]
/-- what first answers -/
def FstQ (d : Nat) (t : List UInt8) (E : Nat) (w : World) (e : Ending) (w' : World) : Prop := Below w.heap.size w w' ∧ match Ns.item d t with
  | .ok (x, r) => ∃ v, e = .returned (.tuple #[v, .int .i64 ((E - r.length : Nat) : Int), .int .i64 0]) ∧ Sits (fun b => w.heap.size ≤ b) w' (d + 1) v x
  | .error k => e = .returned (.tuple #[itemZ, .int .i64 0, .int .i64 k]) ∧ k ≠ 0
theorem FstQ.bad {d : Nat} {t : List UInt8} {E : Nat} {w w' : World} {k : Int} (h : Ns.item d t = .error k) (hb : Below w.heap.size w w') (hk : k ≠ 0) : FstQ d t E w (.returned (.tuple #[itemZ, .int .i64 0, .int .i64 k])) w' := by
  refine ⟨hb, ?_⟩
  rw [h]
  exact ⟨rfl, hk⟩
theorem FstQ.good {d : Nat} {t r : List UInt8} {E : Nat} {w w' : World} {x : Ns.It (d + 1)} {v : Value} {z : Int} (h : Ns.item d t = .ok (x, r)) (hb : Below w.heap.size w w') (hz : z = ((E - r.length : Nat) : Int)) (hv : Sits (fun b => w.heap.size ≤ b) w' (d + 1) v x) : FstQ d t E w (.returned (.tuple #[v, .int .i64 z, .int .i64 0])) w' := by
  refine ⟨hb, ?_⟩
  rw [h, hz]
  exact ⟨v, rfl, hv⟩
/-- the end: a text of new bytes -/
theorem fst_text {d : Nat} {t r b : List UInt8} {E B : Nat} {w w3 : World} {A : Option Addr} {m c : Nat} {z : Int} (hx : Ns.item d t = .ok (Ns.tx b, r)) (hown : w3.ownsRow B 5 1 (.slice A m c) m (bv b)) (hB : w.heap.size < B) (hm : m = b.length)
    (hbe : Below w.heap.size w w3) (hz : z = ((E - r.length : Nat) : Int)) (cs : Array Value) : FstQ d t E w (.returned (.tuple #[txV A m c, .int .i64 z, .int .i64 0])) (w3.setRow w.heap.size cs) := by
  have ho := Own.of_row hown
  exact FstQ.good hx (below_row hbe (Nat.le_refl _) _) hz (Sits.text hm ho.cap ho.lim ((InS.of_own ho).move (fun g hg1 hg2 => ⟨by omega, setRow_other w3 _ g cs (by omega)⟩) (by simp)))
set_option maxHeartbeats 1000000 in
set_option maxRecDepth 100000 in
theorem first_low (d D : Nat) (hD : D ≤ 8) (A : Option Addr) (n c B : Nat) (l : List UInt8) (w : World) (a E : Nat) (h : Bytes w B A n c l) (hB : B ≤ w.heap.size) (haE : a ≤ E) (hE : E ≤ n) (hc : ∀ y t, cutL l a E = y :: t → y.toNat < 128) :
    Calls Try.prog 61 #[.slice A n c, .int .i64 a, .int .i64 E, .int .i64 D] w (FstQ d (cutL l a E) E w) := by
  have hlen := h.len
  subst hlen
  have hn63 : (l.length : Int) ≤ 9223372036854775807 := by have := h.cap; have := h.lim; unfold maxLen at *; omega
  have hb0 : Blk (w.alloc (.cells rowZ 48)) w.heap.size 48 rowZ := Blk.new w _ _
  have hbe : Below w.heap.size w (w.alloc (.cells rowZ 48)) := (Below.refl _ _).alloc (Nat.le_refl _) _
  have hs0 : (w.alloc (.cells rowZ 48)).heap.size = w.heap.size + 1 := by simp
  replace hbe := Lib.hid hbe
  replace hb0 := Lib.hid hb0
  replace hs0 := Lib.hid hs0
  rcases Nat.lt_or_ge a E with hlt | hge
  · have hlt' : ¬ (E : Int) ≤ a := by omega
    have hcc := cutL_cons l a E hlt hE
    have hlow := hc _ _ hcc
    have hx := Ns.item_one d l[a] (cutL l (a + 1) E) hlow
    rw [← hcc] at hx
    replace hx := Lib.hid hx
    have hrl := Lib.hid (cutL_len l (a + 1) E hE)
    obtain ⟨g, o, u, rfl, hg, hu, hcl⟩ := h.reads.at_ (k := a) (by omega)
    rw [bv_at l a (by omega)] at hu
    cases hu
    have hl1 : (l[a].toNat : Int) < 128 := by omega
    have hl2 : ¬ (192 : Int) ≤ l[a].toNat := by omega
    have ha1 : IntKind.i64.wrap ((a : Int) + 1) = (a : Int) + 1 := by rw [IntKind.wrap_i64]; omega
    generalize hty : l[a] = y at *
    have hcl2 : (w.alloc (.cells #[.bool false, .slice none 0 0, .slice none 0 0] 48)).cell? ⟨g, o + a, none⟩ = some (.int .u8 (y.toNat : Int)) := (World.cell?_alloc_lt w _ ⟨g, o + a, none⟩ (by show g < _; omega)).trans hcl
    replace hc := Lib.hid hc
    replace h := Lib.hid h
    replace hty := Lib.hid hty
    replace hcc := Lib.hid hcc
    clear hcl
    go_enter Try.func61, Try.ntmps61
    go_wp2_with (refine wpList_store_row rfl 48 _ _ rfl w.heap.size #[.bool false, .slice (some ⟨w.heap.size + 1, 0, none⟩) 1 1, .slice none 0 0] rfl rfl _ _ (hb0.out.alloc _) info_item3 rfl (by simp [Value.oneCell']) ?_)
    refine bodyPost_ret (v := .tuple #[.agg #[.bool false, .slice (some ⟨w.heap.size + 1, 0, none⟩) 1 1, .slice none 0 0], .int .i64 ((a : Int) + 1), .int .i64 0]) (results_row_tmps rfl _ _ w.heap.size _ #[.bool false, .slice (some ⟨w.heap.size + 1, 0, none⟩) 1 1, .slice none 0 0] _ _ _ _ rfl rfl rfl ((hb0.out.alloc _).row _) Try.underlying48 rfl info_item3) rfl ?_
    have hown := own_lit (n := 1) (w.alloc (.cells rowZ 48)) #[.int .u8 (y.toNat : Int)] [y] (w.heap.size + 1) rfl (by simp [maxLen]) (by simp) rfl
    rw [hs0.out] at hown
    exact fst_text hx.out hown (Nat.lt_succ_self _) rfl (hbe.out.alloc (by rw [hs0.out]; omega) _) (by rw [hrl.out]; omega) _
  · obtain rfl : a = E := by omega
    have hx := Lib.hid (show Ns.item d (cutL l a a) = .error 22 by rw [cutL_nil l a hE]; exact Ns.item_nil d)
    have hlt' : (a : Int) ≤ a := by omega
    replace hc := Lib.hid hc
    replace h := Lib.hid h
    go_enter Try.func61, Try.ntmps61
    go_wp2_with (refine wpList_store_row rfl 48 _ _ rfl w.heap.size #[.bool false, .slice none 0 0, .slice none 0 0] rfl rfl _ _ hb0.out info_item3 rfl (by simp [Value.oneCell']) ?_)
    refine bodyPost_ret (v := .tuple #[.agg #[.bool false, .slice none 0 0, .slice none 0 0], .int .i64 0, .int .i64 22]) (results_row_tmps rfl _ _ w.heap.size _ #[.bool false, .slice none 0 0, .slice none 0 0] _ _ _ _ rfl rfl rfl (hb0.out.row _) Try.underlying48 rfl info_item3) rfl ?_
    exact FstQ.bad hx.out (below_row hbe.out (Nat.le_refl _) _) (by decide)
end Go.Proofs.Yteknhmhmepnfjaa

/-
  The reference of chapter 2: first, of texts.
-/
namespace Go.Proofs.Yteknhmhmepnfjaa
open Go.RowKit

theorem fst_slice {w : World} {B c g o a v E : Nat} {l : List UInt8} (hb : Bytes w B (some ⟨g, o, none⟩) l.length c l) (hE : E ≤ l.length) (hv : a + v ≤ E) (hc : c ≠ a) : Bytes w B (some ⟨g, o + a, none⟩) v (c - a) ((cutL l a E).take v) := by
  have h1 := (hb.cutIf (k := a) (by omega)).takeN (k := v) (by omega)
  rw [if_neg hc, Option.map_some, add_mk, show (l.drop a).take v = (cutL l a E).take v from by rw [cutL_take l a E v hv]; unfold cutL; rw [List.take_drop]] at h1
  exact h1
theorem fst_slice0 {w : World} {B c g o a v E : Nat} {l : List UInt8} (hb : Bytes w B (some ⟨g, o, none⟩) l.length c l) (hE : E ≤ l.length) (hv : a + v ≤ E) (hc : c = a) : Bytes w B (some ⟨g, o, none⟩) v 0 ((cutL l a E).take v) := by
  have h1 := (hb.cutIf (k := a) (by omega)).takeN (k := v) (by omega)
  rw [if_pos hc, show (l.drop a).take v = (cutL l a E).take v from by rw [cutL_take l a E v hv]; unfold cutL; rw [List.take_drop], show c - a = 0 by omega] at h1
  exact h1
set_option maxHeartbeats 4000000 in
set_option maxRecDepth 100000 in
theorem first_text (d D : Nat) (hD : D ≤ 8) (A : Option Addr) (n c B : Nat) (l : List UInt8) (w : World) (a E : Nat) (h : Bytes w B A n c l) (hB : B ≤ w.heap.size) (haE : a < E) (hE : E ≤ n) (hc1 : 128 ≤ (l[a]'(by have := h.len; omega)).toNat) (hc2 : (l[a]'(by have := h.len; omega)).toNat < 192) :
    Calls Try.prog 61 #[.slice A n c, .int .i64 a, .int .i64 E, .int .i64 D] w (FstQ d (cutL l a E) E w) := by
  have hlen := h.len
  subst hlen
  have hn63 : (l.length : Int) ≤ 9223372036854775807 := by have := h.cap; have := h.lim; unfold maxLen at *; omega
  have hn46 : l.length ≤ maxLen := by have := h.cap; have := h.lim; omega
  have hcap : (l.length : Int) ≤ c := by have := h.cap; omega
  have hb0 : Blk (w.alloc (.cells rowZ 48)) w.heap.size 48 rowZ := Blk.new w _ _
  have hbe : Below w.heap.size w (w.alloc (.cells rowZ 48)) := (Below.refl _ _).alloc (Nat.le_refl _) _
  have hs0 : (w.alloc (.cells rowZ 48)).heap.size = w.heap.size + 1 := by simp
  have hb := (h.alloc hB (.cells rowZ 48))
  replace hbe := Lib.hid hbe
  replace hb0 := Lib.hid hb0
  replace hs0 := Lib.hid hs0
  have hcc := cutL_cons l a E haE hE
  have hx := Ns.item_tx d l[a] (cutL l (a + 1) E) (by omega) hc2
  rw [← hcc] at hx
  unfold Ns.textOf at hx
  obtain ⟨g, o, u, rfl, hg, hu, hcl⟩ := h.reads.at_ (k := a) (by omega)
  rw [bv_at l a (by omega)] at hu
  cases hu
  have hcl2 : (w.alloc (.cells #[.bool false, .slice none 0 0, .slice none 0 0] 48)).cell? ⟨g, o + a, none⟩ = some (.int .u8 (l[a].toNat : Int)) := (World.cell?_alloc_lt w _ ⟨g, o + a, none⟩ (by show g < _; omega)).trans hcl
  have ha1 : IntKind.i64.wrap ((a : Int) + 1) = ((a + 1 : Nat) : Int) := by rw [IntKind.wrap_i64]; omega
  have hl1 : ¬ (l[a].toNat : Int) < 128 := by omega
  have hl2 : ¬ (192 : Int) ≤ l[a].toNat := by omega
  have hN : IntKind.i64.wrap ((l[a].toNat : Int) - 128) = ((l[a].toNat - 128 : Nat) : Int) := by rw [IntKind.wrap_i64]; omega
  have hN63 : l[a].toNat - 128 ≤ 63 := by have := l[a].toNat_lt; omega
  have hlt' : ¬ (E : Int) ≤ a := by omega
  generalize l[a] = y at *
  obtain ⟨N, hNe⟩ : ∃ N, N = y.toNat - 128 := ⟨_, rfl⟩
  rw [← hNe] at hN hx hN63
  replace hNe := Lib.hid hNe
  replace h := Lib.hid h
  replace hcc := Lib.hid hcc
  replace hb := Lib.hid hb
  clear hcl
  go_enter Try.func61, Try.ntmps61
  by_cases h55 : N ≤ 55
  · have hsz : Ns.size N (cutL l (a + 1) E) = .ok (N, cutL l (a + 1) E) := by unfold Ns.size; rw [if_pos h55]
    rw [hsz] at hx
    simp only at hx
    have h55' : (N : Int) ≤ 55 := by omega
    clear hsz
    replace hx := Lib.hid hx
    have hRl := Lib.hid (cutL_len l (a + 1) E hE)
    by_cases hv : (cutL l (a + 1) E).length < N
    · have hx2 := hx.out
      rw [if_pos hv] at hx2
      replace hx2 := Lib.hid hx2
      have hv' : (E : Int) - ((a + 1 : Nat) : Int) < ((N : Nat) : Int) := by rw [hRl.out] at hv; omega
      have hEw : IntKind.i64.wrap ((E : Int) - ((a + 1 : Nat) : Int)) = (E : Int) - ((a + 1 : Nat) : Int) := by rw [IntKind.wrap_i64]; omega
      clear hv hx
      go_wp2_with (refine wpList_store_row rfl 48 _ _ rfl w.heap.size #[.bool false, .slice none 0 0, .slice none 0 0] rfl rfl _ _ hb0.out info_item3 rfl (by simp [Value.oneCell']) ?_)
      refine bodyPost_ret (v := .tuple #[.agg #[.bool false, .slice none 0 0, .slice none 0 0], .int .i64 0, .int .i64 22]) (results_row_tmps rfl _ _ w.heap.size _ #[.bool false, .slice none 0 0, .slice none 0 0] _ _ _ _ rfl rfl rfl (hb0.out.row _) Try.underlying48 rfl info_item3) rfl ?_
      exact FstQ.bad (hx2).out (below_row hbe.out (Nat.le_refl _) _) (by decide)

    · have hx2 := hx.out
      rw [if_neg hv] at hx2
      replace hx2 := Lib.hid hx2
      have hv0 : a + 1 + N ≤ E := by rw [hRl.out] at hv; omega
      have hv' : ¬ (E : Int) - ((a + 1 : Nat) : Int) < ((N : Nat) : Int) := by omega
      have hEw : IntKind.i64.wrap ((E : Int) - ((a + 1 : Nat) : Int)) = (E : Int) - ((a + 1 : Nat) : Int) := by rw [IntKind.wrap_i64]; omega
      clear hv hx
      by_cases hv1 : N = 1
      · have hcy := cutL_cons l (a + 1) E (by omega) hE
        obtain ⟨g5, o5, u5, he5, hg5, hu5, hcl5⟩ := hb.out.reads.at_ (k := a + 1) (by omega)
        simp only [Option.some.injEq, Addr.mk.injEq, and_true] at he5
        obtain ⟨rfl, rfl⟩ := he5
        rw [bv_at l (a + 1) (by omega)] at hu5
        cases hu5
        have hcl6 : (w.alloc (.cells #[.bool false, .slice none 0 0, .slice none 0 0] 48)).cell? ⟨g, o + (a + 1), none⟩ = some (.int .u8 ((l[a + 1]'(by omega)).toNat : Int)) := hcl5
        have hr1 : Ns.encT.rd1 (cutL l (a + 1) E) = (l[a + 1]'(by omega)).toNat := by rw [hcy]; rfl
        have hy256 := (l[a + 1]'(by omega)).toNat_lt
        generalize (l[a + 1]'(by omega)).toNat = y2 at *
        clear hcl5
        replace hcy := Lib.hid hcy
        subst hv1
        by_cases hy : y2 < 128
        · have hx3 := hx2.out
          rw [if_pos ⟨rfl, by rw [hr1]; exact hy⟩] at hx3
          replace hx3 := Lib.hid hx3
          have hy' : (y2 : Int) < 128 := by omega
          clear hx2 hr1
          go_wp2_with (refine wpList_store_row rfl 48 _ _ rfl w.heap.size #[.bool false, .slice none 0 0, .slice none 0 0] rfl rfl _ _ hb0.out info_item3 rfl (by simp [Value.oneCell']) ?_)
          refine bodyPost_ret (v := .tuple #[.agg #[.bool false, .slice none 0 0, .slice none 0 0], .int .i64 0, .int .i64 23]) (results_row_tmps rfl _ _ w.heap.size _ #[.bool false, .slice none 0 0, .slice none 0 0] _ _ _ _ rfl rfl rfl (hb0.out.row _) Try.underlying48 rfl info_item3) rfl ?_
          exact FstQ.bad (hx3).out (below_row hbe.out (Nat.le_refl _) _) (by decide)

        · have hx3 := hx2.out
          rw [if_neg (fun e => hy (by rw [← hr1]; exact e.2))] at hx3
          replace hx3 := Lib.hid hx3
          have hy' : ¬ (y2 : Int) < 128 := by omega
          clear hx2 hr1
          have hbl := Lib.hid (show ((cutL l (a + 1) E).take (1)).length = 1 by rw [List.length_take, hRl.out]; omega)
          have hcat : ¬ c = a + 1 := by omega
          have hby := Lib.hid (fst_slice hb.out hE (a := a + 1) (v := 1) (by omega) hcat)
          clear hb
          have hf := ref_copied _ _ _ _ _ _ hby.out (by rw [hs0.out]; omega) (by rw [hbl.out]; omega)
          go_wp2_with fail
          refine hf.mono ?_
          rintro e w2 ⟨A2, m2, c2, rfl, hN⟩
          have hs0' := hs0.out
          have hb2 := hb0.out.below hN.2.2 (by omega)
          have hbe2 := hbe.out.trans (hN.2.2.mono (by omega))
          replace hN := Lib.hid hN
          replace hbe2 := Lib.hid hbe2
          clear hf
          go_wp2_with (refine wpList_store_row rfl 48 _ _ rfl w.heap.size #[.bool false, .slice A2 m2 c2, .slice none 0 0] rfl rfl _ _ hb2 info_item3 rfl (by simp [Value.oneCell']) ?_)
          refine bodyPost_ret (v := .tuple #[.agg #[.bool false, .slice A2 m2 c2, .slice none 0 0], .int .i64 _, .int .i64 0]) (results_row_tmps rfl _ _ w.heap.size _ #[.bool false, .slice A2 m2 c2, .slice none 0 0] _ _ _ _ rfl rfl rfl (hb2.row _) Try.underlying48 rfl info_item3) rfl ?_
          exact fst_text hx3.out hN.out.2.1 (by omega) hN.out.1 hbe2.out (by rw [List.length_drop, hRl.out]; omega) _


      · have hv1' : ¬ ((N : Nat) : Int) = 1 := by omega
        have hx3 := hx2.out
        rw [if_neg (fun e => hv1 e.1)] at hx3
        replace hx3 := Lib.hid hx3
        clear hx2
        have hbl := Lib.hid (show ((cutL l (a + 1) E).take (N)).length = N by rw [List.length_take, hRl.out]; omega)
        by_cases hcat : c = a + 1
        · have hby := Lib.hid (fst_slice0 hb.out hE (a := a + 1) (v := N) (by omega) hcat)
          subst hcat
          clear hb
          have hf := ref_copied _ _ _ _ _ _ hby.out (by rw [hs0.out]; omega) (by rw [hbl.out]; omega)
          go_wp2_with fail
          refine hf.mono ?_
          rintro e w2 ⟨A2, m2, c2, rfl, hN⟩
          have hs0' := hs0.out
          have hb2 := hb0.out.below hN.2.2 (by omega)
          have hbe2 := hbe.out.trans (hN.2.2.mono (by omega))
          replace hN := Lib.hid hN
          replace hbe2 := Lib.hid hbe2
          clear hf
          go_wp2_with (refine wpList_store_row rfl 48 _ _ rfl w.heap.size #[.bool false, .slice A2 m2 c2, .slice none 0 0] rfl rfl _ _ hb2 info_item3 rfl (by simp [Value.oneCell']) ?_)
          refine bodyPost_ret (v := .tuple #[.agg #[.bool false, .slice A2 m2 c2, .slice none 0 0], .int .i64 _, .int .i64 0]) (results_row_tmps rfl _ _ w.heap.size _ #[.bool false, .slice A2 m2 c2, .slice none 0 0] _ _ _ _ rfl rfl rfl (hb2.row _) Try.underlying48 rfl info_item3) rfl ?_
          exact fst_text hx3.out hN.out.2.1 (by omega) hN.out.1 hbe2.out (by rw [List.length_drop, hRl.out]; omega) _

        · have hby := Lib.hid (fst_slice hb.out hE (a := a + 1) (v := N) (by omega) hcat)
          clear hb
          have hf := ref_copied _ _ _ _ _ _ hby.out (by rw [hs0.out]; omega) (by rw [hbl.out]; omega)
          go_wp2_with fail
          refine hf.mono ?_
          rintro e w2 ⟨A2, m2, c2, rfl, hN⟩
          have hs0' := hs0.out
          have hb2 := hb0.out.below hN.2.2 (by omega)
          have hbe2 := hbe.out.trans (hN.2.2.mono (by omega))
          replace hN := Lib.hid hN
          replace hbe2 := Lib.hid hbe2
          clear hf
          go_wp2_with (refine wpList_store_row rfl 48 _ _ rfl w.heap.size #[.bool false, .slice A2 m2 c2, .slice none 0 0] rfl rfl _ _ hb2 info_item3 rfl (by simp [Value.oneCell']) ?_)
          refine bodyPost_ret (v := .tuple #[.agg #[.bool false, .slice A2 m2 c2, .slice none 0 0], .int .i64 _, .int .i64 0]) (results_row_tmps rfl _ _ w.heap.size _ #[.bool false, .slice A2 m2 c2, .slice none 0 0] _ _ _ _ rfl rfl rfl (hb2.row _) Try.underlying48 rfl info_item3) rfl ?_
          exact fst_text hx3.out hN.out.2.1 (by omega) hN.out.1 hbe2.out (by rw [List.length_drop, hRl.out]; omega) _



  by_cases h58 : 58 < N
  · have hsz : Ns.size N (cutL l (a + 1) E) = .error 23 := by unfold Ns.size; rw [if_neg h55, if_pos h58]
    rw [hsz] at hx
    simp only at hx
    have h58' : (58 : Int) < N := by omega
    clear hsz
    replace hx := Lib.hid hx
    go_wp2_with (refine wpList_store_row rfl 48 _ _ rfl w.heap.size #[.bool false, .slice none 0 0, .slice none 0 0] rfl rfl _ _ hb0.out info_item3 rfl (by simp [Value.oneCell']) ?_)
    refine bodyPost_ret (v := .tuple #[.agg #[.bool false, .slice none 0 0, .slice none 0 0], .int .i64 0, .int .i64 23]) (results_row_tmps rfl _ _ w.heap.size _ #[.bool false, .slice none 0 0, .slice none 0 0] _ _ _ _ rfl rfl rfl (hb0.out.row _) Try.underlying48 rfl info_item3) rfl ?_
    exact FstQ.bad (hx).out (below_row hbe.out (Nat.le_refl _) _) (by decide)

  obtain ⟨m, hNm⟩ : ∃ m, m = N - 55 := ⟨_, rfl⟩
  have h55' : ¬ (N : Int) ≤ 55 := by omega
  have h58' : ¬ (58 : Int) < (N : Int) := by omega
  have hmw : IntKind.i64.wrap ((N : Int) - 55) = (m : Int) := by rw [IntKind.wrap_i64]; omega
  have hR0 := cutL_len l (a + 1) E hE
  have hm1 : 0 < m := by omega
  have hm3 : m ≤ 3 := by omega
  have hEw0 : IntKind.i64.wrap ((E : Int) - ((a + 1 : Nat) : Int)) = (E : Int) - ((a + 1 : Nat) : Int) := by rw [IntKind.wrap_i64]; omega
  by_cases hsh : (cutL l (a + 1) E).length < m
  · have hsz : Ns.size N (cutL l (a + 1) E) = .error 22 := by unfold Ns.size; rw [if_neg h55, if_neg h58, ← hNm, if_pos hsh]
    rw [hsz] at hx
    simp only at hx
    have hsh' : (E : Int) - ((a + 1 : Nat) : Int) < (m : Int) := by omega
    clear hsz hsh hR0 h55 h58
    replace hNm := Lib.hid hNm
    replace hx := Lib.hid hx
    go_wp2_with (refine wpList_store_row rfl 48 _ _ rfl w.heap.size #[.bool false, .slice none 0 0, .slice none 0 0] rfl rfl _ _ hb0.out info_item3 rfl (by simp [Value.oneCell']) ?_)
    refine bodyPost_ret (v := .tuple #[.agg #[.bool false, .slice none 0 0, .slice none 0 0], .int .i64 0, .int .i64 22]) (results_row_tmps rfl _ _ w.heap.size _ #[.bool false, .slice none 0 0, .slice none 0 0] _ _ _ _ rfl rfl rfl (hb0.out.row _) Try.underlying48 rfl info_item3) rfl ?_
    exact FstQ.bad (hx).out (below_row hbe.out (Nat.le_refl _) _) (by decide)

  have hsz : Ns.size N (cutL l (a + 1) E) = if Wd.tight (cutL l (a + 1) (a + 1 + m)) = false ∨ Wd.rd (cutL l (a + 1) (a + 1 + m)) ≤ 55 then .error 23 else .ok (Wd.rd (cutL l (a + 1) (a + 1 + m)), cutL l (a + 1 + m) E) := by
    unfold Ns.size
    rw [if_neg h55, if_neg h58, ← hNm, if_neg hsh, cutL_take l (a + 1) E m (by omega), cutL_drop]
  have hmE : a + 1 + m ≤ E := by omega
  replace hNm := Lib.hid hNm
  clear h55 h58
  have htl := cutL_len l (a + 1) (a + 1 + m) (by omega)
  rw [show a + 1 + m - (a + 1) = m by omega] at htl
  have htat : ∀ k (hk : k < m), (cutL l (a + 1) (a + 1 + m))[k]? = some (l[a + 1 + k]'(Nat.lt_of_lt_of_le (Nat.add_lt_add_left hk _) (Nat.le_trans hmE hE))) := fun k hk => cutL_at l (a + 1) (a + 1 + m) k (by omega) (by omega)
  obtain ⟨t, ht⟩ : ∃ t, t = cutL l (a + 1) (a + 1 + m) := ⟨_, rfl⟩
  rw [← ht] at hsz htl htat
  rw [hsz] at hx
  have hsh' : ¬ (E : Int) - ((a + 1 : Nat) : Int) < (m : Int) := by omega
  clear hsz hsh hR0
  replace ht := Lib.hid ht
  replace hx := Lib.hid hx
  replace htl := Lib.hid htl
  replace htat := Lib.hid htat
  go_wp2_with fail
  go_loop [13, 15] (fun n i => ∃ k : Nat, k ≤ m ∧ i = .int .i64 k ∧ n = .int .i64 (Wd.rd (t.take k) : Nat)) (fun _ i => m - (intOf i).toNat)
  case atStart => exact ⟨0, Nat.zero_le _, rfl, rfl⟩
  case round =>
    obtain ⟨k, hk, rfl, rfl⟩ := hrel
    by_cases hlt : k < m
    · obtain ⟨g5, o5, u5, he5, hg5, hu5, hcl5⟩ := hb.out.reads.at_ (k := a + 1 + k) (by omega)
      simp only [Option.some.injEq, Addr.mk.injEq, and_true] at he5
      obtain ⟨rfl, rfl⟩ := he5
      rw [bv_at l (a + 1 + k) (by omega)] at hu5
      cases hu5
      have hkt : k < t.length := by rw [htl.out]; exact hlt
      have htk : t[k] = l[a + 1 + k]'(by omega) := by
        have := htat.out k hlt
        rw [List.getElem?_eq_getElem hkt] at this
        injection this
      have hcl6 : (w.alloc (.cells #[.bool false, .slice none 0 0, .slice none 0 0] 48)).cell? ⟨g, o + (a + 1 + k), none⟩ = some (.int .u8 ((l[a + 1 + k]'(by omega)).toNat : Int)) := hcl5
      have hrd := Wd.rd_snoc (t.take k) t[k]
      rw [← List.take_succ_eq_append_getElem hkt, htk] at hrd
      have hlt2 := Wd.rd_lt (t.take k)
      have hb6 : Wd.rd (t.take k) < 65536 := Nat.lt_of_lt_of_le hlt2 (by rw [List.length_take, Nat.min_eq_left (by omega)]; exact Nat.pow_le_pow_right (n := 256) (i := k) (j := 2) (by omega) (by omega))
      have hy256 := (l[a + 1 + k]'(by omega)).toNat_lt
      generalize (l[a + 1 + k]'(by omega)).toNat = y2 at *
      generalize Wd.rd (t.take k) = R at *
      have hkw : IntKind.i64.wrap (((a + 1 : Nat) : Int) + (k : Int)) = ((a + 1 + k : Nat) : Int) := by rw [IntKind.wrap_i64]; omega
      have hlt' : (k : Int) < (m : Int) := by omega
      have hw1 : IntKind.i64.wrap (256 * (R : Int)) = 256 * (R : Int) := by rw [IntKind.wrap_i64]; omega
      have hw2 : IntKind.i64.wrap (256 * (R : Int) + (y2 : Int)) = 256 * (R : Int) + (y2 : Int) := by rw [IntKind.wrap_i64]; omega
      have hil : ((a + 1 + k : Nat) : Int) < (l.length : Int) := by omega
      clear hcl5 htk hlt2
      replace hrd := Lib.hid hrd
      go_wp2_with fail
      refine ⟨⟨k + 1, by omega, by go_num, ?_⟩, ?_⟩
      · rw [hrd.out]; congr 1; omega
      · simp [intOf]; omega
    · obtain rfl : k = m := by omega
      rw [List.take_of_length_le (by rw [htl.out]; exact Nat.le_refl _)]
      obtain ⟨g5, o5, u5, he5, hg5, hu5, hcl5⟩ := hb.out.reads.at_ (k := a + 1) (by omega)
      simp only [Option.some.injEq, Addr.mk.injEq, and_true] at he5
      obtain ⟨rfl, rfl⟩ := he5
      rw [bv_at l (a + 1) (by omega)] at hu5
      cases hu5
      have hcl6 : (w.alloc (.cells #[.bool false, .slice none 0 0, .slice none 0 0] 48)).cell? ⟨g, o + (a + 1), none⟩ = some (.int .u8 ((l[a + 1]'(by omega)).toNat : Int)) := hcl5
      have htt : Wd.tight t = (l[a + 1]'(by omega) != 0) := by
        have := htat.out 0 hm1
        cases t with
        | nil => simp at this
        | cons z t =>
          simp only [List.getElem?_cons_zero, Option.some.injEq] at this
          subst this
          rfl
      obtain ⟨V, hV⟩ : ∃ V, V = Wd.rd t := ⟨_, rfl⟩
      have hV24 : V < 16777216 := by
        rw [hV]
        refine Nat.lt_of_lt_of_le (Wd.rd_lt t) ?_
        rw [htl.out]
        exact Nat.pow_le_pow_right (n := 256) (j := 3) (by omega) (by omega)
      rw [← hV]
      rw [← hV] at hx
      replace hV := Lib.hid hV
      generalize l[a + 1]'(by omega) = y2 at *
      have hy256 := y2.toNat_lt
      have hlt' : ¬ (k : Int) < (k : Int) := by omega
      clear hcl5
      by_cases hz0 : y2 = 0
      · have hy0 : (y2.toNat : Int) = 0 := by rw [hz0]; rfl
        have hx2 := hx.out
        rw [if_pos (.inl (by rw [htt, hz0]; rfl))] at hx2
        replace hx2 := Lib.hid hx2
        clear hx htt hz0
        go_wp2_with (refine wpList_store_row rfl 48 _ _ rfl w.heap.size #[.bool false, .slice none 0 0, .slice none 0 0] rfl rfl _ _ hb0.out info_item3 rfl (by simp [Value.oneCell']) ?_)
        refine bodyPost_ret (v := .tuple #[.agg #[.bool false, .slice none 0 0, .slice none 0 0], .int .i64 0, .int .i64 23]) (results_row_tmps rfl _ _ w.heap.size _ #[.bool false, .slice none 0 0, .slice none 0 0] _ _ _ _ rfl rfl rfl (hb0.out.row _) Try.underlying48 rfl info_item3) rfl ?_
        exact FstQ.bad (hx2).out (below_row hbe.out (Nat.le_refl _) _) (by decide)

      · have hy0 : ¬ (y2.toNat : Int) = 0 := fun e => hz0 (UInt8.toNat_inj.1 (show y2.toNat = 0 by omega))
        by_cases hV55 : V ≤ 55
        · have hV55' : (V : Int) < 56 := by omega
          have hx2 := hx.out
          rw [if_pos (.inr hV55)] at hx2
          replace hx2 := Lib.hid hx2
          clear hx htt hz0
          go_wp2_with (refine wpList_store_row rfl 48 _ _ rfl w.heap.size #[.bool false, .slice none 0 0, .slice none 0 0] rfl rfl _ _ hb0.out info_item3 rfl (by simp [Value.oneCell']) ?_)
          refine bodyPost_ret (v := .tuple #[.agg #[.bool false, .slice none 0 0, .slice none 0 0], .int .i64 0, .int .i64 23]) (results_row_tmps rfl _ _ w.heap.size _ #[.bool false, .slice none 0 0, .slice none 0 0] _ _ _ _ rfl rfl rfl (hb0.out.row _) Try.underlying48 rfl info_item3) rfl ?_
          exact FstQ.bad (hx2).out (below_row hbe.out (Nat.le_refl _) _) (by decide)

        · have hV55' : ¬ (V : Int) < 56 := by omega
          have hx1 := hx.out
          rw [if_neg (by rw [htt]; simp [hz0]; omega)] at hx1
          simp only at hx1
          replace hx1 := Lib.hid hx1
          have ha2 : IntKind.i64.wrap (((a + 1 : Nat) : Int) + (k : Int)) = ((a + 1 + k : Nat) : Int) := by rw [IntKind.wrap_i64]; omega
          clear hx htt hz0 hEw0
          replace hx := hx1
          clear hx1
          have hRl := Lib.hid (cutL_len l (a + 1 + k) E hE)
          by_cases hv : (cutL l (a + 1 + k) E).length < V
          · have hx2 := hx.out
            rw [if_pos hv] at hx2
            replace hx2 := Lib.hid hx2
            have hv' : (E : Int) - ((a + 1 + k : Nat) : Int) < ((V : Nat) : Int) := by rw [hRl.out] at hv; omega
            have hEw : IntKind.i64.wrap ((E : Int) - ((a + 1 + k : Nat) : Int)) = (E : Int) - ((a + 1 + k : Nat) : Int) := by rw [IntKind.wrap_i64]; omega
            clear hv hx
            go_wp2_with (refine wpList_store_row rfl 48 _ _ rfl w.heap.size #[.bool false, .slice none 0 0, .slice none 0 0] rfl rfl _ _ hb0.out info_item3 rfl (by simp [Value.oneCell']) ?_)
            refine bodyPost_ret (v := .tuple #[.agg #[.bool false, .slice none 0 0, .slice none 0 0], .int .i64 0, .int .i64 22]) (results_row_tmps rfl _ _ w.heap.size _ #[.bool false, .slice none 0 0, .slice none 0 0] _ _ _ _ rfl rfl rfl (hb0.out.row _) Try.underlying48 rfl info_item3) rfl ?_
            exact FstQ.bad (hx2).out (below_row hbe.out (Nat.le_refl _) _) (by decide)

          · have hx2 := hx.out
            rw [if_neg hv] at hx2
            replace hx2 := Lib.hid hx2
            have hv0 : a + 1 + k + V ≤ E := by rw [hRl.out] at hv; omega
            have hv' : ¬ (E : Int) - ((a + 1 + k : Nat) : Int) < ((V : Nat) : Int) := by omega
            have hEw : IntKind.i64.wrap ((E : Int) - ((a + 1 + k : Nat) : Int)) = (E : Int) - ((a + 1 + k : Nat) : Int) := by rw [IntKind.wrap_i64]; omega
            clear hv hx
            by_cases hv1 : V = 1
            · exact absurd hv1 (by omega)
            · have hv1' : ¬ ((V : Nat) : Int) = 1 := by omega
              have hx3 := hx2.out
              rw [if_neg (fun e => hv1 e.1)] at hx3
              replace hx3 := Lib.hid hx3
              clear hx2
              have hbl := Lib.hid (show ((cutL l (a + 1 + k) E).take (V)).length = V by rw [List.length_take, hRl.out]; omega)
              have hcat : ¬ c = a + 1 + k := by omega
              have hby := Lib.hid (fst_slice hb.out hE (a := a + 1 + k) (v := V) (by omega) hcat)
              clear hb
              have hf := ref_copied _ _ _ _ _ _ hby.out (by rw [hs0.out]; omega) (by rw [hbl.out]; omega)
              go_wp2_with fail
              refine hf.mono ?_
              rintro e w2 ⟨A2, m2, c2, rfl, hN⟩
              have hs0' := hs0.out
              have hb2 := hb0.out.below hN.2.2 (by omega)
              have hbe2 := hbe.out.trans (hN.2.2.mono (by omega))
              replace hN := Lib.hid hN
              replace hbe2 := Lib.hid hbe2
              clear hf
              go_wp2_with (refine wpList_store_row rfl 48 _ _ rfl w.heap.size #[.bool false, .slice A2 m2 c2, .slice none 0 0] rfl rfl _ _ hb2 info_item3 rfl (by simp [Value.oneCell']) ?_)
              refine bodyPost_ret (v := .tuple #[.agg #[.bool false, .slice A2 m2 c2, .slice none 0 0], .int .i64 _, .int .i64 0]) (results_row_tmps rfl _ _ w.heap.size _ #[.bool false, .slice A2 m2 c2, .slice none 0 0] _ _ _ _ rfl rfl rfl (hb2.row _) Try.underlying48 rfl info_item3) rfl ?_
              exact fst_text hx3.out hN.out.2.1 (by omega) hN.out.1 hbe2.out (by rw [List.length_drop, hRl.out]; omega) _



end Go.Proofs.Yteknhmhmepnfjaa

/-
  The reference of chapter 2: first, of lists.
-/
namespace Go.Proofs.Yteknhmhmepnfjaa
open Go.RowKit

/-- what items answers; its contract -/
def ItsQ (d : Nat) (t : List UInt8) (E : Nat) (w : World) (e : Ending) (w' : World) : Prop := Below w.heap.size w w' ∧ match Ns.many (Ns.item d) t.length t with
  | .ok xs => ∃ v, e = .returned (.tuple #[v, .int .i64 E, .int .i64 0]) ∧ Sits (fun b => w.heap.size ≤ b) w' (d + 1 + 1) v (Ns.ls xs)
  | .error k => e = .returned (.tuple #[itemZ, .int .i64 0, .int .i64 k]) ∧ k ≠ 0
def ItsC (d D : Nat) : Prop := ∀ (A : Option Addr) (n c B : Nat) (l : List UInt8) (w : World) (a E : Nat), Bytes w B A n c l → B ≤ w.heap.size → a ≤ E → E ≤ n → E - a ≤ 16777215 →
  Calls Try.prog 67 #[.slice A n c, .int .i64 a, .int .i64 E, .int .i64 D] w (ItsQ d (cutL l a E) E w)
set_option maxHeartbeats 4000000 in
set_option maxRecDepth 100000 in
theorem first_list (d D : Nat) (hD : D < 8) (hits : ItsC d (D + 1)) (A : Option Addr) (n c B : Nat) (l : List UInt8) (w : World) (a E : Nat) (h : Bytes w B A n c l) (hB : B ≤ w.heap.size) (haE : a < E) (hE : E ≤ n) (hc1 : 192 ≤ (l[a]'(by have := h.len; omega)).toNat) :
    Calls Try.prog 61 #[.slice A n c, .int .i64 a, .int .i64 E, .int .i64 D] w (FstQ (d + 1) (cutL l a E) E w) := by
  have hlen := h.len
  subst hlen
  have hn63 : (l.length : Int) ≤ 9223372036854775807 := by have := h.cap; have := h.lim; unfold maxLen at *; omega
  have hn46 : l.length ≤ maxLen := by have := h.cap; have := h.lim; omega
  have hcap : (l.length : Int) ≤ c := by have := h.cap; omega
  have hb0 : Blk (w.alloc (.cells rowZ 48)) w.heap.size 48 rowZ := Blk.new w _ _
  have hbe : Below w.heap.size w (w.alloc (.cells rowZ 48)) := (Below.refl _ _).alloc (Nat.le_refl _) _
  have hs0 : (w.alloc (.cells rowZ 48)).heap.size = w.heap.size + 1 := by simp
  have hb := (h.alloc hB (.cells rowZ 48))
  replace hbe := Lib.hid hbe
  replace hb0 := Lib.hid hb0
  replace hs0 := Lib.hid hs0
  have hcc := cutL_cons l a E haE hE
  have hx := Ns.item_ls d l[a] (cutL l (a + 1) E) (by omega)
  rw [← hcc] at hx
  unfold Ns.listOf at hx
  obtain ⟨g, o, u, rfl, hg, hu, hcl⟩ := h.reads.at_ (k := a) (by omega)
  rw [bv_at l a (by omega)] at hu
  cases hu
  have hcl2 : (w.alloc (.cells #[.bool false, .slice none 0 0, .slice none 0 0] 48)).cell? ⟨g, o + a, none⟩ = some (.int .u8 (l[a].toNat : Int)) := (World.cell?_alloc_lt w _ ⟨g, o + a, none⟩ (by show g < _; omega)).trans hcl
  have ha1 : IntKind.i64.wrap ((a : Int) + 1) = ((a + 1 : Nat) : Int) := by rw [IntKind.wrap_i64]; omega
  have hl1 : ¬ (l[a].toNat : Int) < 128 := by omega
  have hl2 : (192 : Int) ≤ l[a].toNat := by omega
  have hD8 : ¬ (8 : Int) ≤ (D : Int) := by omega
  have hDw : IntKind.i64.wrap ((D : Int) + 1) = ((D + 1 : Nat) : Int) := by rw [IntKind.wrap_i64]; omega
  have h256 : l[a].toNat < 256 := l[a].toNat_lt
  have hN : IntKind.i64.wrap ((l[a].toNat : Int) - 192) = ((l[a].toNat - 192 : Nat) : Int) := by rw [IntKind.wrap_i64]; omega
  have hN63 : l[a].toNat - 192 ≤ 63 := by have := l[a].toNat_lt; omega
  have hlt' : ¬ (E : Int) ≤ a := by omega
  generalize l[a] = y at *
  obtain ⟨N, hNe⟩ : ∃ N, N = y.toNat - 192 := ⟨_, rfl⟩
  rw [← hNe] at hN hx hN63
  replace hNe := Lib.hid hNe
  replace h := Lib.hid h
  replace hcc := Lib.hid hcc
  replace hb := Lib.hid hb
  replace hits := Lib.hid hits
  clear hcl
  go_enter Try.func61, Try.ntmps61
  by_cases h55 : N ≤ 55
  · have hsz : Ns.size N (cutL l (a + 1) E) = .ok (N, cutL l (a + 1) E) := by unfold Ns.size; rw [if_pos h55]
    rw [hsz] at hx
    simp only at hx
    have h55' : (N : Int) ≤ 55 := by omega
    clear hsz
    replace hx := Lib.hid hx
    have hRl := Lib.hid (cutL_len l (a + 1) E hE)
    by_cases hv : (cutL l (a + 1) E).length < N
    · have hx2 := hx.out
      rw [if_pos hv] at hx2
      replace hx2 := Lib.hid hx2
      have hv' : (E : Int) - ((a + 1 : Nat) : Int) < ((N : Nat) : Int) := by rw [hRl.out] at hv; omega
      have hEw : IntKind.i64.wrap ((E : Int) - ((a + 1 : Nat) : Int)) = (E : Int) - ((a + 1 : Nat) : Int) := by rw [IntKind.wrap_i64]; omega
      clear hv hx
      go_wp2_with (refine wpList_store_row rfl 48 _ _ rfl w.heap.size #[.bool false, .slice none 0 0, .slice none 0 0] rfl rfl _ _ hb0.out info_item3 rfl (by simp [Value.oneCell']) ?_)
      refine bodyPost_ret (v := .tuple #[.agg #[.bool false, .slice none 0 0, .slice none 0 0], .int .i64 0, .int .i64 22]) (results_row_tmps rfl _ _ w.heap.size _ #[.bool false, .slice none 0 0, .slice none 0 0] _ _ _ _ rfl rfl rfl (hb0.out.row _) Try.underlying48 rfl info_item3) rfl ?_
      exact FstQ.bad (hx2).out (below_row hbe.out (Nat.le_refl _) _) (by decide)

    · have hv0 : a + 1 + N ≤ E := by rw [hRl.out] at hv; omega
      have hx2 := hx.out
      rw [if_neg hv, cutL_take l (a + 1) E (N) hv0] at hx2
      have hv' : ¬ (E : Int) - ((a + 1 : Nat) : Int) < ((N : Nat) : Int) := by omega
      have hEw : IntKind.i64.wrap ((E : Int) - ((a + 1 : Nat) : Int)) = (E : Int) - ((a + 1 : Nat) : Int) := by rw [IntKind.wrap_i64]; omega
      have hvw : IntKind.i64.wrap (((a + 1 : Nat) : Int) + ((N : Nat) : Int)) = ((a + 1 + N : Nat) : Int) := by rw [IntKind.wrap_i64]; omega
      have hf := hits.out (some ⟨g, o, none⟩) l.length c B l _ (a + 1) (a + 1 + N) hb.out (by rw [hs0.out]; omega) (by omega) (by omega) (by omega)
      have hil := cutL_len l (a + 1) (a + 1 + N) (by omega)
      rw [show a + 1 + N - (a + 1) = N by omega] at hil
      replace hx2 := Lib.hid hx2
      clear hv hx
      go_wp2_with fail
      refine hf.mono ?_
      rintro e w2 ⟨hbe2, hq⟩
      have hs0' := hs0.out
      have hb2 := hb0.out.below hbe2 (by omega)
      have hbe3 := hbe.out.trans (hbe2.mono (by omega))
      replace hbe3 := Lib.hid hbe3
      clear hf
      rw [hil] at hq
      cases hm : Ns.many (Ns.item d) (N) (cutL l (a + 1) (a + 1 + N)) with
      | error k =>
        rw [hm] at hq
        obtain ⟨rfl, hk⟩ := hq
        have hx3 := hx2.out
        rw [hm] at hx3
        replace hx3 := Lib.hid hx3
        clear hx2 hm
        rw [show itemZ = .agg #[.bool false, .slice none 0 0, .slice none 0 0] from rfl]
        go_wp2_with (refine wpList_store_row rfl 48 _ _ rfl w.heap.size #[.bool false, .slice none 0 0, .slice none 0 0] rfl rfl _ _ hb2 info_item3 rfl (by simp [Value.oneCell']) ?_)
        refine bodyPost_ret (v := .tuple #[.agg #[.bool false, .slice none 0 0, .slice none 0 0], .int .i64 0, .int .i64 k]) (results_row_tmps rfl _ _ w.heap.size _ #[.bool false, .slice none 0 0, .slice none 0 0] _ _ _ _ rfl rfl rfl (hb2.row _) Try.underlying48 rfl info_item3) rfl ?_
        exact FstQ.bad hx3.out (below_row hbe3.out (Nat.le_refl _) _) hk
      | ok xs =>
        rw [hm] at hq
        obtain ⟨v, rfl, hv⟩ := hq
        have hx3 := hx2.out
        rw [hm] at hx3
        replace hx3 := Lib.hid hx3
        clear hx2 hm
        obtain ⟨p, q, r, rfl, _, hone⟩ := hv.cells
        replace hv := Lib.hid hv
        go_wp2_with (refine wpList_store_row rfl 48 _ _ rfl w.heap.size #[p, q, r] rfl rfl _ _ hb2 info_item3 rfl (by simpa using hone) ?_)
        refine bodyPost_ret (v := .tuple #[.agg #[p, q, r], .int .i64 _, .int .i64 0]) (results_row_tmps rfl _ _ w.heap.size _ #[p, q, r] _ _ _ _ rfl rfl rfl (hb2.row _) Try.underlying48 rfl info_item3) rfl ?_
        exact FstQ.good hx3.out (below_row hbe3.out (Nat.le_refl _) _) (by rw [List.length_drop, hRl.out]; omega) (hv.out.move _ _ _ (fun q h1 h2 => ⟨by omega, setRow_other w2 _ q _ (by omega)⟩) (by simp))

  by_cases h58 : 58 < N
  · have hsz : Ns.size N (cutL l (a + 1) E) = .error 23 := by unfold Ns.size; rw [if_neg h55, if_pos h58]
    rw [hsz] at hx
    simp only at hx
    have h58' : (58 : Int) < N := by omega
    clear hsz
    replace hx := Lib.hid hx
    go_wp2_with (refine wpList_store_row rfl 48 _ _ rfl w.heap.size #[.bool false, .slice none 0 0, .slice none 0 0] rfl rfl _ _ hb0.out info_item3 rfl (by simp [Value.oneCell']) ?_)
    refine bodyPost_ret (v := .tuple #[.agg #[.bool false, .slice none 0 0, .slice none 0 0], .int .i64 0, .int .i64 23]) (results_row_tmps rfl _ _ w.heap.size _ #[.bool false, .slice none 0 0, .slice none 0 0] _ _ _ _ rfl rfl rfl (hb0.out.row _) Try.underlying48 rfl info_item3) rfl ?_
    exact FstQ.bad (hx).out (below_row hbe.out (Nat.le_refl _) _) (by decide)

  obtain ⟨m, hNm⟩ : ∃ m, m = N - 55 := ⟨_, rfl⟩
  have h55' : ¬ (N : Int) ≤ 55 := by omega
  have h58' : ¬ (58 : Int) < (N : Int) := by omega
  have hmw : IntKind.i64.wrap ((N : Int) - 55) = (m : Int) := by rw [IntKind.wrap_i64]; omega
  have hR0 := cutL_len l (a + 1) E hE
  have hm1 : 0 < m := by omega
  have hm3 : m ≤ 3 := by omega
  have hEw0 : IntKind.i64.wrap ((E : Int) - ((a + 1 : Nat) : Int)) = (E : Int) - ((a + 1 : Nat) : Int) := by rw [IntKind.wrap_i64]; omega
  by_cases hsh : (cutL l (a + 1) E).length < m
  · have hsz : Ns.size N (cutL l (a + 1) E) = .error 22 := by unfold Ns.size; rw [if_neg h55, if_neg h58, ← hNm, if_pos hsh]
    rw [hsz] at hx
    simp only at hx
    have hsh' : (E : Int) - ((a + 1 : Nat) : Int) < (m : Int) := by omega
    clear hsz hsh hR0 h55 h58
    replace hNm := Lib.hid hNm
    replace hx := Lib.hid hx
    go_wp2_with (refine wpList_store_row rfl 48 _ _ rfl w.heap.size #[.bool false, .slice none 0 0, .slice none 0 0] rfl rfl _ _ hb0.out info_item3 rfl (by simp [Value.oneCell']) ?_)
    refine bodyPost_ret (v := .tuple #[.agg #[.bool false, .slice none 0 0, .slice none 0 0], .int .i64 0, .int .i64 22]) (results_row_tmps rfl _ _ w.heap.size _ #[.bool false, .slice none 0 0, .slice none 0 0] _ _ _ _ rfl rfl rfl (hb0.out.row _) Try.underlying48 rfl info_item3) rfl ?_
    exact FstQ.bad (hx).out (below_row hbe.out (Nat.le_refl _) _) (by decide)

  have hsz : Ns.size N (cutL l (a + 1) E) = if Wd.tight (cutL l (a + 1) (a + 1 + m)) = false ∨ Wd.rd (cutL l (a + 1) (a + 1 + m)) ≤ 55 then .error 23 else .ok (Wd.rd (cutL l (a + 1) (a + 1 + m)), cutL l (a + 1 + m) E) := by
    unfold Ns.size
    rw [if_neg h55, if_neg h58, ← hNm, if_neg hsh, cutL_take l (a + 1) E m (by omega), cutL_drop]
  have hmE : a + 1 + m ≤ E := by omega
  replace hNm := Lib.hid hNm
  clear h55 h58
  have htl := cutL_len l (a + 1) (a + 1 + m) (by omega)
  rw [show a + 1 + m - (a + 1) = m by omega] at htl
  have htat : ∀ k (hk : k < m), (cutL l (a + 1) (a + 1 + m))[k]? = some (l[a + 1 + k]'(Nat.lt_of_lt_of_le (Nat.add_lt_add_left hk _) (Nat.le_trans hmE hE))) := fun k hk => cutL_at l (a + 1) (a + 1 + m) k (by omega) (by omega)
  obtain ⟨t, ht⟩ : ∃ t, t = cutL l (a + 1) (a + 1 + m) := ⟨_, rfl⟩
  rw [← ht] at hsz htl htat
  rw [hsz] at hx
  have hsh' : ¬ (E : Int) - ((a + 1 : Nat) : Int) < (m : Int) := by omega
  clear hsz hsh hR0
  replace ht := Lib.hid ht
  replace hx := Lib.hid hx
  replace htl := Lib.hid htl
  replace htat := Lib.hid htat
  go_wp2_with fail
  go_loop [13, 15] (fun n i => ∃ k : Nat, k ≤ m ∧ i = .int .i64 k ∧ n = .int .i64 (Wd.rd (t.take k) : Nat)) (fun _ i => m - (intOf i).toNat)
  case atStart => exact ⟨0, Nat.zero_le _, rfl, rfl⟩
  case round =>
    obtain ⟨k, hk, rfl, rfl⟩ := hrel
    by_cases hlt : k < m
    · obtain ⟨g5, o5, u5, he5, hg5, hu5, hcl5⟩ := hb.out.reads.at_ (k := a + 1 + k) (by omega)
      simp only [Option.some.injEq, Addr.mk.injEq, and_true] at he5
      obtain ⟨rfl, rfl⟩ := he5
      rw [bv_at l (a + 1 + k) (by omega)] at hu5
      cases hu5
      have hkt : k < t.length := by rw [htl.out]; exact hlt
      have htk : t[k] = l[a + 1 + k]'(by omega) := by
        have := htat.out k hlt
        rw [List.getElem?_eq_getElem hkt] at this
        injection this
      have hcl6 : (w.alloc (.cells #[.bool false, .slice none 0 0, .slice none 0 0] 48)).cell? ⟨g, o + (a + 1 + k), none⟩ = some (.int .u8 ((l[a + 1 + k]'(by omega)).toNat : Int)) := hcl5
      have hrd := Wd.rd_snoc (t.take k) t[k]
      rw [← List.take_succ_eq_append_getElem hkt, htk] at hrd
      have hlt2 := Wd.rd_lt (t.take k)
      have hb6 : Wd.rd (t.take k) < 65536 := Nat.lt_of_lt_of_le hlt2 (by rw [List.length_take, Nat.min_eq_left (by omega)]; exact Nat.pow_le_pow_right (n := 256) (i := k) (j := 2) (by omega) (by omega))
      have hy256 := (l[a + 1 + k]'(by omega)).toNat_lt
      generalize (l[a + 1 + k]'(by omega)).toNat = y2 at *
      generalize Wd.rd (t.take k) = R at *
      have hkw : IntKind.i64.wrap (((a + 1 : Nat) : Int) + (k : Int)) = ((a + 1 + k : Nat) : Int) := by rw [IntKind.wrap_i64]; omega
      have hlt' : (k : Int) < (m : Int) := by omega
      have hw1 : IntKind.i64.wrap (256 * (R : Int)) = 256 * (R : Int) := by rw [IntKind.wrap_i64]; omega
      have hw2 : IntKind.i64.wrap (256 * (R : Int) + (y2 : Int)) = 256 * (R : Int) + (y2 : Int) := by rw [IntKind.wrap_i64]; omega
      have hil : ((a + 1 + k : Nat) : Int) < (l.length : Int) := by omega
      clear hcl5 htk hlt2
      replace hrd := Lib.hid hrd
      go_wp2_with fail
      refine ⟨⟨k + 1, by omega, by go_num, ?_⟩, ?_⟩
      · rw [hrd.out]; congr 1; omega
      · simp [intOf]; omega
    · obtain rfl : k = m := by omega
      rw [List.take_of_length_le (by rw [htl.out]; exact Nat.le_refl _)]
      obtain ⟨g5, o5, u5, he5, hg5, hu5, hcl5⟩ := hb.out.reads.at_ (k := a + 1) (by omega)
      simp only [Option.some.injEq, Addr.mk.injEq, and_true] at he5
      obtain ⟨rfl, rfl⟩ := he5
      rw [bv_at l (a + 1) (by omega)] at hu5
      cases hu5
      have hcl6 : (w.alloc (.cells #[.bool false, .slice none 0 0, .slice none 0 0] 48)).cell? ⟨g, o + (a + 1), none⟩ = some (.int .u8 ((l[a + 1]'(by omega)).toNat : Int)) := hcl5
      have htt : Wd.tight t = (l[a + 1]'(by omega) != 0) := by
        have := htat.out 0 hm1
        cases t with
        | nil => simp at this
        | cons z t =>
          simp only [List.getElem?_cons_zero, Option.some.injEq] at this
          subst this
          rfl
      obtain ⟨V, hV⟩ : ∃ V, V = Wd.rd t := ⟨_, rfl⟩
      have hV24 : V < 16777216 := by
        rw [hV]
        refine Nat.lt_of_lt_of_le (Wd.rd_lt t) ?_
        rw [htl.out]
        exact Nat.pow_le_pow_right (n := 256) (j := 3) (by omega) (by omega)
      rw [← hV]
      rw [← hV] at hx
      replace hV := Lib.hid hV
      generalize l[a + 1]'(by omega) = y2 at *
      have hy256 := y2.toNat_lt
      have hlt' : ¬ (k : Int) < (k : Int) := by omega
      clear hcl5
      by_cases hz0 : y2 = 0
      · have hy0 : (y2.toNat : Int) = 0 := by rw [hz0]; rfl
        have hx2 := hx.out
        rw [if_pos (.inl (by rw [htt, hz0]; rfl))] at hx2
        replace hx2 := Lib.hid hx2
        clear hx htt hz0
        go_wp2_with (refine wpList_store_row rfl 48 _ _ rfl w.heap.size #[.bool false, .slice none 0 0, .slice none 0 0] rfl rfl _ _ hb0.out info_item3 rfl (by simp [Value.oneCell']) ?_)
        refine bodyPost_ret (v := .tuple #[.agg #[.bool false, .slice none 0 0, .slice none 0 0], .int .i64 0, .int .i64 23]) (results_row_tmps rfl _ _ w.heap.size _ #[.bool false, .slice none 0 0, .slice none 0 0] _ _ _ _ rfl rfl rfl (hb0.out.row _) Try.underlying48 rfl info_item3) rfl ?_
        exact FstQ.bad (hx2).out (below_row hbe.out (Nat.le_refl _) _) (by decide)

      · have hy0 : ¬ (y2.toNat : Int) = 0 := fun e => hz0 (UInt8.toNat_inj.1 (show y2.toNat = 0 by omega))
        by_cases hV55 : V ≤ 55
        · have hV55' : (V : Int) < 56 := by omega
          have hx2 := hx.out
          rw [if_pos (.inr hV55)] at hx2
          replace hx2 := Lib.hid hx2
          clear hx htt hz0
          go_wp2_with (refine wpList_store_row rfl 48 _ _ rfl w.heap.size #[.bool false, .slice none 0 0, .slice none 0 0] rfl rfl _ _ hb0.out info_item3 rfl (by simp [Value.oneCell']) ?_)
          refine bodyPost_ret (v := .tuple #[.agg #[.bool false, .slice none 0 0, .slice none 0 0], .int .i64 0, .int .i64 23]) (results_row_tmps rfl _ _ w.heap.size _ #[.bool false, .slice none 0 0, .slice none 0 0] _ _ _ _ rfl rfl rfl (hb0.out.row _) Try.underlying48 rfl info_item3) rfl ?_
          exact FstQ.bad (hx2).out (below_row hbe.out (Nat.le_refl _) _) (by decide)

        · have hV55' : ¬ (V : Int) < 56 := by omega
          have hx1 := hx.out
          rw [if_neg (by rw [htt]; simp [hz0]; omega)] at hx1
          simp only at hx1
          replace hx1 := Lib.hid hx1
          have ha2 : IntKind.i64.wrap (((a + 1 : Nat) : Int) + (k : Int)) = ((a + 1 + k : Nat) : Int) := by rw [IntKind.wrap_i64]; omega
          clear hx htt hz0 hEw0
          replace hx := hx1
          clear hx1
          have hRl := Lib.hid (cutL_len l (a + 1 + k) E hE)
          by_cases hv : (cutL l (a + 1 + k) E).length < V
          · have hx2 := hx.out
            rw [if_pos hv] at hx2
            replace hx2 := Lib.hid hx2
            have hv' : (E : Int) - ((a + 1 + k : Nat) : Int) < ((V : Nat) : Int) := by rw [hRl.out] at hv; omega
            have hEw : IntKind.i64.wrap ((E : Int) - ((a + 1 + k : Nat) : Int)) = (E : Int) - ((a + 1 + k : Nat) : Int) := by rw [IntKind.wrap_i64]; omega
            clear hv hx
            go_wp2_with (refine wpList_store_row rfl 48 _ _ rfl w.heap.size #[.bool false, .slice none 0 0, .slice none 0 0] rfl rfl _ _ hb0.out info_item3 rfl (by simp [Value.oneCell']) ?_)
            refine bodyPost_ret (v := .tuple #[.agg #[.bool false, .slice none 0 0, .slice none 0 0], .int .i64 0, .int .i64 22]) (results_row_tmps rfl _ _ w.heap.size _ #[.bool false, .slice none 0 0, .slice none 0 0] _ _ _ _ rfl rfl rfl (hb0.out.row _) Try.underlying48 rfl info_item3) rfl ?_
            exact FstQ.bad (hx2).out (below_row hbe.out (Nat.le_refl _) _) (by decide)

          · have hv0 : a + 1 + k + V ≤ E := by rw [hRl.out] at hv; omega
            have hx2 := hx.out
            rw [if_neg hv, cutL_take l (a + 1 + k) E (V) hv0] at hx2
            have hv' : ¬ (E : Int) - ((a + 1 + k : Nat) : Int) < ((V : Nat) : Int) := by omega
            have hEw : IntKind.i64.wrap ((E : Int) - ((a + 1 + k : Nat) : Int)) = (E : Int) - ((a + 1 + k : Nat) : Int) := by rw [IntKind.wrap_i64]; omega
            have hvw : IntKind.i64.wrap (((a + 1 + k : Nat) : Int) + ((V : Nat) : Int)) = ((a + 1 + k + V : Nat) : Int) := by rw [IntKind.wrap_i64]; omega
            have hf := hits.out (some ⟨g, o, none⟩) l.length c B l _ (a + 1 + k) (a + 1 + k + V) hb.out (by rw [hs0.out]; omega) (by omega) (by omega) (by omega)
            have hil := cutL_len l (a + 1 + k) (a + 1 + k + V) (by omega)
            rw [show a + 1 + k + V - (a + 1 + k) = V by omega] at hil
            replace hx2 := Lib.hid hx2
            clear hv hx
            go_wp2_with fail
            refine hf.mono ?_
            rintro e w2 ⟨hbe2, hq⟩
            have hs0' := hs0.out
            have hb2 := hb0.out.below hbe2 (by omega)
            have hbe3 := hbe.out.trans (hbe2.mono (by omega))
            replace hbe3 := Lib.hid hbe3
            clear hf
            rw [hil] at hq
            cases hm : Ns.many (Ns.item d) (V) (cutL l (a + 1 + k) (a + 1 + k + V)) with
            | error k =>
              rw [hm] at hq
              obtain ⟨rfl, hk⟩ := hq
              have hx3 := hx2.out
              rw [hm] at hx3
              replace hx3 := Lib.hid hx3
              clear hx2 hm
              rw [show itemZ = .agg #[.bool false, .slice none 0 0, .slice none 0 0] from rfl]
              go_wp2_with (refine wpList_store_row rfl 48 _ _ rfl w.heap.size #[.bool false, .slice none 0 0, .slice none 0 0] rfl rfl _ _ hb2 info_item3 rfl (by simp [Value.oneCell']) ?_)
              refine bodyPost_ret (v := .tuple #[.agg #[.bool false, .slice none 0 0, .slice none 0 0], .int .i64 0, .int .i64 k]) (results_row_tmps rfl _ _ w.heap.size _ #[.bool false, .slice none 0 0, .slice none 0 0] _ _ _ _ rfl rfl rfl (hb2.row _) Try.underlying48 rfl info_item3) rfl ?_
              exact FstQ.bad hx3.out (below_row hbe3.out (Nat.le_refl _) _) hk
            | ok xs =>
              rw [hm] at hq
              obtain ⟨v, rfl, hv⟩ := hq
              have hx3 := hx2.out
              rw [hm] at hx3
              replace hx3 := Lib.hid hx3
              clear hx2 hm
              obtain ⟨p, q, r, rfl, _, hone⟩ := hv.cells
              replace hv := Lib.hid hv
              go_wp2_with (refine wpList_store_row rfl 48 _ _ rfl w.heap.size #[p, q, r] rfl rfl _ _ hb2 info_item3 rfl (by simpa using hone) ?_)
              refine bodyPost_ret (v := .tuple #[.agg #[p, q, r], .int .i64 _, .int .i64 0]) (results_row_tmps rfl _ _ w.heap.size _ #[p, q, r] _ _ _ _ rfl rfl rfl (hb2.row _) Try.underlying48 rfl info_item3) rfl ?_
              exact FstQ.good hx3.out (below_row hbe3.out (Nat.le_refl _) _) (by rw [List.length_drop, hRl.out]; omega) (hv.out.move _ _ _ (fun q h1 h2 => ⟨by omega, setRow_other w2 _ q _ (by omega)⟩) (by simp))

end Go.Proofs.Yteknhmhmepnfjaa

/-
  The reference of chapter 2: items.
-/
namespace Go.Proofs.Yteknhmhmepnfjaa
open Go.RowKit

def FstC (d D : Nat) : Prop := ∀ (A : Option Addr) (n c B : Nat) (l : List UInt8) (w : World) (a E : Nat), Bytes w B A n c l → B ≤ w.heap.size → a ≤ E → E ≤ n →
  Calls Try.prog 61 #[.slice A n c, .int .i64 a, .int .i64 E, .int .i64 D] w (FstQ d (cutL l a E) E w)
theorem ItL.far {S : Nat → Prop} {B d m c g : Nat} {w w' : World} {A : Option Addr} {vs : List Value} {xs : List (Ns.It d)} (h : ItL S B w d A m c vs xs) (hg : w.grownBy w' (some g)) (hgB : g < B) (hS : ∀ q, S q → q ≠ g) : ItL S B w' d A m c vs xs := by
  refine ⟨h.own.kept hg (.inr (fun e => by have := (h.own.lt _ e).1; omega)), h.len, h.all.imp fun v x hx => hx.move _ _ _ (fun q h1 h2 => ⟨h1, hg.block q h2 (fun e => ?_)⟩) hg.size⟩
  injection e with e
  rcases h1.1 with h3 | h3
  · exact hS q h3 e
  · omega
/-- where an item ends, there the next begins -/
theorem item_next {d : Nat} {l : List UInt8} {a E : Nat} {x : Ns.It (d + 1)} {r : List UInt8} (h : Ns.item d (cutL l a E) = .ok (x, r)) (haE : a ≤ E) (hE : E ≤ l.length) : cutL l (E - r.length) E = r ∧ a < E - r.length ∧ r.length ≤ E := by
  have hs := Ns.item_shorter h
  obtain ⟨hk, -⟩ := Ns.item_ok d (cutL l a E) x r h
  have hl := cutL_len l a E hE
  have hl2 := congrArg List.length hk
  rw [List.length_append] at hl2
  have hd : (cutL l a E).drop (Ns.enc (d + 1) x).length = r := by rw [hk, List.drop_left]
  rw [cutL_drop] at hd
  refine ⟨?_, by omega, by omega⟩
  rw [show E - r.length = a + (Ns.enc (d + 1) x).length by omega]
  exact hd
/-- in the midst of items -/
structure ItsI (d : Nat) (w : World) (l : List UInt8) (a E k : Nat) (A : Option Addr) (m c : Nat) (vs : List Value) (done : List (Ns.It (d + 1))) (wr : World) : Prop where
  le : a ≤ k
  leE : k ≤ E
  lst : ItL (fun _ => False) (w.heap.size + 2) wr (d + 1) A m c vs done
  cnt : m ≤ k - a
  res : Blk wr w.heap.size 48 rowZ
  it : Blk wr (w.heap.size + 1) 48 #[.bool true, .slice none 0 0, .slice A m c]
  bel : Below w.heap.size w wr
  sz : w.heap.size + 2 ≤ wr.heap.size
  eq : ∃ j, (cutL l k E).length ≤ j ∧ Ns.many (Ns.item d) (cutL l a E).length (cutL l a E) = match Ns.many (Ns.item d) j (cutL l k E) with
    | .ok xs => .ok (done ++ xs)
    | .error e => .error e
/-- the next item lies in a row of its own -/
structure ItsM (d : Nat) (w : World) (gy : Nat) (row : Array Value) (x : Ns.It (d + 1)) (A : Option Addr) (m c : Nat) (vs : List Value) (done : List (Ns.It (d + 1))) (wr : World) : Prop where
  lst : ItL (fun _ => False) (w.heap.size + 2) wr (d + 1) A m c vs done
  res : Blk wr w.heap.size 48 rowZ
  it : Blk wr (w.heap.size + 1) 48 #[.bool true, .slice none 0 0, .slice A m c]
  y : Blk wr gy 48 row
  bel : Below w.heap.size w wr
  sv : Sits (Apart (fun _ => False) (w.heap.size + 2) (.slice A m c)) wr (d + 1) (.agg row) x
  sz : w.heap.size + 2 ≤ wr.heap.size
theorem its_mid {d : Nat} {w wr w1 : World} {l : List UInt8} {a E k m c : Nat} {A : Option Addr} {vs : List Value} {done : List (Ns.It (d + 1))} {row : Array Value} {x : Ns.It (d + 1)} (h : ItsI d w l a E k A m c vs done wr) (hb : Below wr.heap.size wr w1)
    (hv : Sits (fun b => wr.heap.size ≤ b) w1 (d + 1) (.agg row) x) : ItsM d w w1.heap.size row x A m c vs done ((w1.alloc (.cells rowZ 48)).setRow w1.heap.size row) := by
  have hs := hb.size
  have hsz := h.sz
  have hb2 : Below wr.heap.size wr ((w1.alloc (.cells rowZ 48)).setRow w1.heap.size row) := below_row (hb.alloc hs _) hs _
  refine ⟨h.lst.below hb2, h.res.below hb2 (by omega), h.it.below hb2 (by omega), (Blk.new w1 _ _).row _, h.bel.trans (hb2.mono (by omega)), ?_, by have := hb2.size; omega⟩
  refine hv.move _ _ _ (fun q h1 h2 => ⟨⟨.inr (by omega), fun e => by have := (h.lst.own.lt _ e).2; omega⟩, ?_⟩) (by simp)
  exact (setRow_other _ _ q _ (by omega)).trans (Below.heap_alloc w1 _ q h2)
theorem its_next {d : Nat} {w wr w3 w5 : World} {l : List UInt8} {a E k m c c5 gy : Nat} {A A5 : Option Addr} {vs : List Value} {done : List (Ns.It (d + 1))} {row cs : Array Value} {x : Ns.It (d + 1)} {r : List UInt8} (h : ItsI d w l a E k A m c vs done wr)
    (hM : ItsM d w gy row x A m c vs done w3) (hx : Ns.item d (cutL l k E) = .ok (x, r)) (hE : E ≤ l.length) (hlt : k < E) (hL : ItL (fun _ => False) (w.heap.size + 2) w5 (d + 1) A5 (m + 1) c5 (vs ++ [.agg row]) (done ++ [x])) (hg : (w3.alloc (.cells cs 48)).grownBy w5 (Value.slice A m c).ownBlock) :
    ItsI d w l a E (E - r.length) A5 (m + 1) c5 (vs ++ [.agg row]) (done ++ [x]) (w5.setCell ⟨w.heap.size + 1, 2, none⟩ (.slice A5 (m + 1) c5)) := by
  obtain ⟨h1, h2, h3⟩ := item_next hx h.leE hE
  have hle := h.le
  have hcn := h.cnt
  have hsz := hM.sz
  have hs4 : (w3.alloc (.cells cs 48)).heap.size = w3.heap.size + 1 := by simp
  have hs5 := hg.size
  have hlow : ∀ q, q < w.heap.size + 2 → some q ≠ (Value.slice A m c).ownBlock := fun q hq e => by have := (hM.lst.own.lt q e.symm).1; omega
  have hb5 : ∀ q, q < w.heap.size + 2 → w5.heap[q]? = w3.heap[q]? := fun q hq => (hg.block q (by omega) (hlow q hq)).trans (Below.heap_alloc w3 _ q (by omega))
  have hbel : Below w.heap.size w w5 := (hM.bel.alloc (by omega) (.cells cs 48)).trans ⟨hg.os, hg.tape, hg.output, hg.size, fun q hq => hg.block q (by omega) (hlow q (by omega))⟩
  refine ⟨by omega, by omega, hL.far (g := w.heap.size + 1) (grown_set (World.grownBy.refl w5 _)) (by omega) (fun q h => h.elim), by omega, ?_, ?_, hbel.setCell (by simp) _, by rw [size_set]; omega, ?_⟩
  · exact (Below.heap_setCell w5 _ _ _ (by simp)).trans ((hb5 _ (by omega)).trans hM.res)
  · have hX5 : Blk w5 (w.heap.size + 1) 48 #[.bool true, .slice none 0 0, .slice A m c] := (hb5 _ (by omega)).trans hM.it
    exact (hX5.set_ 2 _).eq rfl
  · obtain ⟨j, hj, he⟩ := h.eq
    have hc := cutL_cons l k E hlt hE
    have hsh := Ns.item_shorter hx
    rw [he]
    obtain ⟨j, rfl⟩ : ∃ i, j = i + 1 := ⟨j - 1, by rw [hc] at hj; simp at hj; omega⟩
    refine ⟨j, by rw [h1]; omega, ?_⟩
    rw [h1]
    rw [hc] at hx ⊢
    simp only [Ns.many, hx]
    cases Ns.many (Ns.item d) j r with
    | error e => rfl
    | ok xs => simp
set_option maxHeartbeats 2000000 in
set_option maxRecDepth 100000 in
theorem ref_items (d D : Nat) (hf : FstC d D) : ItsC d D := by
  intro A n c B l w a E h hB haE hE hlim
  have hlen := h.len
  subst hlen
  have hn63 : (l.length : Int) ≤ 9223372036854775807 := by have := h.cap; have := h.lim; unfold maxLen at *; omega
  have hstart : ItsI d w l a E a none 0 0 [] [] (((w.alloc (.cells rowZ 48)).alloc (.cells rowZ 48)).setRow (w.heap.size + 1) #[.bool true, .slice none 0 0, .slice none 0 0]) := by
    have hs1 : (w.alloc (.cells rowZ 48)).heap.size = w.heap.size + 1 := by simp
    have hbe : Below w.heap.size w ((w.alloc (.cells rowZ 48)).alloc (.cells rowZ 48)) := ((Below.refl _ _).alloc (Nat.le_refl _) _).alloc (by omega) _
    have hx : Blk ((w.alloc (.cells rowZ 48)).alloc (.cells rowZ 48)) (w.heap.size + 1) 48 rowZ := Blk.new' hs1.symm
    refine ⟨Nat.le_refl _, haE, ItL.start, Nat.zero_le _, (((Blk.new w _ _).alloc _).row_far _ (by omega)), hx.row _, below_row hbe (by omega) _, by simp, _, Nat.le_refl _, ?_⟩
    cases Ns.many (Ns.item d) (cutL l a E).length (cutL l a E) <;> rfl
  have hX : Blk ((w.alloc (.cells rowZ 48)).alloc (.cells rowZ 48)) (w.heap.size + 1) 48 rowZ := Blk.new' (by simp)
  replace h := Lib.hid h
  replace hf := Lib.hid hf
  replace hstart := Lib.hid hstart
  go_enter Try.func67, Try.ntmps67
  go_wp2_with (refine wpList_store_row rfl 48 _ _ rfl (w.heap.size + 1) #[.bool true, .slice none 0 0, .slice none 0 0] rfl rfl _ _ hX info_item3 rfl (by simp [Value.oneCell']) ?_; refine list_at (ItsI d w l a E a none 0 0 [] []) hstart.out ?_; intro w2 hI2; replace hI2 := Lib.hid hI2)
  clear hX
  simp only [Act.put]
  go_loopw [1] (fun i wr => ∃ (k : Nat) (A' : Option Addr) (m c' : Nat) (vs : List Value) (done : List (Ns.It (d + 1))), i = .int .i64 k ∧ ItsI d w l a E k A' m c' vs done wr) (fun i _ => E - (intOf i).toNat)
  case atStart => exact ⟨a, _, _, _, _, _, rfl, hI2.out⟩
  case round =>
    clear hI2 hstart
    obtain ⟨k, A', m, c', vs, done, rfl, hI⟩ := hrel
    by_cases hlt : k < E
    · have hlt' : (k : Int) < E := by omega
      have hbs := hI.bel.size
      have hcall := hf.out A l.length c B l wr k E (h.out.below (hI.bel.mono hB)) (by omega) (by omega) hE
      replace hI := Lib.hid hI
      go_wp2_with fail
      refine hcall.mono ?_
      rintro e w1 ⟨hbe1, hq⟩
      have hs1 := hbe1.size
      clear hcall
      cases hx : Ns.item d (cutL l k E) with
      | error kk =>
        rw [hx] at hq
        obtain ⟨rfl, hkk⟩ := hq
        have hm : Ns.many (Ns.item d) (cutL l a E).length (cutL l a E) = .error kk := by
          obtain ⟨j, hj, he⟩ := hI.out.eq
          rw [he]
          have hc := cutL_cons l k E hlt hE
          rw [hc] at hx hj ⊢
          obtain ⟨j, rfl⟩ : ∃ i, j = i + 1 := ⟨j - 1, by simp at hj; omega⟩
          simp only [Ns.many, hx]
        replace hm := Lib.hid hm
        clear hx
        have hR1 : Blk ((w1.alloc (.cells rowZ 48)).setRow w1.heap.size #[.bool false, .slice none 0 0, .slice none 0 0]) w.heap.size 48 rowZ := (first_keep w1 _ _ (by have := hI.out.sz; omega)).trans (hI.out.res.below hbe1 (by have := hI.out.sz; omega))
        have hbe2 := below_row ((hI.out.bel.trans (hbe1.mono hbs)).alloc (by omega) (.cells rowZ 48)) (show w.heap.size ≤ w1.heap.size by omega) #[.bool false, .slice none 0 0, .slice none 0 0]
        replace hR1 := Lib.hid hR1
        replace hbe2 := Lib.hid hbe2
        rw [show itemZ = .agg #[.bool false, .slice none 0 0, .slice none 0 0] from rfl]
        go_wp2_with (first
          | (refine wpList_store_row rfl 48 _ _ rfl w1.heap.size #[.bool false, .slice none 0 0, .slice none 0 0] rfl rfl _ _ (Blk.new w1 48 rowZ) info_item3 rfl (by simp [Value.oneCell']) ?_)
          | (refine wpList_store_row rfl 48 _ _ rfl w.heap.size #[.bool false, .slice none 0 0, .slice none 0 0] rfl rfl _ _ hR1.out info_item3 rfl (by simp [Value.oneCell']) ?_))
        refine bodyPost_ret (v := .tuple #[.agg #[.bool false, .slice none 0 0, .slice none 0 0], .int .i64 0, .int .i64 kk]) (results_row_tmps rfl _ _ w.heap.size _ #[.bool false, .slice none 0 0, .slice none 0 0] _ _ _ _ rfl rfl rfl (hR1.out.row _) Try.underlying48 rfl info_item3) rfl ?_
        refine ⟨below_row hbe2.out (Nat.le_refl _) _, ?_⟩
        rw [hm.out]
        exact ⟨rfl, hkk⟩
      | ok p =>
        obtain ⟨x, r⟩ := p
        rw [hx] at hq
        obtain ⟨v, rfl, hv⟩ := hq
        obtain ⟨p, q, s, rfl, hcl, hone⟩ := hv.cells
        have hM := its_mid hI.out hbe1 hv
        have hnx := item_next hx hI.out.leE hE
        have hmlim : m < 16777216 := by have := hI.out.cnt; omega
        replace hM := Lib.hid hM
        replace hx := Lib.hid hx
        replace hnx := Lib.hid hnx
        replace hbe1 := Lib.hid hbe1
        replace hv := Lib.hid hv
        go_wp2_with (first
          | (refine wpList_store_row rfl 48 _ _ rfl w1.heap.size #[p, q, s] rfl rfl _ _ (Blk.new w1 48 rowZ) info_item3 rfl (by simpa using hone) ?_; refine list_at (ItsM d w w1.heap.size #[p, q, s] x A' m c' vs done) hM.out ?_; intro w3 hM3; have g2 : w3.cell? ⟨w.heap.size + 1, 2, none⟩ = some (.slice A' m c') := hM3.it.cell 2; replace hM3 := Lib.hid hM3)
          | (refine wpList_load_row rfl 48 _ rfl w1.heap.size rfl _ _ _ _ hM3.out.y Try.underlying48 rfl info_item3 ?_)
          | (at_builtin; refine wpList_append_it (v := .agg #[p, q, s]) rfl _ _ rfl (hM3.out.lst.below ((Below.refl _ _).alloc (Nat.le_refl _) (.cells #[p, q, s] 48))) (fun _ h => h.elim) (by have := hM3.out.sz; simp; omega) rfl rfl (by simp) (Blk.new w3 48 #[p, q, s]) (hM3.out.sv.move _ _ _ (fun q h1 h2 => ⟨h1, Below.heap_alloc w3 _ q h2⟩) (by simp)) hmlim ?_; intro A4 c4 w4 hI4 hg4; have hn := its_next hI.out hM3.out hx.out hE hlt hI4 hg4; have hX4 : Blk w4 (w.heap.size + 1) 48 #[.bool true, .slice none 0 0, .slice A' m c'] := ((hg4.block _ (by have := hM3.out.sz; simp; omega) (fun e => by have := (hM3.out.lst.own.lt _ e.symm).1; omega)).trans (Below.heap_alloc w3 _ _ (by have := hM3.out.sz; omega))).trans hM3.out.it; have gx2 : w4.cell? ⟨w.heap.size + 1, 2, none⟩ = some (.slice A' m c') := hX4.cell 2; have fx2 := hX4.frozen 2; clear hX4; replace hI4 := Lib.hid hI4; replace hg4 := Lib.hid hg4; replace hn := Lib.hid hn))
        refine ⟨⟨E - r.length, A4, m + 1, c4, _, _, rfl, hn.out⟩, ?_⟩
        have := hnx.out
        simp [intOf]; omega
    · obtain rfl : k = E := by have := hI.leE; omega
      have hlt' : ¬ (k : Int) < k := by omega
      have hO := Own.of_row hI.lst.own
      have hsz := hI.sz
      have hm : Ns.many (Ns.item d) (cutL l a k).length (cutL l a k) = .ok done := by
        obtain ⟨j, hj, he⟩ := hI.eq
        rw [he, cutL_nil l k hE, Ns.many_nil]
        simp
      have hR := hI.res
      replace hm := Lib.hid hm
      replace hO := Lib.hid hO
      replace hI := Lib.hid hI
      go_wp2_with (first
        | (refine wpList_load_row rfl 48 _ rfl (w.heap.size + 1) rfl _ _ _ _ hI.out.it Try.underlying48 rfl info_item3 ?_)
        | (refine wpList_store_row rfl 48 _ _ rfl w.heap.size #[.bool true, .slice none 0 0, .slice A' m c'] rfl rfl _ _ hR info_item3 rfl (by simp [Value.oneCell']) ?_))
      refine bodyPost_ret (v := .tuple #[.agg #[.bool true, .slice none 0 0, .slice A' m c'], .int .i64 k, .int .i64 0]) (results_row_tmps rfl _ _ w.heap.size _ #[.bool true, .slice none 0 0, .slice A' m c'] _ _ _ _ rfl rfl rfl (hR.row _) Try.underlying48 rfl info_item3) rfl ?_
      refine ⟨below_row hI.out.bel (Nat.le_refl _) _, ?_⟩
      rw [hm.out]
      refine ⟨_, rfl, A', m, c', vs, rfl, hI.out.lst.len, hO.out.cap, hO.out.lim, (InS.of_own hO.out).move (fun q h1 h2 => ⟨by omega, setRow_other wr _ q _ (by omega)⟩) (by simp), ?_⟩
      refine hI.out.lst.all.imp fun v x hx => hx.move _ _ _ (fun q h1 h2 => ?_) (by simp)
      have h3 : w.heap.size + 2 ≤ q := by rcases h1.1 with h | h; exact h.elim; exact h
      exact ⟨by omega, setRow_other wr _ q _ (by omega)⟩
end Go.Proofs.Yteknhmhmepnfjaa

/-
  The reference of chapter 2: first of all bytes, First, Decode.
-/
namespace Go.Proofs.Yteknhmhmepnfjaa
open Go.RowKit

set_option maxHeartbeats 1000000 in
set_option maxRecDepth 100000 in
theorem first_deep (A : Option Addr) (n c B : Nat) (l : List UInt8) (w : World) (a E : Nat) (h : Bytes w B A n c l) (hB : B ≤ w.heap.size) (haE : a < E) (hE : E ≤ n) (hc1 : 192 ≤ (l[a]'(by have := h.len; omega)).toNat) :
    Calls Try.prog 61 #[.slice A n c, .int .i64 a, .int .i64 E, .int .i64 8] w (FstQ 0 (cutL l a E) E w) := by
  have hlen := h.len
  subst hlen
  have hn63 : (l.length : Int) ≤ 9223372036854775807 := by have := h.cap; have := h.lim; unfold maxLen at *; omega
  have hb0 : Blk (w.alloc (.cells rowZ 48)) w.heap.size 48 rowZ := Blk.new w _ _
  have hbe : Below w.heap.size w (w.alloc (.cells rowZ 48)) := (Below.refl _ _).alloc (Nat.le_refl _) _
  replace hbe := Lib.hid hbe
  replace hb0 := Lib.hid hb0
  have hcc := cutL_cons l a E haE hE
  have hx := Ns.item_ls0 l[a] (cutL l (a + 1) E) (by omega)
  rw [← hcc] at hx
  obtain ⟨g, o, u, rfl, hg, hu, hcl⟩ := h.reads.at_ (k := a) (by omega)
  rw [bv_at l a (by omega)] at hu
  cases hu
  have hcl2 : (w.alloc (.cells #[.bool false, .slice none 0 0, .slice none 0 0] 48)).cell? ⟨g, o + a, none⟩ = some (.int .u8 (l[a].toNat : Int)) := (World.cell?_alloc_lt w _ ⟨g, o + a, none⟩ (by show g < _; omega)).trans hcl
  have hl2 : (192 : Int) ≤ l[a].toNat := by omega
  have h256 : l[a].toNat < 256 := l[a].toNat_lt
  have hlt' : ¬ (E : Int) ≤ a := by omega
  generalize l[a] = y at *
  replace h := Lib.hid h
  replace hcc := Lib.hid hcc
  replace hx := Lib.hid hx
  clear hcl
  go_enter Try.func61, Try.ntmps61
  go_wp2_with (refine wpList_store_row rfl 48 _ _ rfl w.heap.size #[.bool false, .slice none 0 0, .slice none 0 0] rfl rfl _ _ hb0.out info_item3 rfl (by simp [Value.oneCell']) ?_)
  refine bodyPost_ret (v := .tuple #[.agg #[.bool false, .slice none 0 0, .slice none 0 0], .int .i64 0, .int .i64 21]) (results_row_tmps rfl _ _ w.heap.size _ #[.bool false, .slice none 0 0, .slice none 0 0] _ _ _ _ rfl rfl rfl (hb0.out.row _) Try.underlying48 rfl info_item3) rfl ?_
  exact FstQ.bad hx.out (below_row hbe.out (Nat.le_refl _) _) (by decide)
theorem first_all : ∀ (d : Nat), d ≤ 8 → FstC d (8 - d) := by
  intro d
  induction d with
  | zero =>
    intro _ A n c B l w a E h hB haE hE
    have hlen := h.len
    rcases Nat.lt_or_ge a E with hlt | hge
    · rcases Nat.lt_or_ge (l[a]'(by omega)).toNat 128 with h1 | h1
      · refine first_low 0 8 (by omega) A n c B l w a E h hB haE hE (fun y t ht => ?_)
        rw [cutL_cons l a E hlt (by omega)] at ht
        injection ht with ht
        rw [← ht]; exact h1
      · rcases Nat.lt_or_ge (l[a]'(by omega)).toNat 192 with h2 | h2
        · exact first_text 0 8 (by omega) A n c B l w a E h hB hlt hE h1 h2
        · exact first_deep A n c B l w a E h hB hlt hE h2
    · refine first_low 0 8 (by omega) A n c B l w a E h hB haE hE (fun y t ht => ?_)
      obtain rfl : a = E := by omega
      rw [cutL_nil l a (by omega)] at ht
      cases ht
  | succ d ih =>
    intro hd A n c B l w a E h hB haE hE
    have hlen := h.len
    rcases Nat.lt_or_ge a E with hlt | hge
    · rcases Nat.lt_or_ge (l[a]'(by omega)).toNat 128 with h1 | h1
      · refine first_low _ (8 - (d + 1)) (by omega) A n c B l w a E h hB haE hE (fun y t ht => ?_)
        rw [cutL_cons l a E hlt (by omega)] at ht
        injection ht with ht
        rw [← ht]; exact h1
      · rcases Nat.lt_or_ge (l[a]'(by omega)).toNat 192 with h2 | h2
        · exact first_text _ (8 - (d + 1)) (by omega) A n c B l w a E h hB hlt hE h1 h2
        · have hi := ref_items d _ (ih (by omega))
          rw [show 8 - d = 8 - (d + 1) + 1 by omega] at hi
          exact first_list d (8 - (d + 1)) (by omega) hi A n c B l w a E h hB hlt hE h2
    · refine first_low _ (8 - (d + 1)) (by omega) A n c B l w a E h hB haE hE (fun y t ht => ?_)
      obtain rfl : a = E := by omega
      rw [cutL_nil l a (by omega)] at ht
      cases ht
/-- what First answers -/
def FirstW (l : List UInt8) (w : World) (e : Ending) (w' : World) : Prop := Below w.heap.size w w' ∧ match Ns.item 8 l with
  | .ok (x, r) => ∃ v, e = .returned (.tuple #[v, .int .i64 ((l.length - r.length : Nat) : Int), .int .i64 0]) ∧ Sits (fun b => w.heap.size ≤ b) w' 9 v x
  | .error k => e = .returned (.tuple #[itemZ, .int .i64 0, .int .i64 k]) ∧ k ≠ 0
set_option maxHeartbeats 1000000 in
set_option maxRecDepth 100000 in
theorem ref_First (A : Option Addr) (n c : Nat) (l : List UInt8) (w : World) (h : Bytes w w.heap.size A n c l) :
    Calls Try.prog 52 #[.slice A n c] w (FirstW l w) := by
  have hlen := h.len
  subst hlen
  have hs0 : (w.alloc (.cells rowZ 48)).heap.size = w.heap.size + 1 := by simp
  have hf := first_all 8 (Nat.le_refl _) A l.length c w.heap.size l (w.alloc (.cells rowZ 48)) 0 l.length (h.alloc (Nat.le_refl _) _) (by omega) (Nat.zero_le _) (Nat.le_refl _)
  have hb0 : Blk (w.alloc (.cells rowZ 48)) w.heap.size 48 rowZ := Blk.new w _ _
  have hbe : Below w.heap.size w (w.alloc (.cells rowZ 48)) := (Below.refl _ _).alloc (Nat.le_refl _) _
  rw [show cutL l 0 l.length = l by unfold cutL; simp, show ((8 - 8 : Nat) : Int) = 0 from rfl] at hf
  go_enter Try.func52, Try.ntmps52
  go_wp2_with fail
  refine hf.mono ?_
  rintro e w1 ⟨hbe1, hq⟩
  have hb1 := hb0.below hbe1 (by omega)
  have hbw := hbe.trans (hbe1.mono (by omega))
  clear hf hb0 hbe
  cases hx : Ns.item 8 l with
  | error k =>
    rw [hx] at hq
    obtain ⟨rfl, hk⟩ := hq
    replace hx := Lib.hid hx
    rw [show itemZ = .agg #[.bool false, .slice none 0 0, .slice none 0 0] from rfl]
    go_wp2_with (refine wpList_store_row rfl 48 _ _ rfl w.heap.size #[.bool false, .slice none 0 0, .slice none 0 0] rfl rfl _ _ hb1 info_item3 rfl (by simp [Value.oneCell']) ?_)
    refine bodyPost_ret (v := .tuple #[.agg #[.bool false, .slice none 0 0, .slice none 0 0], .int .i64 0, .int .i64 k]) (results_row_tmps rfl _ _ w.heap.size _ #[.bool false, .slice none 0 0, .slice none 0 0] _ _ _ _ rfl rfl rfl (hb1.row _) Try.underlying48 rfl info_item3) rfl ?_
    refine ⟨below_row hbw (Nat.le_refl _) _, ?_⟩
    rw [hx.out]
    exact ⟨rfl, hk⟩
  | ok p =>
    obtain ⟨x, r⟩ := p
    rw [hx] at hq
    obtain ⟨v, rfl, hv⟩ := hq
    obtain ⟨a, b, cc, rfl, _, hone⟩ := hv.cells
    replace hx := Lib.hid hx
    replace hv := Lib.hid hv
    go_wp2_with (refine wpList_store_row rfl 48 _ _ rfl w.heap.size #[a, b, cc] rfl rfl _ _ hb1 info_item3 rfl (by simpa using hone) ?_)
    refine bodyPost_ret (v := .tuple #[.agg #[a, b, cc], .int .i64 _, .int .i64 0]) (results_row_tmps rfl _ _ w.heap.size _ #[a, b, cc] _ _ _ _ rfl rfl rfl (hb1.row _) Try.underlying48 rfl info_item3) rfl ?_
    refine ⟨below_row hbw (Nat.le_refl _) _, ?_⟩
    rw [hx.out]
    exact ⟨_, rfl, hv.out.move _ _ _ (fun q h1 h2 => ⟨by omega, setRow_other w1 _ q _ (by omega)⟩) (by simp)⟩
set_option maxHeartbeats 1000000 in
set_option maxRecDepth 100000 in
theorem ref_Decode02 (A : Option Addr) (n c : Nat) (l : List UInt8) (w : World) (h : Bytes w w.heap.size A n c l) :
    Calls Try.prog 36 #[.slice A n c] w (DecQ l w) := by
  have hf := ref_First A n c l _ ((h.alloc (Nat.le_refl _) (.cells rowZ 48)).more (show w.heap.size ≤ (w.alloc (.cells rowZ 48)).heap.size by simp))
  have hb0 : Blk (w.alloc (.cells rowZ 48)) w.heap.size 48 rowZ := Blk.new w _ _
  have hbe : Below w.heap.size w (w.alloc (.cells rowZ 48)) := (Below.refl _ _).alloc (Nat.le_refl _) _
  have hlen := h.len
  subst hlen
  clear h
  go_enter Try.func36, Try.ntmps36
  go_wp2_with fail
  refine hf.mono ?_
  rintro e w1 ⟨hbel, hq⟩
  have hs := hbel.size
  have hs0 : (w.alloc (.cells rowZ 48)).heap.size = w.heap.size + 1 := by simp
  have hb1 := hb0.below hbel (by omega)
  have hbe1 := hbe.trans (hbel.mono (by omega))
  clear hb0 hbe hbel hf
  cases hx : Ns.item 8 l with
  | error k =>
    rw [hx] at hq
    obtain ⟨rfl, hk⟩ := hq
    have hd := Lib.hid (show Ns.dec l = .error k by unfold Ns.dec; rw [hx])
    clear hx
    have hR : Blk ((w1.alloc (.cells rowZ 48)).setRow w1.heap.size #[.bool false, .slice none 0 0, .slice none 0 0]) w.heap.size 48 rowZ := (first_keep w1 _ _ (by omega)).trans hb1
    replace hR := Lib.hid hR
    clear hb1
    rw [show itemZ = .agg #[.bool false, .slice none 0 0, .slice none 0 0] from rfl]
    go_wp2_with (first
      | (refine wpList_store_row rfl 48 _ _ rfl w1.heap.size #[.bool false, .slice none 0 0, .slice none 0 0] rfl rfl _ _ (Blk.new w1 48 rowZ) info_item3 rfl (by simp [Value.oneCell']) ?_)
      | (refine wpList_load_row rfl 48 _ rfl w1.heap.size rfl _ _ _ _ ((Blk.new w1 48 rowZ).row #[.bool false, .slice none 0 0, .slice none 0 0]) Try.underlying48 rfl info_item3 ?_)
      | (refine wpList_store_row rfl 48 _ _ rfl w.heap.size #[.bool false, .slice none 0 0, .slice none 0 0] rfl rfl _ _ hR.out info_item3 rfl (by simp [Value.oneCell']) ?_))
    refine bodyPost_ret (v := .tuple #[itemZ, .int .i64 k]) (results_row_tmp rfl _ _ w.heap.size _ #[.bool false, .slice none 0 0, .slice none 0 0] _ _ _ rfl rfl (hR.out.row _) Try.underlying48 rfl info_item3) rfl ?_
    refine ⟨below_row (below_row (hbe1.alloc (by omega) _) (by omega) _) (Nat.le_refl _) _, ?_⟩
    rw [hd.out]
    exact ⟨rfl, hk⟩
  | ok p =>
    obtain ⟨x, r⟩ := p
    rw [hx] at hq
    obtain ⟨v, rfl, hv⟩ := hq
    have hlr := Ns.item_shorter hx
    obtain ⟨a, b, cc, rfl, _, h1⟩ := hv.cells
    have hR : Blk ((w1.alloc (.cells rowZ 48)).setRow w1.heap.size #[a, b, cc]) w.heap.size 48 rowZ := (first_keep w1 _ _ (by omega)).trans hb1
    replace hR := Lib.hid hR
    clear hb1
    replace hv := Lib.hid hv
    cases r with
    | nil =>
      have hd := Lib.hid (show Ns.dec l = .ok x by unfold Ns.dec; rw [hx])
      have hnl : ¬ ((l.length - ([] : List UInt8).length : Nat) : Int) < (l.length : Int) := by simp
      clear hx
      go_wp2_with (first
      | (refine wpList_store_row rfl 48 _ _ rfl w1.heap.size #[a, b, cc] rfl rfl _ _ (Blk.new w1 48 rowZ) info_item3 rfl (by simpa using h1) ?_)
      | (refine wpList_load_row rfl 48 _ rfl w1.heap.size rfl _ _ _ _ ((Blk.new w1 48 rowZ).row #[a, b, cc]) Try.underlying48 rfl info_item3 ?_)
      | (refine wpList_store_row rfl 48 _ _ rfl w.heap.size #[a, b, cc] rfl rfl _ _ hR.out info_item3 rfl (by simpa using h1) ?_))
      refine bodyPost_ret (v := .tuple #[.agg #[a, b, cc], .int .i64 0]) (results_row_tmp rfl _ _ w.heap.size _ #[a, b, cc] _ _ _ rfl rfl (hR.out.row _) Try.underlying48 rfl info_item3) rfl ?_
      refine ⟨below_row (below_row (hbe1.alloc (by omega) _) (by omega) _) (Nat.le_refl _) _, ?_⟩
      rw [hd.out]
      refine ⟨_, rfl, hv.out.move _ _ _ (fun q h1 h2 => ?_) (by simp)⟩
      rw [hs0] at h1
      exact ⟨by omega, (setRow_other _ _ q _ (by omega)).trans (first_keep w1 _ q h2)⟩
    | cons y r =>
      have hd := Lib.hid (show Ns.dec l = .error 24 by unfold Ns.dec; rw [hx])
      have hnl : ((l.length - (y :: r).length : Nat) : Int) < (l.length : Int) := by simp at hlr ⊢; omega
      clear hx
      go_wp2_with (first
      | (refine wpList_store_row rfl 48 _ _ rfl w1.heap.size #[a, b, cc] rfl rfl _ _ (Blk.new w1 48 rowZ) info_item3 rfl (by simpa using h1) ?_)
      | (refine wpList_load_row rfl 48 _ rfl w1.heap.size rfl _ _ _ _ ((Blk.new w1 48 rowZ).row #[a, b, cc]) Try.underlying48 rfl info_item3 ?_)
      | (refine wpList_store_row rfl 48 _ _ rfl w.heap.size #[.bool false, .slice none 0 0, .slice none 0 0] rfl rfl _ _ hR.out info_item3 rfl (by simp [Value.oneCell']) ?_))
      refine bodyPost_ret (v := .tuple #[itemZ, .int .i64 24]) (results_row_tmp rfl _ _ w.heap.size _ #[.bool false, .slice none 0 0, .slice none 0 0] _ _ _ rfl rfl (hR.out.row _) Try.underlying48 rfl info_item3) rfl ?_
      refine ⟨below_row (below_row (hbe1.alloc (by omega) _) (by omega) _) (Nat.le_refl _) _, ?_⟩
      rw [hd.out]
      exact ⟨rfl, by decide⟩
end Go.Proofs.Yteknhmhmepnfjaa

/-
  The reference of chapter 2: body, Bytes.
-/
namespace Go.Proofs.Yteknhmhmepnfjaa
open Go.RowKit

def BytC (d : Nat) : Prop := ∀ (S : Nat → Prop) (v : Value) (x : Ns.It d) (w : World), Sits S w d v x → (∀ q, S q → q < w.heap.size) → (Ns.enc d x).length ≤ 16777215 → Calls Try.prog 48 #[v] w (PostB w (Ns.enc d x))
theorem ref_body_text (A : Option Addr) (n c : Nat) (l : List UInt8) (w : World) (h : Bytes w w.heap.size A n c l) (hl : l.length ≤ 140737488355328) :
    Calls Try.prog 58 #[txV A n c] w (PostB w l) := by
  have hlen := h.len
  subst hlen
  have hs0 : (w.alloc (.cells #[.bool false, .slice A l.length c, .slice none 0 0] 48)).heap.size = w.heap.size + 1 := by simp
  have ho : (w.alloc (.cells #[.bool false, .slice A l.length c, .slice none 0 0] 48)).ownsRow (w.heap.size + 1) 5 1 (.slice none 0 0) 0 (bv []) := World.ownsRow_nil _ _ _ _
  have h1 := h.alloc (Nat.le_refl _) (.cells #[.bool false, .slice A l.length c, .slice none 0 0] 48)
  have hbe : Below w.heap.size w (w.alloc (.cells #[.bool false, .slice A l.length c, .slice none 0 0] 48)) := (Below.refl _ _).alloc (Nat.le_refl _) _
  have hb0 := Blk.new w 48 #[.bool false, .slice A l.length c, .slice none 0 0]
  replace hbe := Lib.hid hbe
  replace hs0 := Lib.hid hs0
  replace hb0 := Lib.hid hb0
  unfold txV
  go_enter Try.func58, Try.ntmps58
  go_wp2_with (at_builtin; refine wpList_append_u8 rfl _ _ rfl (w.heap.size + 1) _ 0 [] rfl ho w.heap.size _ _ _ l rfl h1 (by omega) (by rw [hs0.out]; omega) ?_; intro A1 c1 w1 hown1 hb1; have g2 : w1.cell? ⟨w.heap.size, 2, none⟩ = some (.slice none 0 0) := (hb0.out.below hb1 (by omega)).cell 2; replace hb1 := Lib.hid hb1)
  refine wp_loop_rounds 1 ?_
  rw [rounds_succ]; go_wp2_with fail
  rw [List.nil_append, Nat.zero_add] at hown1
  go_ret
  refine ⟨A1, l.length, c1, rfl, new_of (m := l.length) (m' := l.length) rfl rfl hbe.out (by rw [hs0.out]; simpa using hown1) (hb1.out.mono (by rw [hs0.out]; omega))⟩
set_option maxHeartbeats 2000000 in
set_option maxRecDepth 100000 in
theorem ref_body_list (d : Nat) (hw : BytC d) (S : Nat → Prop) (A : Option Addr) (n c : Nat) (vs : List Value) (xs : List (Ns.It d)) (w : World) (hS : ∀ q, S q → q < w.heap.size) (hn : n = xs.length) (hc : n ≤ c) (hm : c ≤ maxLen)
    (hin : InS S w 3 A n (flat vs)) (hall : All2 (Sits S w d) vs xs) (hl : (xs.flatMap (Ns.enc d)).length ≤ 16777215) :
    Calls Try.prog 58 #[lsV A n c] w (PostB w (xs.flatMap (Ns.enc d))) := by
  have hn63 : (n : Int) ≤ 9223372036854775807 := by unfold maxLen at hm; omega
  subst hn
  have hs0 : (w.alloc (.cells #[.bool true, .slice none 0 0, .slice A xs.length c] 48)).heap.size = w.heap.size + 1 := by simp
  have ho : (w.alloc (.cells #[.bool true, .slice none 0 0, .slice A xs.length c] 48)).ownsRow (w.heap.size + 1) 5 1 (.slice none 0 0) 0 (bv []) := World.ownsRow_nil _ _ _ _
  have hbe : Below w.heap.size w (w.alloc (.cells #[.bool true, .slice none 0 0, .slice A xs.length c] 48)) := (Below.refl _ _).alloc (Nat.le_refl _) _
  have hb0 := Blk.new w 48 #[.bool true, .slice none 0 0, .slice A xs.length c]
  have hle : ∀ k, ((xs.take k).flatMap (Ns.enc d)).length ≤ (xs.flatMap (Ns.enc d)).length := by
    intro k
    have h1 := congrArg (fun l => (List.flatMap (Ns.enc d) l).length) (List.take_append_drop k xs)
    simp only [List.flatMap_append, List.length_append] at h1
    omega
  have hstep : ∀ k (hk : k < xs.length), (xs.take (k + 1)).flatMap (Ns.enc d) = (xs.take k).flatMap (Ns.enc d) ++ Ns.enc d xs[k] := by
    intro k hk
    rw [List.take_succ_eq_append_getElem hk, List.flatMap_append]
    simp
  replace hbe := Lib.hid hbe
  replace hb0 := Lib.hid hb0
  replace hin := Lib.hid hin
  replace hall := Lib.hid hall
  replace hS := Lib.hid hS
  replace hw := Lib.hid hw
  replace hle := Lib.hid hle
  replace hstep := Lib.hid hstep
  replace hs0 := Lib.hid hs0
  replace hl := Lib.hid hl
  clear hc hm
  unfold lsV
  go_enter Try.func58, Try.ntmps58
  go_wp2_with (at_builtin; refine wpList_append_u8 rfl _ _ rfl (w.heap.size + 1) _ 0 [] rfl ho 0 _ _ _ [] rfl (Bytes.none_ _ _ _ (Nat.zero_le _)) (by omega) (by rw [hs0.out]; omega) ?_; intro A1 c1 w1 hown1 hb1; replace hown1 := Lib.hid hown1; replace hb1 := Lib.hid hb1)
  have hs0' := hs0.out
  go_loopw [3, 4] (fun v i wr => ∃ (k m : Nat) (A' : Option Addr) (c' : Nat), k ≤ xs.length ∧ i = .int .i64 k ∧ v = .slice A' m c' ∧ m = ((xs.take k).flatMap (Ns.enc d)).length ∧ wr.ownsRow (w.heap.size + 1) 5 1 (.slice A' m c') m (bv ((xs.take k).flatMap (Ns.enc d))) ∧ Below (w.heap.size + 1) (w.alloc (.cells #[.bool true, .slice none 0 0, .slice A xs.length c] 48)) wr) (fun _ i _ => xs.length - (intOf i).toNat)
  case atStart =>
    refine ⟨0, _, _, _, Nat.zero_le _, rfl, rfl, by simp, ?_, hb1.out⟩
    simpa using hown1.out
  case round =>
    clear hown1 hb1 ho
    obtain ⟨k, m, A', c', hk, rfl, rfl, hmk, hown, hbw⟩ := hrel
    have hbl := hb0.out.below hbw (by omega)
    have g2 : wr.cell? ⟨w.heap.size, 2, none⟩ = some (.slice A xs.length c) := hbl.cell 2
    have hww := hbe.out.trans (hbw.mono (Nat.le_succ _))
    have hbs := hbw.size
    rw [hs0'] at hbs
    by_cases hlt : k < xs.length
    · have hmv : ∀ q, S q → q < w.heap.size → S q ∧ wr.heap[q]? = w.heap[q]? := fun q h1 h2 => ⟨h1, hww.block q h2⟩
      obtain ⟨g, o, a, b, cc, rfl, hSg, hg, hrg, hone, hsit⟩ := items_at (hin.out.move hmv hww.size) (hall.out.imp fun v x hx => hx.move _ _ _ hmv hww.size) rfl k hlt
      have hrg2 : wr.rangeAt g (o + k * 3) [a, b, cc] := by rw [Nat.mul_comm k 3]; exact hrg
      have hs1 := hle.out (k + 1)
      rw [hstep.out k hlt, List.length_append] at hs1
      have hlo := hl.out
      have hcall := hw.out S (.agg #[a, b, cc]) xs[k] wr hsit (fun q h => by have := hS.out q h; omega) (by omega)
      have hlt' : (k : Int) < (xs.length : Int) := by omega
      have hst := Lib.hid (hstep.out k hlt)
      clear hrg hsit hmv
      replace hmk := Lib.hid hmk
      replace hown := Lib.hid hown
      replace hbw := Lib.hid hbw
      replace hww := Lib.hid hww
      replace hbl := Lib.hid hbl
      go_wp2_with (refine wpList_load_mid rfl 48 _ rfl g (o + k * 3) rfl [a, b, cc] _ hrg2 Try.underlying48 rfl info_item3 ?_)
      refine hcall.mono ?_
      rintro e w5 ⟨A5, m5, c5, rfl, hN⟩
      have hown5 := hown.out.kept (row := none) ⟨hN.2.2.os, hN.2.2.tape, hN.2.2.output, hN.2.2.size, fun q hq _ => hN.2.2.block q hq⟩ (by cases e : (Value.slice A' m c').ownBlock with | none => exact .inl rfl | some q => exact .inr (by simp))
      have hb5 := hbw.out.trans (hN.2.2.mono hbs)
      have hby := hN.bytes
      have hm5 := hN.1
      have hs5 := hN.2.2.size
      clear hcall hN g2
      replace hb5 := Lib.hid hb5
      replace hm5 := Lib.hid hm5
      generalize hPe : (xs.take k).flatMap (Ns.enc d) = P at *
      replace hPe := Lib.hid hPe
      go_wp2_with (at_builtin; refine wpList_append_u8 rfl _ _ rfl (w.heap.size + 1) _ m P rfl hown5 _ _ _ _ (Ns.enc d xs[k]) rfl hby (by have := hm5.out; have := hmk.out; omega) (by omega) ?_; intro A6 c6 w6 hown6 hb6; replace hown6 := Lib.hid hown6; replace hb6 := Lib.hid hb6)
      refine ⟨⟨k + 1, _, _, _, by omega, by go_num, rfl, ?_, ?_, hb5.out.trans hb6.out⟩, ?_⟩
      · rw [hst.out, List.length_append, hm5.out, hmk.out]
      · rw [hst.out]; exact hown6.out
      · simp [intOf]; omega
    · obtain rfl : k = xs.length := by omega
      rw [List.take_length] at hmk hown
      have hlt' : ¬ (xs.length : Int) < (xs.length : Int) := by omega
      replace hown := Lib.hid hown
      replace hww := Lib.hid hww
      replace hbl := Lib.hid hbl
      replace hmk := Lib.hid hmk
      go_wp2_with fail
      go_ret
      exact ⟨A', m, c', rfl, new_of rfl hmk.out hbe.out (by rw [hs0']; exact hown.out) (hbw.mono (by rw [hs0']; omega))⟩
end Go.Proofs.Yteknhmhmepnfjaa

/-
  The reference of chapter 2: Bytes.
-/
namespace Go.Proofs.Yteknhmhmepnfjaa
open Go.RowKit

def bytesR (L : Bool) (l : List UInt8) : List UInt8 := if L = false ∧ l.length = 1 ∧ Ns.encT.rd1 l < 128 then l else Ns.head (if L = true then 192 else 128) l.length ++ l
set_option maxHeartbeats 2000000 in
set_option maxRecDepth 100000 in
theorem ref_bytes_core (L : Bool) (b c : Value) (w : World) (l : List UInt8) (hone : ∀ u ∈ [Value.bool L, b, c], u.oneCell' = true)
    (hbody : ∀ w', Below w.heap.size w w' → Calls Try.prog 58 #[.agg #[.bool L, b, c]] w' (PostB w' l)) (hl : l.length ≤ Ns.maxBytes) :
    Calls Try.prog 48 #[.agg #[.bool L, b, c]] w (PostB w (bytesR L l)) := by
  have hb0 : Blk (w.alloc (.cells #[.bool L, b, c] 48)) w.heap.size 48 #[.bool L, b, c] := Blk.new w _ _
  have hbe0 : Below w.heap.size w (w.alloc (.cells #[.bool L, b, c] 48)) := (Below.refl _ _).alloc (Nat.le_refl _) _
  have hs0 : (w.alloc (.cells #[.bool L, b, c] 48)).heap.size = w.heap.size + 1 := by simp
  have hbd := hbody _ hbe0
  have hl24 : (l.length : Int) ≤ 16777215 := by unfold Ns.maxBytes at hl; omega
  replace hbe0 := Lib.hid hbe0
  replace hs0 := Lib.hid hs0
  clear hbody
  go_enter Try.func48, Try.ntmps48
  go_wp2_with (refine wpList_load_row rfl 48 _ rfl w.heap.size rfl _ _ _ _ hb0 Try.underlying48 rfl info_item3 ?_)
  refine hbd.mono ?_
  rintro e w2 ⟨A1, m1, c1, rfl, hN⟩
  have hs0' := hs0.out
  have hb2 := hb0.below hN.2.2 (by omega)
  have hb2l := hb2.lt
  have g0 : w2.cell? ⟨w.heap.size, 0, none⟩ = some (.bool L) := hb2.cell 0
  have hbe2 := hbe0.out.trans (hN.2.2.mono (by omega))
  have hby := hN.bytes
  have hm1 := hN.1
  subst hm1
  have hnew : NewB w w2 A1 l.length c1 l := new_of rfl rfl hbe0.out hN.2.1 hN.2.2
  clear hbd hb0 hN hb2
  replace hnew := Lib.hid hnew
  replace hbe2 := Lib.hid hbe2
  have happ : ∀ (base : Nat) (w4 : World) (A4 : Option Addr) (m4 c4 : Nat), NewB w2 w4 A4 m4 c4 (Ns.head base l.length) → base + 58 < 256 → Bytes w4 w4.heap.size A1 l.length c1 l ∧ m4 ≤ 9 := by
    intro base w4 A4 m4 c4 h _
    refine ⟨hby.step h.2.2, ?_⟩
    rw [h.1, Ns.head_len]
    have := Wd.be_length 8 l.length
    split <;> omega
  have hfin : ∀ (base : Nat) (w4 w5 : World) (A4 A5 : Option Addr) (m4 c4 c5 : Nat), NewB w2 w4 A4 m4 c4 (Ns.head base l.length) → w5.ownsRow w2.heap.size 5 1 (.slice A5 (m4 + l.length) c5) (m4 + l.length) (bv (Ns.head base l.length ++ l)) → Below w2.heap.size w4 w5 → PostB w (Ns.head base l.length ++ l) (.returned (.slice A5 (m4 + l.length) c5)) w5 := by
    intro base w4 w5 A4 A5 m4 c4 c5 h ho hb
    exact ⟨A5, m4 + l.length, c5, rfl, new_of rfl (by rw [List.length_append, h.1]) hbe2.out ho (h.2.2.trans hb)⟩
  replace happ := Lib.hid happ
  replace hfin := Lib.hid hfin
  cases L with
  | true =>
    have hv : bytesR true l = Ns.head 192 l.length ++ l := by unfold bytesR; rw [if_neg (by simp), if_pos rfl]
    have hh := ref_head 192 l.length w2 (by omega) hl
    replace hv := Lib.hid hv
    go_wp2_with fail
    refine hh.mono ?_
    rintro e w4 ⟨A4, m4, c4, rfl, hN4⟩
    obtain ⟨hb4, hm9⟩ := happ.out 192 w4 A4 m4 c4 hN4 (by omega)
    have ho4 := hN4.2.1
    have hs4 := hN4.2.2.size
    replace hN4 := Lib.hid hN4
    clear hh g0
    go_wp2_with (at_builtin; refine wpList_append_u8 rfl _ _ rfl w2.heap.size _ m4 (Ns.head 192 l.length) rfl ho4 w4.heap.size _ _ _ l rfl hb4 (by omega) hs4 ?_; intro A6 c6 w6 hown6 hb6; replace hown6 := Lib.hid hown6; replace hb6 := Lib.hid hb6)
    go_ret
    rw [hv.out]
    exact hfin.out 192 w4 w6 A4 A6 m4 c4 c6 hN4.out hown6.out hb6.out
  | false =>
    by_cases hp : l.length = 1 ∧ Ns.encT.rd1 l < 128
    · have hv : bytesR false l = l := if_pos ⟨rfl, hp⟩
      replace hv := Lib.hid hv
      obtain ⟨h1, h2⟩ := hp
      obtain ⟨y, rfl⟩ : ∃ y, l = [y] := by
        cases l with
        | nil => simp at h1
        | cons y t => exact ⟨y, by rw [List.eq_nil_of_length_eq_zero (by simpa using h1 : t.length = 0)]⟩
      obtain ⟨g, o, u, rfl, _, hu, hcl⟩ := hby.reads.at_ (k := 0) (by simp)
      have hx' : u = .int .u8 (y.toNat : Int) := by simpa [bv] using hu.symm
      subst hx'
      rw [Nat.add_zero] at hcl
      have hy : (y.toNat : Int) < 128 := by have : y.toNat < 128 := h2; omega
      clear hu h1 h2 hl24
      simp only [List.length_singleton] at *
      go_wp2_with fail
      go_ret
      exact ⟨_, _, _, rfl, by rw [hv.out]; exact hnew.out⟩
    · have hv : bytesR false l = Ns.head 128 l.length ++ l := by unfold bytesR; rw [if_neg (fun e => hp e.2), if_neg (by simp)]
      have hh := ref_head 128 l.length w2 (by omega) hl
      replace hv := Lib.hid hv
      have fin2 : ∀ (w4 : World) (A4 : Option Addr) (m4 c4 : Nat), NewB w2 w4 A4 m4 c4 (Ns.head 128 l.length) → (Bytes w4 w4.heap.size A1 l.length c1 l ∧ m4 ≤ 9) ∧ w4.ownsRow w2.heap.size 5 1 (.slice A4 m4 c4) m4 (bv (Ns.head 128 l.length)) ∧ w2.heap.size ≤ w4.heap.size := fun w4 A4 m4 c4 h => ⟨happ.out 128 w4 A4 m4 c4 h (by omega), h.2.1, h.2.2.size⟩
      replace fin2 := Lib.hid fin2
      by_cases h1 : l.length = 1
      · obtain ⟨y, rfl⟩ : ∃ y, l = [y] := by
          cases l with
          | nil => simp at h1
          | cons y t => exact ⟨y, by rw [List.eq_nil_of_length_eq_zero (by simpa using h1 : t.length = 0)]⟩
        obtain ⟨g, o, u, rfl, _, hu, hcl⟩ := hby.reads.at_ (k := 0) (by simp)
        have hx' : u = .int .u8 (y.toNat : Int) := by simpa [bv] using hu.symm
        subst hx'
        rw [Nat.add_zero] at hcl
        have hy : ¬ (y.toNat : Int) < 128 := fun e => hp ⟨rfl, by show y.toNat < 128; omega⟩
        clear hu h1 hl24 hp
        simp only [List.length_singleton] at hh hby ⊢
        rw [show ((1 : Nat) : Int) = 1 from rfl] at hh
        go_wp2_with fail
        refine hh.mono ?_
        rintro e w4 ⟨A4, m4, c4, rfl, hN4⟩
        obtain ⟨⟨hb4, hm9⟩, ho4, hs4⟩ := fin2.out w4 A4 m4 c4 hN4
        replace hN4 := Lib.hid hN4
        clear hh g0 hcl
        go_wp2_with (at_builtin; refine wpList_append_u8 rfl _ _ rfl w2.heap.size _ m4 (Ns.head 128 1) rfl ho4 w4.heap.size _ _ _ [y] rfl hb4 (by omega) hs4 ?_; intro A6 c6 w6 hown6 hb6; replace hown6 := Lib.hid hown6; replace hb6 := Lib.hid hb6)
        go_ret
        rw [hv.out]
        exact hfin.out 128 w4 w6 A4 A6 m4 c4 c6 hN4.out hown6.out hb6.out
      · have h1' : ¬ (l.length : Int) = 1 := by omega
        go_wp2_with fail
        refine hh.mono ?_
        rintro e w4 ⟨A4, m4, c4, rfl, hN4⟩
        obtain ⟨⟨hb4, hm9⟩, ho4, hs4⟩ := fin2.out w4 A4 m4 c4 hN4
        replace hN4 := Lib.hid hN4
        clear hh g0
        go_wp2_with (at_builtin; refine wpList_append_u8 rfl _ _ rfl w2.heap.size _ m4 (Ns.head 128 l.length) rfl ho4 w4.heap.size _ _ _ l rfl hb4 (by omega) hs4 ?_; intro A6 c6 w6 hown6 hb6; replace hown6 := Lib.hid hown6; replace hb6 := Lib.hid hb6)
        go_ret
        rw [hv.out]
        exact hfin.out 128 w4 w6 A4 A6 m4 c4 c6 hN4.out hown6.out hb6.out
theorem ref_Bytes_all : ∀ (d : Nat), BytC d
  | 0 => fun S v x => nomatch x
  | d + 1 => by
    intro S v x w hsit hS hl
    have hbl := Ns.body_le (d + 1) x
    match x, hsit, hl, hbl with
    | .inl b, hsit, hl, hbl =>
      obtain ⟨A, n, c, rfl, hn, hc, hm, hin⟩ := hsit
      subst hn
      have hbl' : b.length ≤ (Ns.enc (d + 1) (.inl b)).length := hbl
      have hv : bytesR false b = Ns.enc (d + 1) (.inl b) := by
        show _ = Ns.encT b
        unfold bytesR Ns.encT
        by_cases h : b.length = 1 ∧ Ns.encT.rd1 b < 128
        · rw [if_pos h, if_pos ⟨rfl, h⟩]
        · rw [if_neg h, if_neg (fun e => h e.2), if_neg (by simp)]
      rw [← hv]
      have hB : Bytes w w.heap.size A b.length c b := ⟨rfl, hc, hm, hin.reads fun g _ h => h⟩
      refine ref_bytes_core false _ _ w b (by simp [Value.oneCell']) (fun w' hb => ?_) (by unfold Ns.maxBytes; omega)
      exact ref_body_text A b.length c b w' (hB.step hb) (by omega)
    | .inr xs, hsit, hl, hbl =>
      obtain ⟨A, n, c, vs, rfl, hn, hc, hm, hin, hall⟩ := hsit
      have hbl' : (xs.flatMap (Ns.enc d)).length ≤ (Ns.enc (d + 1) (.inr xs)).length := hbl
      have hv : bytesR true (xs.flatMap (Ns.enc d)) = Ns.enc (d + 1) (.inr xs) := by
        show _ = Ns.head 192 (xs.flatMap (Ns.enc d)).length ++ xs.flatMap (Ns.enc d)
        unfold bytesR
        rw [if_neg (by simp), if_pos rfl]
      rw [← hv]
      refine ref_bytes_core true _ _ w _ (by simp [Value.oneCell']) (fun w' hb => ?_) (by unfold Ns.maxBytes; omega)
      exact ref_body_list d (ref_Bytes_all d) S A n c vs xs w' (fun q h => Nat.lt_of_lt_of_le (hS q h) hb.size) hn hc hm (hin.move (fun q h1 h2 => ⟨h1, hb.block q h2⟩) hb.size) (hall.imp fun v x hx => hx.move _ _ _ (fun q h1 h2 => ⟨h1, hb.block q h2⟩) hb.size) (by omega)
end Go.Proofs.Yteknhmhmepnfjaa

/-
  The reference of chapter 5: item.
-/
namespace Go.Proofs.Yteknhmhmepnfjaa
open Go.RowKit

set_option maxHeartbeats 2000000 in
set_option maxRecDepth 100000 in
theorem ref_item (S : Nat → Prop) (v : Value) (r : Nd.Rf) (w : World) (hv : RefIn S w v r) (hS : ∀ q, S q → q < w.heap.size) (hr : Nd.rightRef Nd.dec r = true) :
    Calls Try.prog 30 #[v] w (ItmQ r w) := by
  obtain ⟨A, n, c, rfl, hd, hn, hc, hm, hin⟩ := hv
  have hB : Bytes w w.heap.size A n c r.inl := ⟨hn, hc, hm, hin.reads fun q _ h => h⟩
  have hI : ItmI w (refRow r.kind r.dig A n c) ((w.alloc (.cells (refRow r.kind r.dig A n c) 26)).alloc (.cells rowZ 48)) :=
    ⟨(Blk.new w _ _).alloc _, Blk.new' (by simp), ((Below.refl _ _).alloc (Nat.le_refl _) _).alloc (by simp) _, by simp⟩
  obtain ⟨k, d, inl⟩ := r
  simp only at hd hn hB hI ⊢
  clear hin
  have g0 : ((w.alloc (.cells (refRow k d A n c) 26)).alloc (.cells #[.bool false, .slice none 0 0, .slice none 0 0] 48)).cell? ⟨w.heap.size, 0, none⟩ = some (.int .i64 k) := (hI.r.cell 0).trans refRow_zero
  have g33 : ((w.alloc (.cells (refRow k d A n c) 26)).alloc (.cells #[.bool false, .slice none 0 0, .slice none 0 0] 48)).cell? ⟨w.heap.size, 33, none⟩ = some (.slice A n c) := (hI.r.cell 33).trans (refRow_last hd)
  have hBd : Bytes ((w.alloc (.cells (refRow k d A n c) 26)).alloc (.cells rowZ 48)) (w.heap.size + 1) (some ⟨w.heap.size, 1, none⟩) 32 32 d :=
    ⟨hd.symm, Nat.le_refl _, by unfold maxLen; omega, by rw [bv_length, hd], fun _ => ⟨w.heap.size, 1, rfl, by omega, fun j u hu => hI.r.dig j u hu⟩⟩
  have hDc : ∀ wr, ItmI w (refRow k d A n c) wr → ∀ (j : Nat) (hj : j < d.length), wr.cell? ⟨w.heap.size, 1 + j, none⟩ = some (.int .u8 (d[j].toNat : Int)) := fun wr h j hj => h.r.dig j _ (bv_at d j hj)
  generalize refRow k d A n c = R at *
  subst hn
  have hsz := hI.sz
  have hlim := hB.cap
  replace hB := Lib.hid hB
  by_cases h1 : k = 1
  · subst h1
    obtain ⟨hdz, h32, m, hm'⟩ := Nd.rightRef_inline hr rfl
    simp only at h32 hm'
    obtain ⟨y, hy, hl, he, hf⟩ := Nd.inline_item hm' h32
    have hit : Nd.itOf ⟨1, d, inl⟩ = y := by
      unfold Nd.itOf
      rw [if_pos rfl]
      simp only [hy, Nd.down_up]
    have hdc := ref_Decode02 A inl.length c inl _ ((hB.out.below hI.bel).more (by omega))
    replace hI := Lib.hid hI
    replace hy := Lib.hid hy
    replace hit := Lib.hid hit
    clear hr hdz hm' he hf hl hBd hDc
    go_enter Try.func30, Try.ntmps30
    go_wp2_with fail
    refine hdc.mono ?_
    rintro e w1 ⟨hb1, hq⟩
    rw [hy.out] at hq
    obtain ⟨v, rfl, hv⟩ := hq
    obtain ⟨a, b, z, rfl, hcl, hone⟩ := hv.cells
    have hv8 := Sits.down 8 _ _ hv
    have hI1 := hI.out.step hb1
    have hst := itB_stored (wr := w1) #[a, b, z]
    have hs1 := hb1.size
    clear hdc hv hcl hy hb1 g0 g33
    replace hv8 := Lib.hid hv8
    replace hI1 := Lib.hid hI1
    replace hst := Lib.hid hst
    clear hI
    go_wp2_with (first
      | (refine wpList_load_row rfl 48 _ rfl w1.heap.size rfl _ _ _ _ hI2.out.it Try.underlying48 rfl info_item3 ?_)
      | (refine wpList_store_row rfl 48 _ _ rfl (w.heap.size + 1) #[a, b, z] rfl rfl _ _ (hI1.out.step hI2.out.bel).res info_item3 rfl (by simpa using hone) ?_)
      | (refine wpList_store_row rfl 48 _ _ rfl w1.heap.size #[a, b, z] rfl rfl _ _ (Blk.new w1 48 rowZ) info_item3 rfl (by simpa using hone) ?_; refine list_at (ItB w1 _) hst.out ?_; intro w2 hI2; replace hI2 := Lib.hid hI2)
      | fail)
    refine bodyPost_ret (v := .agg #[a, b, z]) (results_cell_row rfl _ _ (w.heap.size + 1) _ #[a, b, z] _ _ rfl ((hI1.out.step hI2.out.bel).res.row _) Try.underlying48 rfl info_item3) rfl ?_
    have hfin := itm_done (hI1.out.step hI2.out.bel) (w1 := ((w.alloc (.cells R 26)).alloc (.cells rowZ 48))) hsz (hv8.out.move _ _ _ (fun q h1 h2 => ⟨h1, hI2.out.bel.block q h2⟩) hI2.out.bel.size)
    exact ⟨_, rfl, by rw [hit.out]; exact hfin.1, hfin.2⟩
  by_cases h2 : k = 2
  · subst h2
    have hit : Nd.itOf ⟨2, d, inl⟩ = Ns.tx d := rfl
    have hcd := fun (wr : World) (h : ItmI w R wr) (j : Nat) (hj : j < d.length) => hDc wr h j hj
    replace hcd := Lib.hid hcd
    have hI0 := hI
    replace hI := Lib.hid hI
    replace hit := Lib.hid hit
    replace hd := Lib.hid hd
    clear hr hBd hDc
    go_enter Try.func30, Try.ntmps30
    go_wp2_with fail
    clear g0 g33
    go_loopw [5, 6] (fun v i wr => ∃ (j : Nat) (A' : Option Addr) (c' : Nat), j ≤ 32 ∧ i = .int .i64 j ∧ v = .slice A' j c' ∧ wr.ownsRow (w.heap.size + 2) 5 1 (.slice A' j c') j (bv (d.take j)) ∧ ItmI w R wr) (fun _ i _ => 32 - (intOf i).toNat)
    case atStart => exact ⟨0, none, 0, Nat.zero_le _, rfl, rfl, World.ownsRow_nil _ _ _ _, hI0⟩
    case round =>
      clear hI0
      obtain ⟨j, A', c', hj, rfl, rfl, hown, hIr⟩ := hrel
      have hsz := hIr.sz
      by_cases hlt : j < 32
      · have hlt' : (j : Int) < 32 := by omega
        have hjd : j < d.length := by rw [hd.out]; exact hlt
        have hc1 := hcd.out wr hIr j hjd
        have htk : d.take (j + 1) = d.take j ++ [d[j]] := List.take_succ_eq_append_getElem hjd
        have hb1 : w.heap.size + 1 + j = w.heap.size + 1 + j := rfl
        generalize d[j] = y at *
        have hy := y.toNat_lt
        replace htk := Lib.hid htk
        replace hIr := Lib.hid hIr
        replace hown := Lib.hid hown
        go_wp2_with (first
          | (at_builtin; refine wpList_append1_u8 rfl _ _ rfl (w.heap.size + 2) _ j (d.take j) rfl hown.out _ y rfl _ rfl (by simp) (by omega) (by omega) ?_; intro g1 c1 w1 hown1 hg1 hb1 hs1; replace hb1 := Lib.hid hb1; replace hown1 := Lib.hid hown1)
          | fail)
        refine ⟨⟨j + 1, _, _, by omega, by go_num, rfl, by rw [htk.out]; exact hown1.out, ?_⟩, ?_⟩
        · exact ⟨hIr.out.r.below hb1.out (by omega), hIr.out.res.below hb1.out (by omega), hIr.out.bel.trans (hb1.out.mono (by omega)), Nat.le_trans hIr.out.sz hb1.out.size⟩
        · simp [intOf]; omega
      · obtain rfl : j = 32 := by omega
        have hlt' : ¬ ((32 : Nat) : Int) < 32 := by omega
        have hd32 : d.take 32 = d := List.take_of_length_le (by rw [hd.out]; exact Nat.le_refl _)
        rw [hd32] at hown
        replace hIr := Lib.hid hIr
        replace hown := Lib.hid hown
        clear hd32
        go_wp2_with (first
          | (refine wpList_store_row rfl 48 _ _ rfl (w.heap.size + 1) #[.bool false, .slice A' 32 c', .slice none 0 0] rfl rfl _ _ hIr.out.res info_item3 rfl (by simp [Value.oneCell']) ?_)
          | fail)
        refine bodyPost_ret (v := .agg #[.bool false, .slice A' 32 c', .slice none 0 0]) (results_cell_row rfl _ _ (w.heap.size + 1) _ #[.bool false, .slice A' 32 c', .slice none 0 0] _ _ rfl (hIr.out.res.row _) Try.underlying48 rfl info_item3) rfl ?_
        have hO := Own.of_row hown.out
        have hsit : Sits (fun q => w.heap.size + 2 ≤ q) wr 8 (.agg #[.bool false, .slice A' 32 c', .slice none 0 0]) (Ns.tx d) := ⟨A', 32, c', rfl, hd.out.symm, hO.cap, hO.lim, InS.of_own hO⟩
        refine ⟨_, rfl, ?_, below_row hIr.out.bel (by omega) _⟩
        rw [hit.out]
        exact hsit.move _ _ _ (fun q h1 h2 => ⟨by omega, setRow_other _ _ q _ (by omega)⟩) (by simp)
  · have hit : Nd.itOf ⟨k, d, inl⟩ = Ns.tx [] := by unfold Nd.itOf; rw [if_neg h1, if_neg h2]
    replace hI := Lib.hid hI
    replace hit := Lib.hid hit
    clear hr hBd hDc
    go_enter Try.func30, Try.ntmps30
    go_wp2_with (first
      | (refine wpList_store_row rfl 48 _ _ rfl (w.heap.size + 1) #[.bool false, .slice none 0 0, .slice none 0 0] rfl rfl _ _ hI.out.res info_item3 rfl (by simp [Value.oneCell']) ?_)
      | fail)
    refine bodyPost_ret (v := .agg #[.bool false, .slice none 0 0, .slice none 0 0]) (results_cell_row rfl _ _ (w.heap.size + 1) _ #[.bool false, .slice none 0 0, .slice none 0 0] _ _ rfl (hI.out.res.row _) Try.underlying48 rfl info_item3) rfl ?_
    have hsit : Sits (fun q => w.heap.size ≤ q) ((((w.alloc (.cells R 26)).alloc (.cells rowZ 48))).setRow (w.heap.size + 1) #[.bool false, .slice none 0 0, .slice none 0 0]) 8 (.agg #[.bool false, .slice none 0 0, .slice none 0 0]) (Ns.tx []) := ⟨none, 0, 0, rfl, rfl, Nat.le_refl _, by unfold maxLen; omega, ⟨rfl, fun h => by omega⟩⟩
    exact ⟨_, rfl, by rw [hit.out]; exact hsit, below_row hI.out.bel (by omega) _⟩
end Go.Proofs.Yteknhmhmepnfjaa

/-
  The reference of chapter 2: walk.
-/
namespace Go.Proofs.Yteknhmhmepnfjaa
open Go.RowKit

def WlkQ (W L : Nat) (w : World) (e : Ending) (w' : World) : Prop := (∃ W' : Nat, W' ≤ W + L ∧ e = .returned (.tuple #[.int .i64 W', .int .i64 0])) ∧ Below w.heap.size w w'
set_option maxHeartbeats 1000000 in
set_option maxRecDepth 100000 in
theorem ref_walk_text (D W : Nat) (A : Option Addr) (n c : Nat) (b : List UInt8) (w : World) (h : Bytes w w.heap.size A n c b) (hlim : W + max b.length 1 ≤ 16777215) :
    Calls Try.prog 46 #[txV A n c, .int .i64 D, .int .i64 W] w (WlkQ W (max b.length 1) w) := by
  have hlen := h.len
  subst hlen
  have hb0 := Blk.new w 48 #[.bool false, .slice A b.length c, .slice none 0 0]
  have hbe := Lib.hid ((Below.refl w.heap.size w).alloc (Nat.le_refl _) (.cells #[.bool false, .slice A b.length c, .slice none 0 0] 48))
  have g0 : (w.alloc (.cells #[.bool false, .slice A b.length c, .slice none 0 0] 48)).cell? ⟨w.heap.size, 0, none⟩ = some (.bool false) := hb0.cell 0
  have g1 : (w.alloc (.cells #[.bool false, .slice A b.length c, .slice none 0 0] 48)).cell? ⟨w.heap.size, 1, none⟩ = some (.slice A b.length c) := hb0.cell 1
  have g2 : (w.alloc (.cells #[.bool false, .slice A b.length c, .slice none 0 0] 48)).cell? ⟨w.heap.size, 2, none⟩ = some (.slice none 0 0) := hb0.cell 2
  clear h hb0
  unfold txV
  by_cases h1 : 1 < b.length
  · have h1' : (b.length : Int) > 1 := by omega
    have hw1 : IntKind.i64.wrap ((W : Int) + b.length) = ((W + b.length : Nat) : Int) := by rw [IntKind.wrap_i64]; omega
    have hl1 : ¬ ((W + b.length : Nat) : Int) > 16777215 := by omega
    have hmx := Lib.hid (show W + b.length ≤ W + max b.length 1 by omega)
    clear hlim
    generalize W + b.length = W1 at *
    go_enter Try.func46, Try.ntmps46
    go_wp2_with fail
    refine wp_loop_rounds 1 ?_
    rw [rounds_succ]; go_wp2_with fail
    go_ret2
    exact ⟨⟨W1, hmx.out, rfl⟩, hbe.out⟩
  · have h1' : ¬ (b.length : Int) > 1 := by omega
    have hw1 : IntKind.i64.wrap ((W : Int) + 1) = ((W + 1 : Nat) : Int) := by rw [IntKind.wrap_i64]; omega
    have hl1 : ¬ ((W + 1 : Nat) : Int) > 16777215 := by omega
    have hmx := Lib.hid (show W + 1 ≤ W + max b.length 1 by omega)
    clear hlim
    generalize W + 1 = W1 at *
    go_enter Try.func46, Try.ntmps46
    go_wp2_with fail
    refine wp_loop_rounds 1 ?_
    rw [rounds_succ]; go_wp2_with fail
    go_ret2
    exact ⟨⟨W1, hmx.out, rfl⟩, hbe.out⟩
/-- the contract of walk on items of one depth, at the place where they may stand -/
def WlkC (d : Nat) : Prop := ∀ (S : Nat → Prop) (W : Nat) (v : Value) (x : Ns.It (d + 1)) (w : World), Sits S w (d + 1) v x → (∀ q, S q → q < w.heap.size) → Ns.fit d x → W + (Ns.enc (d + 1) x).length ≤ 16777215 →
  Calls Try.prog 46 #[v, .int .i64 ((8 - d : Nat) : Int), .int .i64 W] w (WlkQ W (Ns.enc (d + 1) x).length w)
set_option maxHeartbeats 2000000 in
set_option maxRecDepth 100000 in
theorem ref_walk_list0 (d : Nat) (hw : WlkC d) (S : Nat → Prop) (D W W0 : Nat) (hde : ((8 - d : Nat) : Int) = D + 1) (hD : D = 0) (hD8 : D < 8) (hW0 : W0 = W) (A : Option Addr) (n c : Nat) (vs : List Value) (xs : List (Ns.It (d + 1))) (w : World)
    (hS : ∀ q, S q → q < w.heap.size) (hn : n = xs.length) (hc : n ≤ c) (hcm : c ≤ maxLen) (hin : InS S w 3 A n (flat vs)) (hall : All2 (Sits S w (d + 1)) vs xs) (hfit : ∀ x ∈ xs, Ns.fit d x)
    (hlim : W0 + (xs.flatMap (Ns.enc (d + 1))).length ≤ 16777215) :
    Calls Try.prog 46 #[lsV A n c, .int .i64 D, .int .i64 W] w (WlkQ W0 (xs.flatMap (Ns.enc (d + 1))).length w) := by
  have hstep : ∀ k (hk : k < xs.length), ((xs.take (k + 1)).flatMap (Ns.enc (d + 1))).length = ((xs.take k).flatMap (Ns.enc (d + 1))).length + (Ns.enc (d + 1) xs[k]).length := by
    intro k hk
    rw [List.take_succ_eq_append_getElem hk, List.flatMap_append, List.length_append]
    simp
  have hle : ∀ k, ((xs.take k).flatMap (Ns.enc (d + 1))).length ≤ (xs.flatMap (Ns.enc (d + 1))).length := by
    intro k
    have h1 := congrArg (fun l => (List.flatMap (Ns.enc (d + 1)) l).length) (List.take_append_drop k xs)
    simp only [List.flatMap_append, List.length_append] at h1
    omega
  have hn63 : (n : Int) ≤ 9223372036854775807 := by unfold maxLen at hcm; omega
  have hDw : IntKind.i64.wrap ((D : Int) + 1) = (D : Int) + 1 := by rw [IntKind.wrap_i64]; omega
  have hD8' : ¬ (D : Int) ≥ 8 := by omega
  have hlW : ¬ (W0 : Int) > 16777215 := by omega
  subst hD
  subst hW0
  replace hde := Lib.hid hde
  replace hstep := Lib.hid hstep
  replace hle := Lib.hid hle
  replace hS := Lib.hid hS
  replace hn := Lib.hid hn
  replace hin := Lib.hid hin
  replace hall := Lib.hid hall
  replace hfit := Lib.hid hfit
  replace hw := Lib.hid hw
  replace hlim := Lib.hid hlim
  clear hc hcm
  have hb0 := Blk.new w 48 #[.bool true, .slice none 0 0, .slice A n c]
  have hbe := (Below.refl w.heap.size w).alloc (Nat.le_refl _) (.cells #[.bool true, .slice none 0 0, .slice A n c] 48)
  have g0 : (w.alloc (.cells #[.bool true, .slice none 0 0, .slice A n c] 48)).cell? ⟨w.heap.size, 0, none⟩ = some (.bool true) := hb0.cell 0
  have g1 : (w.alloc (.cells #[.bool true, .slice none 0 0, .slice A n c] 48)).cell? ⟨w.heap.size, 1, none⟩ = some (.slice none 0 0) := hb0.cell 1
  replace hb0 := Lib.hid hb0
  replace hbe := Lib.hid hbe
  unfold lsV
  go_enter Try.func46, Try.ntmps46
  go_wp2_with fail
  clear g0 g1
  go_loopw [2, 8] (fun wt i wr => ∃ (k W' : Nat), k ≤ xs.length ∧ i = .int .i64 k ∧ wt = .int .i64 W' ∧ W' ≤ W0 + ((xs.take k).flatMap (Ns.enc (d + 1))).length ∧ Blk wr w.heap.size 48 #[.bool true, .slice none 0 0, .slice A n c] ∧ Below w.heap.size w wr) (fun _ i _ => xs.length - (intOf i).toNat)
  case atStart => exact ⟨0, W0, Nat.zero_le _, rfl, rfl, Nat.le_add_right _ _, hb0.out, hbe.out⟩
  case round =>
    clear hb0 hbe
    obtain ⟨k, W', hk, rfl, rfl, hW', hbr, hbel⟩ := hrel
    have g2 : wr.cell? ⟨w.heap.size, 2, none⟩ = some (.slice A n c) := hbr.cell 2
    have hbs := hbel.size
    by_cases hlt : k < xs.length
    · have hmv : ∀ q, S q → q < w.heap.size → S q ∧ wr.heap[q]? = w.heap[q]? := fun q h1 h2 => ⟨h1, hbel.block q h2⟩
      obtain ⟨gi, o, a, b, cc, rfl, hSg, hgi, hrg, hone, hsit⟩ := items_at (hin.out.move hmv hbs) (hall.out.imp fun v x hx => hx.move _ _ _ hmv hbs) hn.out k hlt
      have hrg2 : wr.rangeAt gi (o + k * 3) [a, b, cc] := by rw [Nat.mul_comm k 3]; exact hrg
      have hs1 := hle.out (k + 1)
      rw [hstep.out k hlt] at hs1
      have hlimo := hlim.out
      have hcall := hw.out S W' (.agg #[a, b, cc]) xs[k] wr hsit (fun q h => Nat.lt_of_lt_of_le (hS.out q h) hbs) (hfit.out _ (List.getElem_mem hlt)) (by omega)
      rw [hde.out] at hcall
      have hlt' : (k : Int) < n := by have := hn.out; omega
      clear hrg hsit hs1 hlimo hmv
      replace hbr := Lib.hid hbr
      replace hbel := Lib.hid hbel
      replace hW' := Lib.hid hW'
      go_wp2_with (refine wpList_load_mid rfl 48 _ rfl gi (o + k * 3) rfl [a, b, cc] _ hrg2 Try.underlying48 rfl info_item3 ?_)
      refine hcall.mono ?_
      rintro e w5 ⟨⟨W5, hW5, rfl⟩, hb5⟩
      have hbr5 := Lib.hid (hbr.out.below hb5 hbr.out.lt)
      have hbel5 := Lib.hid (hbel.out.trans (hb5.mono hbel.out.size))
      replace hW5 := Lib.hid hW5
      clear hcall hb5 g2
      go_wp2_with fail
      refine ⟨⟨k + 1, W5, by omega, by go_num, rfl, ?_, hbr5.out, hbel5.out⟩, ?_⟩
      · rw [hstep.out k hlt]
        have h1 := hW5.out
        have h2 := hW'.out
        omega
      · simp [intOf]; omega
    · obtain rfl : k = xs.length := by omega
      rw [List.take_length] at hW'
      have hlt' : ¬ (xs.length : Int) < n := by have := hn.out; omega
      replace hbr := Lib.hid hbr
      replace hbel := Lib.hid hbel
      replace hW' := Lib.hid hW'
      go_wp2_with fail
      go_ret2
      exact ⟨⟨W', by rw [← List.length_flatMap]; exact hW'.out, rfl⟩, hbel.out⟩
set_option maxHeartbeats 2000000 in
set_option maxRecDepth 100000 in
theorem ref_walk_list1 (d : Nat) (hw : WlkC d) (S : Nat → Prop) (D W W0 : Nat) (hde : ((8 - d : Nat) : Int) = D + 1) (hD : 0 < D) (hD8 : D < 8) (hW0 : W0 = W + 1) (A : Option Addr) (n c : Nat) (vs : List Value) (xs : List (Ns.It (d + 1))) (w : World)
    (hS : ∀ q, S q → q < w.heap.size) (hn : n = xs.length) (hc : n ≤ c) (hcm : c ≤ maxLen) (hin : InS S w 3 A n (flat vs)) (hall : All2 (Sits S w (d + 1)) vs xs) (hfit : ∀ x ∈ xs, Ns.fit d x)
    (hlim : W0 + (xs.flatMap (Ns.enc (d + 1))).length ≤ 16777215) :
    Calls Try.prog 46 #[lsV A n c, .int .i64 D, .int .i64 W] w (WlkQ W0 (xs.flatMap (Ns.enc (d + 1))).length w) := by
  have hstep : ∀ k (hk : k < xs.length), ((xs.take (k + 1)).flatMap (Ns.enc (d + 1))).length = ((xs.take k).flatMap (Ns.enc (d + 1))).length + (Ns.enc (d + 1) xs[k]).length := by
    intro k hk
    rw [List.take_succ_eq_append_getElem hk, List.flatMap_append, List.length_append]
    simp
  have hle : ∀ k, ((xs.take k).flatMap (Ns.enc (d + 1))).length ≤ (xs.flatMap (Ns.enc (d + 1))).length := by
    intro k
    have h1 := congrArg (fun l => (List.flatMap (Ns.enc (d + 1)) l).length) (List.take_append_drop k xs)
    simp only [List.flatMap_append, List.length_append] at h1
    omega
  have hn63 : (n : Int) ≤ 9223372036854775807 := by unfold maxLen at hcm; omega
  have hDw : IntKind.i64.wrap ((D : Int) + 1) = (D : Int) + 1 := by rw [IntKind.wrap_i64]; omega
  have hD8' : ¬ (D : Int) ≥ 8 := by omega
  have hlW : ¬ (W0 : Int) > 16777215 := by omega
  have hD' : (D : Int) > 0 := by omega
  have hWw : IntKind.i64.wrap ((W : Int) + 1) = (W0 : Int) := by rw [IntKind.wrap_i64]; omega
  replace hW0 := Lib.hid hW0
  replace hde := Lib.hid hde
  replace hstep := Lib.hid hstep
  replace hle := Lib.hid hle
  replace hS := Lib.hid hS
  replace hn := Lib.hid hn
  replace hin := Lib.hid hin
  replace hall := Lib.hid hall
  replace hfit := Lib.hid hfit
  replace hw := Lib.hid hw
  replace hlim := Lib.hid hlim
  clear hc hcm
  have hb0 := Blk.new w 48 #[.bool true, .slice none 0 0, .slice A n c]
  have hbe := (Below.refl w.heap.size w).alloc (Nat.le_refl _) (.cells #[.bool true, .slice none 0 0, .slice A n c] 48)
  have g0 : (w.alloc (.cells #[.bool true, .slice none 0 0, .slice A n c] 48)).cell? ⟨w.heap.size, 0, none⟩ = some (.bool true) := hb0.cell 0
  have g1 : (w.alloc (.cells #[.bool true, .slice none 0 0, .slice A n c] 48)).cell? ⟨w.heap.size, 1, none⟩ = some (.slice none 0 0) := hb0.cell 1
  replace hb0 := Lib.hid hb0
  replace hbe := Lib.hid hbe
  unfold lsV
  go_enter Try.func46, Try.ntmps46
  go_wp2_with fail
  clear g0 g1
  go_loopw [2, 8] (fun wt i wr => ∃ (k W' : Nat), k ≤ xs.length ∧ i = .int .i64 k ∧ wt = .int .i64 W' ∧ W' ≤ W0 + ((xs.take k).flatMap (Ns.enc (d + 1))).length ∧ Blk wr w.heap.size 48 #[.bool true, .slice none 0 0, .slice A n c] ∧ Below w.heap.size w wr) (fun _ i _ => xs.length - (intOf i).toNat)
  case atStart => exact ⟨0, W0, Nat.zero_le _, rfl, rfl, Nat.le_add_right _ _, hb0.out, hbe.out⟩
  case round =>
    clear hb0 hbe
    obtain ⟨k, W', hk, rfl, rfl, hW', hbr, hbel⟩ := hrel
    have g2 : wr.cell? ⟨w.heap.size, 2, none⟩ = some (.slice A n c) := hbr.cell 2
    have hbs := hbel.size
    by_cases hlt : k < xs.length
    · have hmv : ∀ q, S q → q < w.heap.size → S q ∧ wr.heap[q]? = w.heap[q]? := fun q h1 h2 => ⟨h1, hbel.block q h2⟩
      obtain ⟨gi, o, a, b, cc, rfl, hSg, hgi, hrg, hone, hsit⟩ := items_at (hin.out.move hmv hbs) (hall.out.imp fun v x hx => hx.move _ _ _ hmv hbs) hn.out k hlt
      have hrg2 : wr.rangeAt gi (o + k * 3) [a, b, cc] := by rw [Nat.mul_comm k 3]; exact hrg
      have hs1 := hle.out (k + 1)
      rw [hstep.out k hlt] at hs1
      have hlimo := hlim.out
      have hcall := hw.out S W' (.agg #[a, b, cc]) xs[k] wr hsit (fun q h => Nat.lt_of_lt_of_le (hS.out q h) hbs) (hfit.out _ (List.getElem_mem hlt)) (by omega)
      rw [hde.out] at hcall
      have hlt' : (k : Int) < n := by have := hn.out; omega
      clear hrg hsit hs1 hlimo hmv
      replace hbr := Lib.hid hbr
      replace hbel := Lib.hid hbel
      replace hW' := Lib.hid hW'
      go_wp2_with (refine wpList_load_mid rfl 48 _ rfl gi (o + k * 3) rfl [a, b, cc] _ hrg2 Try.underlying48 rfl info_item3 ?_)
      refine hcall.mono ?_
      rintro e w5 ⟨⟨W5, hW5, rfl⟩, hb5⟩
      have hbr5 := Lib.hid (hbr.out.below hb5 hbr.out.lt)
      have hbel5 := Lib.hid (hbel.out.trans (hb5.mono hbel.out.size))
      replace hW5 := Lib.hid hW5
      clear hcall hb5 g2
      go_wp2_with fail
      refine ⟨⟨k + 1, W5, by omega, by go_num, rfl, ?_, hbr5.out, hbel5.out⟩, ?_⟩
      · rw [hstep.out k hlt]
        have h1 := hW5.out
        have h2 := hW'.out
        omega
      · simp [intOf]; omega
    · obtain rfl : k = xs.length := by omega
      rw [List.take_length] at hW'
      have hlt' : ¬ (xs.length : Int) < n := by have := hn.out; omega
      replace hbr := Lib.hid hbr
      replace hbel := Lib.hid hbel
      replace hW' := Lib.hid hW'
      go_wp2_with fail
      go_ret2
      exact ⟨⟨W', by rw [← List.length_flatMap]; exact hW'.out, rfl⟩, hbel.out⟩
theorem ref_walk_all : ∀ (d : Nat), d ≤ 8 → WlkC d
  | d, hd => by
    intro S W v x w hsit hS hfit hlim
    cases x with
    | inl b =>
      obtain ⟨A, n, c, rfl, hn, hc, hm, hin⟩ := hsit
      have hmx := encT_max b
      have hl : (Ns.enc (d + 1) (.inl b)).length = (Ns.encT b).length := rfl
      rw [hl] at hlim ⊢
      refine (ref_walk_text (8 - d) W A n c b w ⟨hn, hc, hm, hin.reads fun q h _ => hS q h⟩ (by omega)).mono ?_
      rintro e w' ⟨⟨W', h1, h2⟩, h3⟩
      exact ⟨⟨W', by omega, h2⟩, h3⟩
    | inr xs =>
      obtain ⟨A, n, c, vs, rfl, hn, hc, hm, hin, hall⟩ := hsit
      match d, xs, hfit, hall, hn, hlim with
      | 0, xs, hfit, _, _, _ => exact hfit.elim
      | d + 1, xs, hfit, hall, hn, hlim =>
        have hl : (Ns.enc (d + 2) (.inr xs)).length = (Ns.head 192 (xs.flatMap (Ns.enc (d + 1))).length).length + (xs.flatMap (Ns.enc (d + 1))).length := by
          show (Ns.head 192 (xs.flatMap (Ns.enc (d + 1))).length ++ xs.flatMap (Ns.enc (d + 1))).length = _
          rw [List.length_append]
        have hp := Ns.head_pos 192 (xs.flatMap (Ns.enc (d + 1))).length
        rw [hl] at hlim ⊢
        rcases Nat.eq_zero_or_pos (8 - (d + 1)) with h0 | h0
        · refine (ref_walk_list0 d (ref_walk_all d (by omega)) S (8 - (d + 1)) W W (by omega) h0 (by omega) rfl A n c vs xs w hS hn hc hm hin hall hfit.2 (by omega)).mono ?_
          rintro e w' ⟨⟨W', h1, h2⟩, h3⟩
          exact ⟨⟨W', by omega, h2⟩, h3⟩
        · refine (ref_walk_list1 d (ref_walk_all d (by omega)) S (8 - (d + 1)) W (W + 1) (by omega) h0 (by omega) rfl A n c vs xs w hS hn hc hm hin hall hfit.2 (by omega)).mono ?_
          rintro e w' ⟨⟨W', h1, h2⟩, h3⟩
          exact ⟨⟨W', by omega, h2⟩, h3⟩
end Go.Proofs.Yteknhmhmepnfjaa

/-
  The reference of chapter 2: size, Encode.
-/
namespace Go.Proofs.Yteknhmhmepnfjaa
open Go.RowKit

theorem Ns.head_zero (base n : Nat) : (Ns.head base n).length = (Ns.head 0 n).length := by
  unfold Ns.head
  split <;> simp
def SizC (d : Nat) : Prop := ∀ (S : Nat → Prop) (v : Value) (x : Ns.It d) (w : World), Sits S w d v x → (∀ q, S q → q < w.heap.size) → (Ns.enc d x).length ≤ 16777215 →
  Calls Try.prog 47 #[v] w fun e w' => e = .returned (.int .i64 ((Ns.enc d x).length : Nat)) ∧ Below w.heap.size w w'
theorem Ns.encT_one {b : List UInt8} (h : b.length = 1) : (Ns.encT b).length = if (b[0]'(by omega)).toNat < 128 then 1 else 2 := by
  match b, h with
  | [y], _ =>
    show (Ns.encT [y]).length = if y.toNat < 128 then 1 else 2
    unfold Ns.encT
    by_cases hy : y.toNat < 128
    · rw [if_pos ⟨rfl, hy⟩, if_pos hy]; rfl
    · rw [if_neg (fun e => hy e.2), if_neg hy]; rfl
theorem Ns.encT_more {b : List UInt8} (h : b.length ≠ 1) : (Ns.encT b).length = b.length + (Ns.head 0 b.length).length := by
  unfold Ns.encT
  rw [if_neg (fun e => h e.1), List.length_append, Ns.head_zero 128]; omega
set_option maxHeartbeats 1000000 in
set_option maxRecDepth 100000 in
theorem ref_size_text (A : Option Addr) (n c : Nat) (b : List UInt8) (w : World) (h : Bytes w w.heap.size A n c b) (hlim : b.length ≤ 16777215) :
    Calls Try.prog 47 #[txV A n c] w fun e w' => e = .returned (.int .i64 ((Ns.encT b).length : Nat)) ∧ Below w.heap.size w w' := by
  have hlen := h.len
  subst hlen
  have hb0 := Blk.new w 48 #[.bool false, .slice A b.length c, .slice none 0 0]
  have hbe := (Below.refl w.heap.size w).alloc (Nat.le_refl _) (.cells #[.bool false, .slice A b.length c, .slice none 0 0] 48)
  have g0 : (w.alloc (.cells #[.bool false, .slice A b.length c, .slice none 0 0] 48)).cell? ⟨w.heap.size, 0, none⟩ = some (.bool false) := hb0.cell 0
  have g1 : (w.alloc (.cells #[.bool false, .slice A b.length c, .slice none 0 0] 48)).cell? ⟨w.heap.size, 1, none⟩ = some (.slice A b.length c) := hb0.cell 1
  have g2 : (w.alloc (.cells #[.bool false, .slice A b.length c, .slice none 0 0] 48)).cell? ⟨w.heap.size, 2, none⟩ = some (.slice none 0 0) := hb0.cell 2
  clear hb0
  unfold txV
  by_cases h1 : b.length = 1
  · obtain ⟨g, o, rfl, hg, hc⟩ := (h.below hbe).at_ (k := 0) (by omega)
    have he := Ns.encT_one h1
    have h1' : (b.length : Int) = 1 := by omega
    have hl0 : (0 : Int) < b.length := by omega
    have hc' : (w.alloc (.cells #[.bool false, .slice (some ⟨g, o, none⟩) b.length c, .slice none 0 0] 48)).cell? ⟨g, o, none⟩ = some (.int .u8 ((b[0]'(by omega)).toNat : Int)) := hc
    have hhd := ref_head 0 1 (w.alloc (.cells #[.bool false, .slice (some ⟨g, o, none⟩) b.length c, .slice none 0 0] 48)) (by omega) (by unfold Ns.maxBytes; omega)
    have hh1 : (Ns.head 0 1).length = 1 := rfl
    have hy := (b[0]'(by omega)).toNat_lt
    generalize (b[0]'(by omega)).toNat = y at *
    generalize b.length = n at *
    subst h1
    clear hc h
    replace hbe := Lib.hid hbe
    by_cases hlow : y < 128
    · have hlow' : (y : Int) < 128 := by omega
      rw [if_pos hlow] at he
      rw [he]
      replace he := Lib.hid he
      clear hhd
      go_enter Try.func47, Try.ntmps47
      go_wp2_with fail
      go_ret
      exact ⟨rfl, hbe.out⟩
    · have hlow' : ¬ (y : Int) < 128 := by omega
      rw [if_neg hlow] at he
      rw [he]
      replace he := Lib.hid he
      generalize Ns.head 0 1 = H at *
      replace hh1 := Lib.hid hh1
      go_enter Try.func47, Try.ntmps47
      go_wp2_with fail
      refine wp_loop_rounds 1 ?_
      rw [rounds_succ]; go_wp2_with fail
      refine hhd.mono ?_
      rintro e w6 ⟨A6, m6, c6, rfl, hN6⟩
      have hm6 := hN6.1
      rw [hh1.out] at hm6
      have hb6 := Lib.hid (hbe.out.trans (hN6.2.2.mono hbe.out.size))
      subst hm6
      clear hhd hN6
      go_wp2_with fail
      go_ret
      exact ⟨rfl, hb6.out⟩
  · have he := Ns.encT_more h1
    have h1' : ¬ (b.length : Int) = 1 := by omega
    have hL' : ¬ (b.length : Int) > 16777215 := by omega
    have hhd := ref_head 0 b.length (w.alloc (.cells #[.bool false, .slice A b.length c, .slice none 0 0] 48)) (by omega) (by unfold Ns.maxBytes; omega)
    have hh9 := Ns.head_le 0 b.length
    rw [he]
    generalize b.length = L at *
    have hwL : IntKind.i64.wrap ((L : Int) + ((Ns.head 0 L).length : Nat)) = ((L + (Ns.head 0 L).length : Nat) : Int) := by rw [IntKind.wrap_i64]; omega
    generalize Ns.head 0 L = H at *
    clear h
    replace hbe := Lib.hid hbe
    replace he := Lib.hid he
    go_enter Try.func47, Try.ntmps47
    go_wp2_with fail
    refine wp_loop_rounds 1 ?_
    rw [rounds_succ]; go_wp2_with fail
    refine hhd.mono ?_
    rintro e w6 ⟨A6, m6, c6, rfl, hN6⟩
    have hm6 := hN6.1
    have hb6 := Lib.hid (hbe.out.trans (hN6.2.2.mono hbe.out.size))
    subst hm6
    clear hhd hN6
    go_wp2_with fail
    go_ret
    exact ⟨by simp, hb6.out⟩
set_option maxHeartbeats 2000000 in
set_option maxRecDepth 100000 in
theorem ref_size_list (d : Nat) (hw : SizC d) (S : Nat → Prop) (A : Option Addr) (n c : Nat) (vs : List Value) (xs : List (Ns.It d)) (w : World)
    (hS : ∀ q, S q → q < w.heap.size) (hn : n = xs.length) (hc : n ≤ c) (hcm : c ≤ maxLen) (hin : InS S w 3 A n (flat vs)) (hall : All2 (Sits S w d) vs xs)
    (hlim : (xs.flatMap (Ns.enc d)).length ≤ 16777215) :
    Calls Try.prog 47 #[lsV A n c] w fun e w' => e = .returned (.int .i64 ((Ns.enc (d + 1) (.inr xs)).length : Nat)) ∧ Below w.heap.size w w' := by
  obtain ⟨E, hE⟩ : ∃ E : Nat, E = (Ns.enc (d + 1) (.inr xs)).length := ⟨_, rfl⟩
  rw [← hE]
  replace hE := Lib.hid hE
  have hstep : ∀ k (hk : k < xs.length), ((xs.take (k + 1)).flatMap (Ns.enc d)).length = ((xs.take k).flatMap (Ns.enc d)).length + (Ns.enc d xs[k]).length := by
    intro k hk
    rw [List.take_succ_eq_append_getElem hk, List.flatMap_append, List.length_append]
    simp
  have hle : ∀ k, ((xs.take k).flatMap (Ns.enc d)).length ≤ (xs.flatMap (Ns.enc d)).length := by
    intro k
    have h1 := congrArg (fun l => (List.flatMap (Ns.enc d) l).length) (List.take_append_drop k xs)
    simp only [List.flatMap_append, List.length_append] at h1
    omega
  have hn63 : (n : Int) ≤ 9223372036854775807 := by unfold maxLen at hcm; omega
  replace hstep := Lib.hid hstep
  replace hle := Lib.hid hle
  replace hS := Lib.hid hS
  replace hn := Lib.hid hn
  replace hin := Lib.hid hin
  replace hall := Lib.hid hall
  replace hw := Lib.hid hw
  replace hlim := Lib.hid hlim
  clear hc hcm
  have hb0 := Blk.new w 48 #[.bool true, .slice none 0 0, .slice A n c]
  have hbe := (Below.refl w.heap.size w).alloc (Nat.le_refl _) (.cells #[.bool true, .slice none 0 0, .slice A n c] 48)
  have g0 : (w.alloc (.cells #[.bool true, .slice none 0 0, .slice A n c] 48)).cell? ⟨w.heap.size, 0, none⟩ = some (.bool true) := hb0.cell 0
  replace hb0 := Lib.hid hb0
  replace hbe := Lib.hid hbe
  unfold lsV
  go_enter Try.func47, Try.ntmps47
  go_wp2_with fail
  clear g0
  go_loopw [3, 4] (fun s i wr => ∃ k : Nat, k ≤ xs.length ∧ i = .int .i64 k ∧ s = .int .i64 (((xs.take k).flatMap (Ns.enc d)).length : Nat) ∧ Blk wr w.heap.size 48 #[.bool true, .slice none 0 0, .slice A n c] ∧ Below w.heap.size w wr) (fun _ i _ => xs.length - (intOf i).toNat)
  case atStart => exact ⟨0, Nat.zero_le _, rfl, rfl, hb0.out, hbe.out⟩
  case round =>
    clear hb0 hbe
    obtain ⟨k, hk, rfl, rfl, hbr, hbel⟩ := hrel
    have g2 : wr.cell? ⟨w.heap.size, 2, none⟩ = some (.slice A n c) := hbr.cell 2
    have hbs := hbel.size
    by_cases hlt : k < xs.length
    · have hmv : ∀ q, S q → q < w.heap.size → S q ∧ wr.heap[q]? = w.heap[q]? := fun q h1 h2 => ⟨h1, hbel.block q h2⟩
      obtain ⟨gi, o, a, b, cc, rfl, hSg, hgi, hrg, hone, hsit⟩ := items_at (hin.out.move hmv hbs) (hall.out.imp fun v x hx => hx.move _ _ _ hmv hbs) hn.out k hlt
      have hrg2 : wr.rangeAt gi (o + k * 3) [a, b, cc] := by rw [Nat.mul_comm k 3]; exact hrg
      have hs1 := hle.out (k + 1)
      rw [hstep.out k hlt] at hs1
      have hst := hstep.out k hlt
      have hcall := hw.out S (.agg #[a, b, cc]) xs[k] wr hsit (fun q h => Nat.lt_of_lt_of_le (hS.out q h) hbs) (by have := hlim.out; omega)
      generalize ((xs.take k).flatMap (Ns.enc d)).length = s at *
      have hwr1 : IntKind.i64.wrap ((s : Int) + ((Ns.enc d xs[k]).length : Nat)) = ((s + (Ns.enc d xs[k]).length : Nat) : Int) := by have := hlim.out; rw [IntKind.wrap_i64]; omega
      have hlt' : (k : Int) < n := by have := hn.out; omega
      clear hrg hsit hs1 hmv
      replace hst := Lib.hid hst
      replace hbr := Lib.hid hbr
      replace hbel := Lib.hid hbel
      go_wp2_with (refine wpList_load_mid rfl 48 _ rfl gi (o + k * 3) rfl [a, b, cc] _ hrg2 Try.underlying48 rfl info_item3 ?_)
      refine hcall.mono ?_
      rintro e w5 ⟨rfl, hb5⟩
      have hbr5 := Lib.hid (hbr.out.below hb5 hbr.out.lt)
      have hbel5 := Lib.hid (hbel.out.trans (hb5.mono hbel.out.size))
      clear hcall hb5 g2
      go_wp2_with fail
      refine ⟨⟨k + 1, by omega, by go_num, ?_, hbr5.out, hbel5.out⟩, ?_⟩
      · rw [hst.out, Int.natCast_add]
      · simp [intOf]; omega
    · obtain rfl : k = xs.length := by omega
      rw [List.take_length]
      have hlt' : ¬ (xs.length : Int) < n := by have := hn.out; omega
      have hlm := hlim.out
      replace hbr := Lib.hid hbr
      replace hbel := Lib.hid hbel
      have hL : (((xs.flatMap (Ns.enc d)).length : Nat) : Int) ≤ 16777215 := by omega
      have hL' : ¬ (((xs.flatMap (Ns.enc d)).length : Nat) : Int) > 16777215 := by omega
      have hlf : (xs.map (fun a => (Ns.enc d a).length)).sum = (xs.flatMap (Ns.enc d)).length := by rw [List.length_flatMap]
      have hhd := ref_head 0 (xs.flatMap (Ns.enc d)).length wr (by omega) (by unfold Ns.maxBytes; omega)
      have hhl := Ns.head_zero 192 (xs.flatMap (Ns.enc d)).length
      have hh9 := Ns.head_le 0 (xs.flatMap (Ns.enc d)).length
      have he : (Ns.enc (d + 1) (.inr xs)).length = (xs.flatMap (Ns.enc d)).length + (Ns.head 0 (xs.flatMap (Ns.enc d)).length).length := by
        show (Ns.head 192 (xs.flatMap (Ns.enc d)).length ++ xs.flatMap (Ns.enc d)).length = _
        rw [List.length_append, hhl]; omega
      generalize (xs.flatMap (Ns.enc d)).length = L at *
      have hwL : IntKind.i64.wrap ((L : Int) + ((Ns.head 0 L).length : Nat)) = ((L + (Ns.head 0 L).length : Nat) : Int) := by rw [IntKind.wrap_i64]; omega
      replace hhl := Lib.hid hhl
      replace he := Lib.hid he
      replace hlf := Lib.hid hlf
      generalize Ns.head 0 L = H at *
      go_wp2_with fail
      refine hhd.mono ?_
      rintro e w6 ⟨A6, m6, c6, rfl, hN6⟩
      have hm6 := hN6.1
      have hb6 := Lib.hid (hbel.out.trans (hN6.2.2.mono hbel.out.size))
      subst hm6
      clear hhd hN6
      go_wp2_with fail
      go_ret
      exact ⟨by rw [hE.out, he.out, Int.natCast_add]; rfl, hb6.out⟩
theorem ref_size_all : ∀ (d : Nat), SizC d
  | 0 => fun S v x => nomatch x
  | d + 1 => by
    intro S v x w hsit hS hl
    have hbl := Ns.body_le (d + 1) x
    match x, hsit, hl, hbl with
    | .inl b, hsit, hl, hbl =>
      obtain ⟨A, n, c, rfl, hn, hc, hm, hin⟩ := hsit
      have hbl' : b.length ≤ (Ns.enc (d + 1) (.inl b)).length := hbl
      exact ref_size_text A n c b w ⟨hn, hc, hm, hin.reads fun q h _ => hS q h⟩ (by omega)
    | .inr xs, hsit, hl, hbl =>
      obtain ⟨A, n, c, vs, rfl, hn, hc, hm, hin, hall⟩ := hsit
      have hbl' : (xs.flatMap (Ns.enc d)).length ≤ (Ns.enc (d + 1) (.inr xs)).length := hbl
      exact ref_size_list d (ref_size_all d) S A n c vs xs w hS hn hc hm hin hall (by omega)
theorem NewB.later {w w1 w2 : World} {A : Option Addr} {m c : Nat} {l : List UInt8} (hb : Below w.heap.size w w1) (h : NewB w1 w2 A m c l) : NewB w w2 A m c l :=
  ⟨h.1, ⟨h.2.1.1, h.2.1.2.imp id fun ⟨g', cap, cur, hv, hg, r⟩ => ⟨g', cap, cur, hv, Nat.le_trans hb.size hg, r⟩⟩, hb.trans (h.2.2.mono hb.size)⟩
set_option maxHeartbeats 1000000 in
set_option maxRecDepth 100000 in
theorem ref_Encode_text (A : Option Addr) (n c : Nat) (b : List UInt8) (w : World) (h : Bytes w w.heap.size A n c b) (hlim : (Ns.encT b).length ≤ 16777215) :
    Calls Try.prog 32 #[txV A n c] w (PostBe w (Ns.encT b) 0) := by
  have hmx := encT_max b
  have hbt := ref_Bytes_all 9 (fun q => q < w.heap.size) (txV A n c) (.inl b)
  have hwk := ref_walk_text 0 0 A n c b
  have hlen := h.len
  subst hlen
  have hb0 := Blk.new w 48 #[.bool false, .slice A b.length c, .slice none 0 0]
  have hbe := (Below.refl w.heap.size w).alloc (Nat.le_refl _) (.cells #[.bool false, .slice A b.length c, .slice none 0 0] 48)
  have hwk1 := hwk (w.alloc (.cells #[.bool false, .slice A b.length c, .slice none 0 0] 48)) (h.step hbe) (by omega)
  have hbt1 := Lib.hid (fun (W : World) (hb : Below w.heap.size w W) => hbt W ⟨A, b.length, c, rfl, rfl, h.cap, h.lim, (InS.of_reads (h.below hb).reads (fun g hg => ⟨hg, Nat.lt_of_lt_of_le hg hb.size⟩))⟩ (fun q hq => Nat.lt_of_lt_of_le hq hb.size) hlim)
  have hL' : ¬ (b.length : Int) > 16777215 := by omega
  clear h hwk hbt hmx
  replace hbe := Lib.hid hbe
  unfold txV at *
  go_enter Try.func32, Try.ntmps32
  go_wp2_with (refine wpList_load_row rfl 48 _ rfl w.heap.size rfl _ _ _ _ hb0 Try.underlying48 rfl info_item3 ?_)
  refine hwk1.mono ?_
  rintro e w1 ⟨⟨W1, hW1, rfl⟩, hb1⟩
  have hbr := hb0.below hb1 hb0.lt
  have hbe1 := hbe.out.trans (hb1.mono hbe.out.size)
  have g1 : w1.cell? ⟨w.heap.size, 1, none⟩ = some (.slice A b.length c) := hbr.cell 1
  have g2 : w1.cell? ⟨w.heap.size, 2, none⟩ = some (.slice none 0 0) := hbr.cell 2
  clear hwk1 hb1 hb0 hW1
  have hbt2 := hbt1.out w1 hbe1
  replace hbe1 := Lib.hid hbe1
  go_wp2_with fail
  refine wp_loop_rounds 1 ?_
  rw [rounds_succ]
  go_wp2_with (refine wpList_load_row rfl 48 _ rfl w.heap.size rfl _ _ _ _ hbr Try.underlying48 rfl info_item3 ?_)
  refine hbt2.mono ?_
  rintro e w6 ⟨A6, m6, c6, rfl, hN6⟩
  have hN := Lib.hid (NewB.later hbe1.out hN6)
  clear hbt2 hN6
  go_wp2_with fail
  go_ret2
  exact ⟨_, _, _, rfl, hN.out⟩
set_option maxHeartbeats 2000000 in
set_option maxRecDepth 100000 in
theorem ref_Encode_list (S : Nat → Prop) (A : Option Addr) (n c d : Nat) (hd : d = 8) (vs : List Value) (xs : List (Ns.It d)) (w : World)
    (hS : ∀ q, S q → q < w.heap.size) (hn : n = xs.length) (hc : n ≤ c) (hcm : c ≤ maxLen) (hin : InS S w 3 A n (flat vs)) (hall : All2 (Sits S w d) vs xs) (hfit : Ns.fit d (.inr xs))
    (hlim : (Ns.enc (d + 1) (.inr xs)).length ≤ 16777215) :
    Calls Try.prog 32 #[lsV A n c] w (PostBe w (Ns.enc (d + 1) (.inr xs)) 0) := by
  have hw := ref_size_all d
  have hbe := (Below.refl w.heap.size w).alloc (Nat.le_refl _) (.cells #[.bool true, .slice none 0 0, .slice A n c] 48)
  have hsit : ∀ W, Below w.heap.size w W → Sits S W (d + 1) (lsV A n c) (.inr xs) := fun W hb => by
    have hmv : ∀ q, S q → q < w.heap.size → S q ∧ W.heap[q]? = w.heap[q]? := fun q h1 h2 => ⟨h1, hb.block q h2⟩
    exact ⟨A, n, c, vs, rfl, hn, hc, hcm, hin.move hmv hb.size, hall.imp fun v x hx => hx.move _ _ _ hmv hb.size⟩
  have hwk := ref_walk_all d (by omega) S 0 (lsV A n c) (.inr xs) (w.alloc (.cells #[.bool true, .slice none 0 0, .slice A n c] 48)) (hsit _ hbe) (fun q h => Nat.lt_of_lt_of_le (hS q h) hbe.size) hfit (by omega)
  have hby := Lib.hid (fun W (hb : Below w.heap.size w W) => ref_Bytes_all (d + 1) S (lsV A n c) (.inr xs) W (hsit W hb) (fun q h => Nat.lt_of_lt_of_le (hS q h) hb.size) hlim)
  have hl2 : (xs.flatMap (Ns.enc d)).length ≤ 16777215 := Nat.le_trans (Ns.body_le (d + 1) (.inr xs)) hlim
  rw [show ((8 - d : Nat) : Int) = 0 by subst hd; rfl] at hwk
  clear hsit hfit hlim
  have hlim := Lib.hid hl2
  clear hl2
  generalize Ns.enc (d + 1) (.inr xs) = E at *
  have hstep : ∀ k (hk : k < xs.length), ((xs.take (k + 1)).flatMap (Ns.enc d)).length = ((xs.take k).flatMap (Ns.enc d)).length + (Ns.enc d xs[k]).length := by
    intro k hk
    rw [List.take_succ_eq_append_getElem hk, List.flatMap_append, List.length_append]
    simp
  have hle : ∀ k, ((xs.take k).flatMap (Ns.enc d)).length ≤ (xs.flatMap (Ns.enc d)).length := by
    intro k
    have h1 := congrArg (fun l => (List.flatMap (Ns.enc d) l).length) (List.take_append_drop k xs)
    simp only [List.flatMap_append, List.length_append] at h1
    omega
  have hn63 : (n : Int) ≤ 9223372036854775807 := by unfold maxLen at hcm; omega
  replace hstep := Lib.hid hstep
  replace hle := Lib.hid hle
  replace hS := Lib.hid hS
  replace hn := Lib.hid hn
  replace hin := Lib.hid hin
  replace hall := Lib.hid hall
  replace hw := Lib.hid hw
  clear hc hcm
  have hb0 := Blk.new w 48 #[.bool true, .slice none 0 0, .slice A n c]
  replace hbe := Lib.hid hbe
  replace hd := Lib.hid hd
  unfold lsV at *
  go_enter Try.func32, Try.ntmps32
  go_wp2_with (refine wpList_load_row rfl 48 _ rfl w.heap.size rfl _ _ _ _ hb0 Try.underlying48 rfl info_item3 ?_)
  refine hwk.mono ?_
  rintro e w1 ⟨⟨W1, hW1, rfl⟩, hb1⟩
  have hb0' := hb0.below hb1 hb0.lt
  have hbe1 := Lib.hid (hbe.out.trans (hb1.mono hbe.out.size))
  have g1 : w1.cell? ⟨w.heap.size, 1, none⟩ = some (.slice none 0 0) := hb0'.cell 1
  replace hb0' := Lib.hid hb0'
  clear hwk hb1 hb0 hW1 hbe
  go_wp2_with fail
  clear g1
  go_loopw [6, 7] (fun s i wr => ∃ k : Nat, k ≤ xs.length ∧ i = .int .i64 k ∧ s = .int .i64 (((xs.take k).flatMap (Ns.enc d)).length : Nat) ∧ Blk wr w.heap.size 48 #[.bool true, .slice none 0 0, .slice A n c] ∧ Below w.heap.size w wr) (fun _ i _ => xs.length - (intOf i).toNat)
  case atStart => exact ⟨0, Nat.zero_le _, rfl, rfl, hb0'.out, hbe1.out⟩
  case round =>
    clear hb0' hbe1
    obtain ⟨k, hk, rfl, rfl, hbr, hbel⟩ := hrel
    have g2 : wr.cell? ⟨w.heap.size, 2, none⟩ = some (.slice A n c) := hbr.cell 2
    have hbs := hbel.size
    by_cases hlt : k < xs.length
    · have hmv : ∀ q, S q → q < w.heap.size → S q ∧ wr.heap[q]? = w.heap[q]? := fun q h1 h2 => ⟨h1, hbel.block q h2⟩
      obtain ⟨gi, o, a, b, cc, rfl, hSg, hgi, hrg, hone, hsit⟩ := items_at (hin.out.move hmv hbs) (hall.out.imp fun v x hx => hx.move _ _ _ hmv hbs) hn.out k hlt
      have hrg2 : wr.rangeAt gi (o + k * 3) [a, b, cc] := by rw [Nat.mul_comm k 3]; exact hrg
      have hs1 := hle.out (k + 1)
      rw [hstep.out k hlt] at hs1
      have hst := hstep.out k hlt
      have hcall := hw.out S (.agg #[a, b, cc]) xs[k] wr hsit (fun q h => Nat.lt_of_lt_of_le (hS.out q h) hbs) (by have := hlim.out; omega)
      generalize ((xs.take k).flatMap (Ns.enc d)).length = s at *
      have hwr1 : IntKind.i64.wrap ((s : Int) + ((Ns.enc d xs[k]).length : Nat)) = ((s + (Ns.enc d xs[k]).length : Nat) : Int) := by have := hlim.out; rw [IntKind.wrap_i64]; omega
      have hlt' : (k : Int) < n := by have := hn.out; omega
      clear hrg hsit hs1 hmv
      replace hst := Lib.hid hst
      replace hbr := Lib.hid hbr
      replace hbel := Lib.hid hbel
      go_wp2_with (refine wpList_load_mid rfl 48 _ rfl gi (o + k * 3) rfl [a, b, cc] _ hrg2 Try.underlying48 rfl info_item3 ?_)
      refine hcall.mono ?_
      rintro e w5 ⟨rfl, hb5⟩
      have hbr5 := Lib.hid (hbr.out.below hb5 hbr.out.lt)
      have hbel5 := Lib.hid (hbel.out.trans (hb5.mono hbel.out.size))
      clear hcall hb5 g2
      go_wp2_with fail
      refine ⟨⟨k + 1, by omega, by go_num, ?_, hbr5.out, hbel5.out⟩, ?_⟩
      · rw [hst.out, Int.natCast_add]
      · simp [intOf]; omega
    · obtain rfl : k = xs.length := by omega
      rw [List.take_length]
      have hlt' : ¬ (xs.length : Int) < n := by have := hn.out; omega
      have hlm := hlim.out
      replace hbr := Lib.hid hbr
      replace hbel := Lib.hid hbel
      have hL' : ¬ (((xs.flatMap (Ns.enc d)).length : Nat) : Int) > 16777215 := by have := hlm; omega
      have hlf : (xs.map (fun a => (Ns.enc d a).length)).sum = (xs.flatMap (Ns.enc d)).length := by rw [List.length_flatMap]
      have hbt := hby.out wr hbel.out
      have hbrr := hbr.out
      generalize (xs.flatMap (Ns.enc d)).length = L at *
      replace hlf := Lib.hid hlf
      go_wp2_with (refine wpList_load_row rfl 48 _ rfl w.heap.size rfl _ _ _ _ hbrr Try.underlying48 rfl info_item3 ?_)
      refine hbt.mono ?_
      rintro e w6 ⟨A6, m6, c6, rfl, hN6⟩
      have hb6 := Lib.hid (hbel.out.trans (hN6.2.2.mono hbel.out.size))
      have hN := Lib.hid (NewB.later hbel.out hN6)
      clear hbt hN6
      go_wp2_with fail
      go_ret2
      exact ⟨_, _, _, rfl, hN.out⟩
/-- the reference's Encode of an item that fits -/
theorem ref_Encode02 (S : Nat → Prop) (v : Value) (x : Ns.It 9) (w : World) (hsit : Sits S w 9 v x) (hS : ∀ q, S q → q < w.heap.size) (hfit : Ns.fit 8 x) (hlim : (Ns.enc 9 x).length ≤ 16777215) :
    Calls Try.prog 32 #[v] w (PostBe w (Ns.enc 9 x) 0) := by
  cases x with
  | inl b =>
    obtain ⟨A, n, c, rfl, hn, hc, hm, hin⟩ := hsit
    exact ref_Encode_text A n c b w ⟨hn, hc, hm, hin.reads fun q h _ => hS q h⟩ hlim
  | inr xs =>
    obtain ⟨A, n, c, vs, rfl, hn, hc, hm, hin, hall⟩ := hsit
    exact ref_Encode_list S A n c 8 rfl vs xs w hS hn hc hm hin hall hfit hlim
end Go.Proofs.Yteknhmhmepnfjaa
