/-
  The reference of chapter 5: Same.
-/
import Derived.Test.YtahaaeenbahknaaRRRRNo8
namespace Go.Proofs.YtahaaeenbahknaaRRRR
open Go.RowKit

theorem no_eq {x y : Nd.No} : x = y ↔ x.child = y.child ∧ x.kind = y.kind ∧ x.path = y.path ∧ x.value = y.value ∧ x.kids = y.kids := by
  constructor
  · rintro rfl; exact ⟨rfl, rfl, rfl, rfl, rfl⟩
  · obtain ⟨a, b, c, d, e⟩ := x
    obtain ⟨a', b', c', d', e'⟩ := y
    rintro ⟨h1, h2, h3, h4, h5⟩
    simp only at h1 h2 h3 h4 h5
    rw [h1, h2, h3, h4, h5]
/-- what the round reads -/
structure SamI (g1 g2 : Nat) (s1 s2 : Value) (b1 b2 o1 o2 : Nat) (l1 l2 : List Value) (W : World) : Prop where
  c1 : W.cell? ⟨g1, 37, none⟩ = some s1
  c2 : W.cell? ⟨g2, 37, none⟩ = some s2
  r1 : W.rangeAt b1 o1 l1
  r2 : W.rangeAt b2 o2 l2
theorem SamI.step {g1 g2 : Nat} {s1 s2 : Value} {b1 b2 o1 o2 : Nat} {l1 l2 : List Value} {W W' : World} (h : SamI g1 g2 s1 s2 b1 b2 o1 o2 l1 l2 W) (hb : Below W.heap.size W W') (h1 : g1 < W.heap.size) (h2 : g2 < W.heap.size) (h3 : b1 < W.heap.size) (h4 : b2 < W.heap.size) : SamI g1 g2 s1 s2 b1 b2 o1 o2 l1 l2 W' :=
  ⟨(hb.cell (p := ⟨g1, 37, none⟩) h1).trans h.c1, (hb.cell (p := ⟨g2, 37, none⟩) h2).trans h.c2, fun j u hu => (hb.cell (p := ⟨b1, o1 + j, none⟩) h3).trans (h.r1 j u hu), fun j u hu => (hb.cell (p := ⟨b2, o2 + j, none⟩) h4).trans (h.r2 j u hu)⟩
theorem str_ne {a b : List UInt8} (h : ¬ a = b) : ¬ (({ data := a.toArray } : ByteArray) = { data := b.toArray }) := by
  intro e
  apply h
  have := congrArg ByteArray.data e
  simpa using this
open Classical in
set_option maxHeartbeats 2000000 in
set_option maxRecDepth 100000 in
theorem ref_Same (S S' : Nat → Prop) (v v' : Value) (x y : Nd.No) (w : World) (hx : NodIn S w v x) (hy : NodIn S' w v' y) (hS : ∀ q, S q → q < w.heap.size) (hS' : ∀ q, S' q → q < w.heap.size) :
    Calls Try.prog 11 #[v, v'] w fun e w' => e = .returned (.bool (decide (x = y))) ∧ Below w.heap.size w w' := by
  obtain ⟨Ap, np, cp, Av, nv, cv, Ac, nc, cc, Ak, nk, kk, vs, rfl, hcd, ⟨hp1, hp2, hp3, hp4⟩, ⟨hv1, hv2, hv3, hv4⟩, ⟨hc1, hc2, hc3, hc4⟩, hnk, hkk, hkm, hin, hall⟩ := hx
  obtain ⟨Bp, mp, dp, Bv, mv, dv, Bc, mc, dc, Bk, mk, jk, us, rfl, kcd, ⟨kp1, kp2, kp3, kp4⟩, ⟨kv1, kv2, kv3, kv4⟩, ⟨kc1, kc2, kc3, kc4⟩, knk, kkk, kkm, kin, kall⟩ := hy
  rw [show (nodCells x.kind Ap np cp Av nv cv x.child.kind x.child.dig Ac nc cc Ak nk kk).toArray = nodRow x.kind Ap np cp Av nv cv x.child.kind x.child.dig Ac nc cc Ak nk kk from rfl, show (nodCells y.kind Bp mp dp Bv mv dv y.child.kind y.child.dig Bc mc dc Bk mk jk).toArray = nodRow y.kind Bp mp dp Bv mv dv y.child.kind y.child.dig Bc mc dc Bk mk jk from rfl]
  have hX : decide (x = y) = decide (x.child = y.child ∧ x.kind = y.kind ∧ x.path = y.path ∧ x.value = y.value ∧ x.kids = y.kids) := by rw [Bool.eq_iff_iff]; simp [no_eq]
  generalize decide (x = y) = X at *
  have hF : NodF w x.kind Ap np cp Av nv cv x.child.kind x.child.dig Ac nc cc Ak nk kk ((w.alloc (.cells (nodRow x.kind Ap np cp Av nv cv x.child.kind x.child.dig Ac nc cc Ak nk kk) 29)).alloc (.cells (nodRow y.kind Bp mp dp Bv mv dv y.child.kind y.child.dig Bc mc dc Bk mk jk) 29)) :=
    NodF.of ((Blk.new w _ _).alloc _) hcd (((Below.refl _ _).alloc (Nat.le_refl _) _).alloc (by simp) _)
  have kF : NodF (w.alloc (.cells (nodRow x.kind Ap np cp Av nv cv x.child.kind x.child.dig Ac nc cc Ak nk kk) 29)) y.kind Bp mp dp Bv mv dv y.child.kind y.child.dig Bc mc dc Bk mk jk ((w.alloc (.cells (nodRow x.kind Ap np cp Av nv cv x.child.kind x.child.dig Ac nc cc Ak nk kk) 29)).alloc (.cells (nodRow y.kind Bp mp dp Bv mv dv y.child.kind y.child.dig Bc mc dc Bk mk jk) 29)) :=
    NodF.of (Blk.new _ _ _) kcd ((Below.refl _ _).alloc (Nat.le_refl _) _)
  have hpB : Bytes w w.heap.size Ap np cp x.path := ⟨hp1, hp2, hp3, hp4.reads fun g _ h => h⟩
  have hvB : Bytes w w.heap.size Av nv cv x.value := ⟨hv1, hv2, hv3, hv4.reads fun g _ h => h⟩
  have hcB : Bytes w w.heap.size Ac nc cc x.child.inl := ⟨hc1, hc2, hc3, hc4.reads fun g _ h => h⟩
  have kpB : Bytes w w.heap.size Bp mp dp y.path := ⟨kp1, kp2, kp3, kp4.reads fun g _ h => h⟩
  have kvB : Bytes w w.heap.size Bv mv dv y.value := ⟨kv1, kv2, kv3, kv4.reads fun g _ h => h⟩
  have kcB : Bytes w w.heap.size Bc mc dc y.child.inl := ⟨kc1, kc2, kc3, kc4.reads fun g _ h => h⟩
  clear hp1 hp2 hp3 hp4 hv1 hv2 hv3 hv4 hc1 hc2 hc3 hc4 kp1 kp2 kp3 kp4 kv1 kv2 kv3 kv4 kc1 kc2 kc3 kc4
  have hs0 := hF.bel.size
  have hcall := ref_SameRef x.child.kind y.child.kind x.child.dig y.child.dig x.child.inl y.child.inl Ac Bc nc mc cc dc _ hcd kcd ((hcB.below hF.bel).more hs0) ((kcB.below hF.bel).more hs0)
  rw [show (⟨x.child.kind, x.child.dig, x.child.inl⟩ : Nd.Rf) = x.child from rfl, show (⟨y.child.kind, y.child.dig, y.child.inl⟩ : Nd.Rf) = y.child from rfl] at hcall
  have hch := hF.ch
  have kch := kF.ch
  have hsz0 : (w.alloc (.cells (nodRow x.kind Ap np cp Av nv cv x.child.kind x.child.dig Ac nc cc Ak nk kk) 29)).heap.size = w.heap.size + 1 := by simp
  rw [hsz0] at kch
  have hstep : ∀ w2, Below ((w.alloc (.cells (nodRow x.kind Ap np cp Av nv cv x.child.kind x.child.dig Ac nc cc Ak nk kk) 29)).alloc (.cells (nodRow y.kind Bp mp dp Bv mv dv y.child.kind y.child.dig Bc mc dc Bk mk jk) 29)).heap.size ((w.alloc (.cells (nodRow x.kind Ap np cp Av nv cv x.child.kind x.child.dig Ac nc cc Ak nk kk) 29)).alloc (.cells (nodRow y.kind Bp mp dp Bv mv dv y.child.kind y.child.dig Bc mc dc Bk mk jk) 29)) w2 →
      NodF w x.kind Ap np cp Av nv cv x.child.kind x.child.dig Ac nc cc Ak nk kk w2 ∧ Blk w2 (w.heap.size + 1) 29 (nodRow y.kind Bp mp dp Bv mv dv y.child.kind y.child.dig Bc mc dc Bk mk jk) := fun w2 hb => by
    refine ⟨hF.step hcd hb, ?_⟩
    have := (kF.step kcd hb).blk
    rwa [hsz0] at this
  clear hF kF hsz0 hs0
  replace hstep := Lib.hid hstep
  replace hpB := Lib.hid hpB
  replace hvB := Lib.hid hvB
  replace kpB := Lib.hid kpB
  replace kvB := Lib.hid kvB
  replace hin := Lib.hid hin
  replace hall := Lib.hid hall
  replace kin := Lib.hid kin
  replace kall := Lib.hid kall
  replace hnk := Lib.hid hnk
  replace knk := Lib.hid knk
  replace hX := Lib.hid hX
  replace hcd := Lib.hid hcd
  replace kcd := Lib.hid kcd
  clear hcB kcB hS hS'
  go_enter Try.func11, Try.ntmps11
  go_wp2_with (first
    | (refine wpList_load_mid rfl 26 _ rfl w.heap.size 3 rfl (refCells x.child.kind x.child.dig Ac nc cc) _ hch Try.underlying26 rfl (by rw [refCells_length hcd.out]; exact info_ref) ?_)
    | (refine wpList_load_mid rfl 26 _ rfl (w.heap.size + 1) 3 rfl (refCells y.child.kind y.child.dig Bc mc dc) _ kch Try.underlying26 rfl (by rw [refCells_length kcd.out]; exact info_ref) ?_)
    | fail)
  refine hcall.mono ?_
  rintro e w1 ⟨rfl, hb1⟩
  obtain ⟨hF1, hB1⟩ := hstep.out w1 hb1
  clear hcall hb1 hstep hch kch
  have c0 := hF1.c0
  have c1 := hF1.c1
  have c2 := hF1.c2
  have c37 := hF1.c37
  have k0 : w1.cell? ⟨w.heap.size + 1, 0, none⟩ = some (.int .i64 y.kind) := hB1.cell 0
  have k1 : w1.cell? ⟨w.heap.size + 1, 1, none⟩ = some (.slice Bp mp dp) := hB1.cell 1
  have k2 : w1.cell? ⟨w.heap.size + 1, 2, none⟩ = some (.slice Bv mv dv) := hB1.cell 2
  have k37 : w1.cell? ⟨w.heap.size + 1, 37, none⟩ = some (.slice Bk mk jk) := (hB1.cell 37).trans (nodRow_last kcd.out)
  have t1 := (hpB.out.below hF1.bel).toStr (P := Try.prog) Try.underlying22 Try.underlying5 9 Try.underlying9
  have t2 := (kpB.out.below hF1.bel).toStr (P := Try.prog) Try.underlying22 Try.underlying5 9 Try.underlying9
  have t3 := (hvB.out.below hF1.bel).toStr (P := Try.prog) Try.underlying22 Try.underlying5 9 Try.underlying9
  have t4 := (kvB.out.below hF1.bel).toStr (P := Try.prog) Try.underlying22 Try.underlying5 9 Try.underlying9
  have hbel := Lib.hid hF1.bel
  replace hF1 := Lib.hid hF1
  replace hB1 := Lib.hid hB1
  by_cases hC : ¬ x.child = y.child
  · have hn := Lib.hid (show X = false by rw [hX.out]; simp [hC])
    rw [decide_eq_false hC]
    clear hX
    go_wp2_with fail
    go_ret
    exact ⟨ret_bool hn.out.symm, hbel.out⟩
  replace hC := Classical.not_not.1 hC
  rw [decide_eq_true hC]
  replace hC := Lib.hid hC
  by_cases hK : ¬ x.kind = y.kind
  · have hn := Lib.hid (show X = false by rw [hX.out]; simp [hK])
    clear hX
    go_wp2_with fail
    go_ret
    exact ⟨ret_bool hn.out.symm, hbel.out⟩
  replace hK := Classical.not_not.1 hK
  rw [← hK] at k0
  replace hK := Lib.hid hK
  by_cases hP : ¬ x.path = y.path
  · have hn := Lib.hid (show X = false by rw [hX.out]; simp [hP])
    clear hX
    go_wp2_with fail
    go_ret
    exact ⟨ret_bool hn.out.symm, hbel.out⟩
  replace hP := Classical.not_not.1 hP
  rw [← hP] at t2
  replace hP := Lib.hid hP
  by_cases hV : ¬ x.value = y.value
  · have hn := Lib.hid (show X = false by rw [hX.out]; simp [hV])
    clear hX
    go_wp2_with fail
    go_ret
    exact ⟨ret_bool hn.out.symm, hbel.out⟩
  replace hV := Classical.not_not.1 hV
  rw [← hV] at t4
  replace hV := Lib.hid hV
  by_cases hL : ¬ nk = mk
  · have hn := Lib.hid (show X = false by
      rw [hX.out, decide_eq_false]
      rintro ⟨_, _, _, _, h⟩
      exact hL (by rw [hnk.out, knk.out, h]))
    have hL' : ¬ (nk : Int) = mk := by omega
    clear hX
    go_wp2_with fail
    go_ret
    exact ⟨ret_bool hn.out.symm, hbel.out⟩
  replace hL := Classical.not_not.1 hL
  subst hL
  have hnk63 : (nk : Int) ≤ 9223372036854775807 := by unfold maxLen at hkm; omega
  go_wp2_with fail
  clear c0 c1 c2 c37 k0 k1 k2 k37 t1 t2 t3 t4
  go_loopw [6] (fun i wr => ∃ j : Nat, j ≤ nk ∧ i = .int .i64 j ∧ x.kids.take j = y.kids.take j ∧ NodF w x.kind Ap np cp Av nv cv x.child.kind x.child.dig Ac nc cc Ak nk kk wr ∧ Blk wr (w.heap.size + 1) 29 (nodRow y.kind Bp mp dp Bv mv dv y.child.kind y.child.dig Bc mc dc Bk nk jk)) (fun i _ => nk - (intOf i).toNat)
  case atStart => exact ⟨0, Nat.zero_le _, rfl, rfl, hF1.out, hB1.out⟩
  case round =>
    clear hF1 hB1 hbel
    obtain ⟨j, hj, rfl, hpre, hFr, hBr⟩ := hrel
    have hbs := hFr.bel.size
    have hbl := hBr.lt
    have c37 := hFr.c37
    have k37 : wr.cell? ⟨w.heap.size + 1, 37, none⟩ = some (.slice Bk nk jk) := (hBr.cell 37).trans (nodRow_last kcd.out)
    by_cases hlt : j < nk
    · have hlt' : (j : Int) < nk := by omega
      have hjx : j < x.kids.length := by rw [← hnk.out]; exact hlt
      have hjy : j < y.kids.length := by rw [← knk.out]; exact hlt
      have hmv : ∀ (T : Nat → Prop) q, T q → q < w.heap.size → T q ∧ wr.heap[q]? = w.heap[q]? := fun T q h1 h2 => ⟨h1, hFr.bel.block q h2⟩
      obtain ⟨g1, o1, A1, n1, c1, rfl, hSg1, hg1, hr1, hd1, hby1⟩ := refs_at (hin.out.move (hmv S) hbs) (hall.out.imp fun v x hx => hx.move (hmv S) hbs) hnk.out j hjx
      obtain ⟨g2, o2, A2, n2, c2, rfl, hSg2, hg2, hr2, hd2, hby2⟩ := refs_at (kin.out.move (hmv S') hbs) (kall.out.imp fun v x hx => hx.move (hmv S') hbs) knk.out j hjy
      have hcall := ref_SameRef x.kids[j].kind y.kids[j].kind x.kids[j].dig y.kids[j].dig x.kids[j].inl y.kids[j].inl A1 A2 n1 n2 c1 c2 wr.drew hd1 hd2 hby1.drew hby2.drew
      rw [show (⟨x.kids[j].kind, x.kids[j].dig, x.kids[j].inl⟩ : Nd.Rf) = x.kids[j] from rfl, show (⟨y.kids[j].kind, y.kids[j].dig, y.kids[j].inl⟩ : Nd.Rf) = y.kids[j] from rfl] at hcall
      have htx : x.kids.take (j + 1) = x.kids.take j ++ [x.kids[j]] := List.take_succ_eq_append_getElem hjx
      have hty : y.kids.take (j + 1) = y.kids.take j ++ [y.kids[j]] := List.take_succ_eq_append_getElem hjy
      have hno : ¬ x.kids[j] = y.kids[j] → X = false := fun h => by
        rw [hX.out, decide_eq_false]
        rintro ⟨_, _, _, _, e⟩
        apply h
        have : x.kids[j]? = y.kids[j]? := by rw [e]
        rw [List.getElem?_eq_getElem hjx, List.getElem?_eq_getElem hjy] at this
        injection this
      have hI : SamI w.heap.size (w.heap.size + 1) (.slice (some ⟨g1, o1, none⟩) nk kk) (.slice (some ⟨g2, o2, none⟩) nk jk) g1 g2 (o1 + j * 34) (o2 + j * 34) (refCells x.kids[j].kind x.kids[j].dig A1 n1 c1) (refCells y.kids[j].kind y.kids[j].dig A2 n2 c2) wr := ⟨c37, k37, hr1, hr2⟩
      have hl1 := Lib.hid (refCells_length (k := x.kids[j].kind) (A := A1) (n := n1) (c := c1) hd1)
      have hl2 := Lib.hid (refCells_length (k := y.kids[j].kind) (A := A2) (n := n2) (c := c2) hd2)
      clear hby1 hby2 hr1 hr2 hmv hd1 hd2
      replace hpre := Lib.hid hpre
      replace htx := Lib.hid htx
      replace hty := Lib.hid hty
      replace hno := Lib.hid hno
      replace hI := Lib.hid hI
      replace hFr := Lib.hid hFr
      replace hBr := Lib.hid hBr
      generalize x.kids[j] = rx at *
      generalize y.kids[j] = ry at *
      go_wp2_with fail
      refine wp_region_held_drew (S := (SamI w.heap.size (w.heap.size + 1) (.slice (some ⟨g1, o1, none⟩) nk kk) (.slice (some ⟨g2, o2, none⟩) nk jk) g1 g2 (o1 + j * 34) (o2 + j * 34) (refCells rx.kind rx.dig A1 n1 c1) (refCells ry.kind ry.dig A2 n2 c2))) (by kernel_rfl) (by exact ⟨hI.out.c1, hI.out.c2, hI.out.r1, hI.out.r2⟩) (fun hS => ?_)
      (refine hTake (i := 0) (v := ?v1) rfl (by kernel_rfl) (by kernel_rfl) (by kernel_rfl) (fun _ _ _ h => h) (Or.inl ⟨by rfl, ?y1⟩) hS ?r1; (case y1 => (intro W hW; (go_simp); (try with_reducible rfl); done)); try simp only [Act.put, List.setIfInBounds_toArray, List.set_cons_zero, List.set_cons_succ])
      (refine hTake (i := 1) (v := ?v2) rfl (by kernel_rfl) (by kernel_rfl) (by kernel_rfl) (fun _ _ _ h => h) (Or.inl ⟨by rfl, ?y2⟩) hS ?r2; (case y2 => (intro W hW; ((have g := hW.c1; go_simp)); (try with_reducible rfl); done)); try simp only [Act.put, List.setIfInBounds_toArray, List.set_cons_zero, List.set_cons_succ])
      (refine hTake (i := 2) (v := ?v3) rfl (by kernel_rfl) (by kernel_rfl) (by kernel_rfl) (fun _ _ _ h => h) (Or.inl ⟨by rfl, ?y3⟩) hS ?r3; (case y3 => (intro W hW; (go_simp); (try with_reducible rfl); done)); try simp only [Act.put, List.setIfInBounds_toArray, List.set_cons_zero, List.set_cons_succ])
      (refine hTake (i := 3) (v := ?v4) rfl (by kernel_rfl) (by kernel_rfl) (by kernel_rfl) (fun _ _ _ h => h) (Or.inl ⟨by rfl, ?y4⟩) hS ?r4; (case y4 => (intro W hW; (go_simp); (try with_reducible rfl); done)); try simp only [Act.put, List.setIfInBounds_toArray, List.set_cons_zero, List.set_cons_succ])
      (refine hTake (i := 4) rfl (by kernel_rfl) (by kernel_rfl) (by kernel_rfl) (fun _ _ _ h => h) (yieldsIf_load_mid (by rfl) _ _ rfl _ _ rfl (refCells rx.kind rx.dig A1 n1 c1) _ (fun W hW => (by exact hW.r1)) Try.underlying26 rfl (by rw [hl1.out]; exact info_ref)) hS ?_; try simp only [Act.put, List.setIfInBounds_toArray, List.set_cons_zero, List.set_cons_succ])
      (refine hTake (i := 5) (v := ?v5) rfl (by kernel_rfl) (by kernel_rfl) (by kernel_rfl) (fun _ _ _ h => h) (Or.inl ⟨by rfl, ?y5⟩) hS ?r5; (case y5 => (intro W hW; (go_simp); (try with_reducible rfl); done)); try simp only [Act.put, List.setIfInBounds_toArray, List.set_cons_zero, List.set_cons_succ])
      (refine hTake (i := 6) (v := ?v6) rfl (by kernel_rfl) (by kernel_rfl) (by kernel_rfl) (fun _ _ _ h => h) (Or.inl ⟨by rfl, ?y6⟩) hS ?r6; (case y6 => (intro W hW; ((have g := hW.c2; go_simp)); (try with_reducible rfl); done)); try simp only [Act.put, List.setIfInBounds_toArray, List.set_cons_zero, List.set_cons_succ])
      (refine hTake (i := 7) (v := ?v7) rfl (by kernel_rfl) (by kernel_rfl) (by kernel_rfl) (fun _ _ _ h => h) (Or.inl ⟨by rfl, ?y7⟩) hS ?r7; (case y7 => (intro W hW; (go_simp); (try with_reducible rfl); done)); try simp only [Act.put, List.setIfInBounds_toArray, List.set_cons_zero, List.set_cons_succ])
      (refine hTake (i := 8) (v := ?v8) rfl (by kernel_rfl) (by kernel_rfl) (by kernel_rfl) (fun _ _ _ h => h) (Or.inl ⟨by rfl, ?y8⟩) hS ?r8; (case y8 => (intro W hW; (go_simp); (try with_reducible rfl); done)); try simp only [Act.put, List.setIfInBounds_toArray, List.set_cons_zero, List.set_cons_succ])
      (refine hTake (i := 9) rfl (by kernel_rfl) (by kernel_rfl) (by kernel_rfl) (fun _ _ _ h => h) (yieldsIf_load_mid (by rfl) _ _ rfl _ _ rfl (refCells ry.kind ry.dig A2 n2 c2) _ (fun W hW => (by exact hW.r2)) Try.underlying26 rfl (by rw [hl2.out]; exact info_ref)) hS ?_; try simp only [Act.put, List.setIfInBounds_toArray, List.set_cons_zero, List.set_cons_succ])
      (refine hOne (i := 10) rfl (by kernel_rfl) (fun K hK => ?_))
      rw [if_pos (by rfl)]
      go_simp
      refine hcall.mono ?_
      rintro e w2 ⟨rfl, hb2⟩
      have hI2 := SamI.step hS hb2 (by show w.heap.size < wr.heap.size; omega) hbl hg1 hg2
      have hb2' : Below wr.heap.size wr w2 := ((Below.refl wr.heap.size wr).drew).trans hb2
      have hF2 := hFr.out.step hcd.out hb2'
      have hB2 := hBr.out.below hb2' hbl
      clear hcall hb2 hb2'
      replace hF2 := Lib.hid hF2
      replace hB2 := Lib.hid hB2
      (refine hK.out _ _ (by exact hI2) (fun hS => ?_); clear hK K; try simp only [Act.put, List.setIfInBounds_toArray, List.set_cons_zero, List.set_cons_succ])
      (refine hTake (i := 11) (v := ?v9) rfl (by kernel_rfl) (by kernel_rfl) (by kernel_rfl) (fun _ _ _ h => h) (Or.inl ⟨by rfl, ?y9⟩) hS ?r9; (case y9 => (intro W hW; (go_simp); (try with_reducible rfl); done)); try simp only [Act.put, List.setIfInBounds_toArray, List.set_cons_zero, List.set_cons_succ])
      refine wpAnyH_done (by kernel_rfl) ?_ _
      clear hI2
      by_cases he : ¬ rx = ry
      · have hn := Lib.hid (hno.out he)
        rw [decide_eq_false he]
        clear hno hX
        go_wp2_with fail
        go_ret
        exact ⟨ret_bool hn.out.symm, hF2.out.bel⟩
      · replace he := Classical.not_not.1 he
        rw [decide_eq_true he]
        replace he := Lib.hid he
        go_wp2_with fail
        refine ⟨⟨j + 1, by omega, by go_num, by rw [htx.out, hty.out, hpre.out, he.out], hF2.out, hB2.out⟩, ?_⟩
        simp [intOf]; omega
    · obtain rfl : j = nk := by omega
      have hlt' : ¬ (j : Int) < j := by omega
      have hxk : x.kids.take j = x.kids := List.take_of_length_le (by rw [hnk.out]; exact Nat.le_refl _)
      have hyk : y.kids.take j = y.kids := List.take_of_length_le (by rw [knk.out]; exact Nat.le_refl _)
      have hn := Lib.hid (show X = true by rw [hX.out, decide_eq_true]; exact ⟨hC.out, hK.out, hP.out, hV.out, by rw [← hxk, ← hyk]; exact hpre⟩)
      clear hX hpre hxk hyk
      have hbel := Lib.hid hFr.bel
      replace hFr := Lib.hid hFr
      replace hBr := Lib.hid hBr
      go_wp2_with fail
      go_ret
      exact ⟨ret_bool hn.out.symm, hbel.out⟩
end Go.Proofs.YtahaaeenbahknaaRRRR
