/-
  The laws of chapter 05: NodeBack, NodeUnlike.
-/
import Derived.Test.YtahaaeenbahknaaRRRRLaw05
namespace Go.Proofs.YtahaaeenbahknaaRRRR
open Go.RowKit

theorem NodV.range {wr W : World} {cs : List Value} {x : Nd.No} (h : NodV wr cs x W) : W.rangeAt wr.heap.size 0 cs := by
  intro j u hu
  rw [Nat.zero_add, h.it.cell j, List.getElem?_toArray]
  exact hu
theorem same_self (S S' : Nat → Prop) (v v' : Value) (x : Nd.No) (w : World) (hx : NodIn S w v x) (hy : NodIn S' w v' x) (hS : ∀ q, S q → q < w.heap.size) (hS' : ∀ q, S' q → q < w.heap.size) :
    Calls Try.prog 11 #[v, v'] w fun e w' => e = .returned (.bool true) ∧ Below w.heap.size w w' := by
  have h := ref_Same S S' v v' x x w hx hy hS hS'
  simpa using h
open Classical in
theorem same_is (S S' : Nat → Prop) (v v' : Value) (x y : Nd.No) (w : World) (hx : NodIn S w v x) (hy : NodIn S' w v' y) (hS : ∀ q, S q → q < w.heap.size) (hS' : ∀ q, S' q → q < w.heap.size) (b : Bool) (hb : b = true ↔ x = y) :
    Calls Try.prog 11 #[v, v'] w fun e w' => e = .returned (.bool b) ∧ Below w.heap.size w w' := by
  have h := ref_Same S S' v v' x y w hx hy hS hS'
  rwa [show decide (x = y) = b by rw [Bool.eq_iff_iff, hb]; simp] at h
set_option maxHeartbeats 1000000 in
set_option maxRecDepth 100000 in
theorem law_NodeBack (v : Value) (x : Nd.No) (w : World) (hv : NodIn (fun q => q < w.heap.size) w v x) : Calls Try.prog 3 #[v] w (PostT w) := by
  obtain ⟨cs, rfl, hcl, hone, -⟩ := hv.row
  have hV := Lib.hid (nodV_boxed hv)
  have hwf := Lib.hid hv.wf
  have hcs := Lib.hid (show cs.toArray.size = 38 by simp [hcl])
  have hR := node_Right _ _ x _ hV.out.nin hV.out.lim (fun r _ _ => node_Decode r.inl)
  have hE := fun (W : World) (h : NodV w cs x W) => node_Encode _ _ x W h.nin h.lim
  have hS := fun (W : World) (h : NodV w cs x W) (S' : Nat → Prop) (v' : Value) (h' : NodIn S' W v' x) (hl : ∀ q, S' q → q < W.heap.size) => same_self _ S' _ v' x W h.nin h' h.lim hl
  replace hS := Lib.hid hS
  replace hcl := Lib.hid hcl
  clear hv hone
  cases hr : Nd.right Nd.dec x with
  | false =>
    rw [hr] at hR hE
    replace hr := Lib.hid hr
    replace hE := Lib.hid hE
    clear hS
    go_enter Try.func3, Try.ntmps3
    go_wp2_with (first
      | (refine wpList_load_row rfl 29 _ rfl w.heap.size rfl _ _ _ _ hV.out.it Try.underlying29 rfl (by rw [hcs.out]; exact info_node) ?_)
      | fail)
    refine hR.mono ?_
    rintro e w1 ⟨rfl, hb1⟩
    have hV1 := Lib.hid (hV.out.step hb1)
    clear hR hb1 hV
    go_wp2_with (first
      | (refine wpList_load_row rfl 29 _ rfl w.heap.size rfl _ _ _ _ hV1.out.it Try.underlying29 rfl (by rw [hcs.out]; exact info_node) ?_)
      | fail)
    refine (hE.out w1 hV1.out).mono ?_
    rintro e w2 ⟨A2, n2, c2, rfl, hn2, -, hb2⟩
    have hV2 := Lib.hid (hV1.out.step hb2)
    obtain rfl : n2 = 0 := by simpa using hn2
    clear hn2
    simp only [Bool.false_eq_true, if_false]
    clear hE hb2 hV1
    go_wp2_with fail
    refine (law05_alive w2).mono ?_
    rintro e w3 ⟨rfl, hb3⟩
    have hV3 := Lib.hid (hV2.out.step hb3)
    clear hb3 hV2
    go_wp2_with fail
    go_ret
    exact ⟨rfl, hV3.out.bel⟩
  | true =>
    have hdec := Lib.hid (Nd.dec_enc hwf.out hr)
    rw [hr] at hR hE
    replace hr := Lib.hid hr
    simp only [if_true] at hE
    generalize Nd.enc x = l at *
    replace hE := Lib.hid hE
    go_enter Try.func3, Try.ntmps3
    go_wp2_with (first
      | (refine wpList_load_row rfl 29 _ rfl w.heap.size rfl _ _ _ _ hV.out.it Try.underlying29 rfl (by rw [hcs.out]; exact info_node) ?_)
      | fail)
    refine hR.mono ?_
    rintro e w1 ⟨rfl, hb1⟩
    have hV1 := Lib.hid (hV.out.step hb1)
    clear hR hb1 hV
    go_wp2_with (first
      | (refine wpList_load_row rfl 29 _ rfl w.heap.size rfl _ _ _ _ hV1.out.it Try.underlying29 rfl (by rw [hcs.out]; exact info_node) ?_)
      | fail)
    refine (hE.out w1 hV1.out).mono ?_
    rintro e w2 ⟨A2, n2, c2, rfl, hN2⟩
    have hV2 := Lib.hid (hV1.out.step hN2.2.2)
    have hby2 := Lib.hid hN2.bytes
    clear hE hN2 hV1
    go_wp2_with fail
    refine (law05_alive w2).mono ?_
    rintro e w3 ⟨rfl, hb3⟩
    have hV3 := Lib.hid (hV2.out.step hb3)
    have hby3 := Lib.hid (hby2.out.step hb3)
    clear hb3 hV2 hby2
    go_wp2_with fail
    refine (node_Decode l A2 n2 c2 w3 hby3.out).mono ?_
    intro e w4 hq
    obtain ⟨cs2, rfl, hcl2, hone2, hnin2, hb4⟩ := hq.some_ hdec.out
    have hV4 := Lib.hid (hV3.out.step hb4)
    have hst := Lib.hid (nodV_stored hnin2)
    have hcs2 := Lib.hid (show cs2.toArray.size = 38 by simp [hcl2])
    replace hone2 := Lib.hid hone2
    replace hcl2 := Lib.hid hcl2
    clear hq hb4 hnin2 hV3 hby3
    go_wp2_with (first
      | (refine wpList_store_row rfl 29 _ _ rfl w4.heap.size cs2.toArray rfl rfl _ _ (Blk.new w4 29 noZ) (by rw [hcs2.out]; exact info_node) (by rw [hcs2.out]; rfl) hone2.out ?_; refine list_at (NodV w4 cs2 x) hst.out ?_; intro w5 hU5; have hV5 := Lib.hid (hV4.out.step hU5.bel); replace hU5 := Lib.hid hU5)
      | (refine wpList_mid_g (by rfl) 29 _ rfl w.heap.size 0 rfl cs _ hV5.out.range Try.underlying29 rfl (by rw [hcl.out]; exact info_node) ?_)
      | (refine wpList_mid_g (by rfl) 29 _ rfl w4.heap.size 0 rfl cs2 _ hU5.out.range Try.underlying29 rfl (by rw [hcl2.out]; exact info_node) ?_)
      | fail)
    refine (hS.out w5 hV5.out _ _ hU5.out.nin hU5.out.lim).mono ?_
    rintro e w6 ⟨rfl, hb6⟩
    have hbe := Lib.hid (hV5.out.step hb6).bel
    clear hb6
    go_wp2_with fail
    go_ret
    exact ⟨rfl, hbe.out⟩
/-- what NodeUnlike's last region reads -/
structure UnlI (w w0 : World) (cs1 cs2 : List Value) (x y : Nd.No) (A1 : Option Addr) (n1 c1 : Nat) (l1 : List UInt8) (A2 : Option Addr) (n2 c2 : Nat) (l2 : List UInt8) (W : World) : Prop where
  v1 : NodV w cs1 x W
  v2 : NodV w0 cs2 y W
  b1 : Bytes W W.heap.size A1 n1 c1 l1
  b2 : Bytes W W.heap.size A2 n2 c2 l2
theorem UnlI.step {w w0 W W' : World} {cs1 cs2 : List Value} {x y : Nd.No} {A1 A2 : Option Addr} {n1 c1 n2 c2 : Nat} {l1 l2 : List UInt8} (h : UnlI w w0 cs1 cs2 x y A1 n1 c1 l1 A2 n2 c2 l2 W) (hb : Below W.heap.size W W') : UnlI w w0 cs1 cs2 x y A1 n1 c1 l1 A2 n2 c2 l2 W' :=
  ⟨h.v1.step hb, h.v2.step hb, h.b1.step hb, h.b2.step hb⟩
set_option maxHeartbeats 2000000 in
set_option maxRecDepth 100000 in
theorem law_NodeUnlike (v v' : Value) (x y : Nd.No) (w : World) (hv : NodIn (fun q => q < w.heap.size) w v x) (hv' : NodIn (fun q => q < w.heap.size) w v' y) : Calls Try.prog 5 #[v, v'] w (PostT w) := by
  obtain ⟨cs, rfl, hcl, hone, -⟩ := hv.row
  obtain ⟨cs', rfl, hcl', hone', -⟩ := hv'.row
  have hs0 : (w.alloc (.cells cs.toArray 29)).heap.size = w.heap.size + 1 := by simp
  have hmv : ∀ q, q < w.heap.size → (w.alloc (.cells cs.toArray 29)).heap[q]? = w.heap[q]? := fun q h => Below.heap_alloc w _ q h
  have hU := nodV_boxed (hv'.move (S' := fun _ => True) (fun q _ h => ⟨trivial, hmv q h⟩) (by omega))
  have hV := (nodV_boxed hv).step ((Below.refl _ _).alloc (Nat.le_refl _) (.cells cs'.toArray 29))
  have hwf := Lib.hid hv.wf
  have hwf' := Lib.hid hv'.wf
  have hcs := Lib.hid (show cs.toArray.size = 38 by simp [hcl])
  have hcs' := Lib.hid (show cs'.toArray.size = 38 by simp [hcl'])
  have hE := fun (W : World) (h : NodV w cs x W) => node_Encode _ _ x W h.nin h.lim
  have hE' := fun (W : World) (h : NodV (w.alloc (.cells cs.toArray 29)) cs' y W) => node_Encode _ _ y W h.nin h.lim
  have hSm := fun (W : World) (h : NodV w cs x W) (h' : NodV (w.alloc (.cells cs.toArray 29)) cs' y W) => same_is _ _ _ _ x y W h.nin h'.nin h.lim h'.lim
  have hit : ∀ W, NodV (w.alloc (.cells cs.toArray 29)) cs' y W → Blk W (w.heap.size + 1) 29 cs'.toArray ∧ W.rangeAt (w.heap.size + 1) 0 cs' := fun W h => by rw [← hs0]; exact ⟨h.it, h.range⟩
  replace hU := Lib.hid hU
  replace hV := Lib.hid hV
  replace hcl := Lib.hid hcl
  replace hcl' := Lib.hid hcl'
  replace hSm := Lib.hid hSm
  replace hit := Lib.hid hit
  clear hv hv' hone hone' hs0 hmv
  cases hr : Nd.right Nd.dec x with
  | false =>
    rw [hr] at hE
    simp only [Bool.false_eq_true, if_false] at hE
    replace hr := Lib.hid hr
    generalize (if Nd.right Nd.dec y = true then Nd.enc y else []) = L2 at hE'
    generalize (if Nd.right Nd.dec y = true then (0 : Int) else 50) = k2 at hE'
    clear hSm
    replace hE := Lib.hid hE
    replace hE' := Lib.hid hE'
    go_enter Try.func5, Try.ntmps5
    go_wp2_with (first
      | (refine wpList_load_row rfl 29 _ rfl w.heap.size rfl _ _ _ _ hV.out.it Try.underlying29 rfl (by rw [hcs.out]; exact info_node) ?_)
      | fail)
    refine (hE.out _ hV.out).mono ?_
    rintro e w2 ⟨A2, n2, c2, rfl, hN2⟩
    have hV2 := Lib.hid (hV.out.step hN2.2.2)
    have hU2 := Lib.hid (hU.out.step hN2.2.2)
    have hby2 := Lib.hid hN2.bytes
    clear hE hN2 hV hU
    go_wp2_with (first
      | (refine wpList_load_row rfl 29 _ rfl (w.heap.size + 1) rfl _ _ _ _ (hit.out _ hU2.out).1 Try.underlying29 rfl (by rw [hcs'.out]; exact info_node) ?_)
      | fail)
    refine (hE'.out _ hU2.out).mono ?_
    rintro e w3 ⟨A3, n3, c3, rfl, hN3⟩
    have hI := UnlI.step ⟨hV2.out.step hN3.2.2, hU2.out.step hN3.2.2, hby2.out.step hN3.2.2, hN3.bytes⟩ ((Below.refl w3.heap.size w3).drew)
    clear hE' hV2 hU2 hN3 hby2
    replace hI := Lib.hid hI
    go_wp2_with fail
    refine wp_region_held_drew (S := (UnlI w (w.alloc (.cells cs.toArray 29)) cs cs' x y A2 n2 c2 [] A3 n3 c3 L2)) (by kernel_rfl) (by exact hI.out) (fun hS => ?_)
    (refine hOne (i := 0) rfl (by kernel_rfl) (fun K hK => ?_))
    rw [if_pos (by rfl)]
    go_simp
    refine (law05_alive _).mono ?_
    rintro e w4 ⟨rfl, hb4⟩
    have hI4 := hI.out.step hb4
    clear hb4 hI
    (refine hK.out _ _ (by exact hI4) (fun hS => ?_); clear hK K; try simp only [Act.put, List.setIfInBounds_toArray, List.set_cons_zero, List.set_cons_succ])
    (refine hTake (i := 1) (v := ?v1) rfl (by kernel_rfl) (by kernel_rfl) (by kernel_rfl) (fun _ _ _ h => h) (Or.inl ⟨by rfl, ?y1⟩) hS ?r1; (case y1 => (intro W hW; (go_simp); (try with_reducible rfl); done)); try simp only [Act.put, List.setIfInBounds_toArray, List.set_cons_zero, List.set_cons_succ])
    (refine hTake (i := 2) (v := ?v2) rfl (by kernel_rfl) (by kernel_rfl) (by kernel_rfl) (fun _ _ _ h => h) (Or.inl ⟨by rfl, ?y2⟩) hS ?r2; (case y2 => (intro W hW; (go_simp); (try with_reducible rfl); done)); try simp only [Act.put, List.setIfInBounds_toArray, List.set_cons_zero, List.set_cons_succ])
    (refine hTake (i := 3) (v := ?v3) rfl (by kernel_rfl) (by kernel_rfl) (by kernel_rfl) (fun _ _ _ h => h) (Or.inl ⟨by rfl, ?y3⟩) hS ?r3; (case y3 => (intro W hW; (go_simp); (try with_reducible rfl); done)); try simp only [Act.put, List.setIfInBounds_toArray, List.set_cons_zero, List.set_cons_succ])
    (refine hTake (i := 4) (v := ?v4) rfl (by kernel_rfl) (by kernel_rfl) (by kernel_rfl) (fun _ _ _ h => h) (Or.inl ⟨by rfl, ?y4⟩) hS ?r4; (case y4 => (intro W hW; (go_simp); (try with_reducible rfl); done)); try simp only [Act.put, List.setIfInBounds_toArray, List.set_cons_zero, List.set_cons_succ])
    (refine hTake (i := 5) (v := undef) rfl (by kernel_rfl) (by kernel_rfl) (by kernel_rfl) (fun _ _ _ h => h) (Or.inr ⟨by rfl, rfl⟩) hS ?_; try simp only [Act.put, List.setIfInBounds_toArray, List.set_cons_zero, List.set_cons_succ])
    (refine hTake (i := 6) (v := undef) rfl (by kernel_rfl) (by kernel_rfl) (by kernel_rfl) (fun _ _ _ h => h) (Or.inr ⟨by rfl, rfl⟩) hS ?_; try simp only [Act.put, List.setIfInBounds_toArray, List.set_cons_zero, List.set_cons_succ])
    (refine hTake (i := 7) (v := ?v5) rfl (by kernel_rfl) (by kernel_rfl) (by kernel_rfl) (fun _ _ _ h => h) (Or.inl ⟨by rfl, ?y5⟩) hS ?r5; (case y5 => (intro W hW; (go_simp); (try with_reducible rfl); done)); try simp only [Act.put, List.setIfInBounds_toArray, List.set_cons_zero, List.set_cons_succ])
    (refine hTake (i := 8) (v := ?v6) rfl (by kernel_rfl) (by kernel_rfl) (by kernel_rfl) (fun _ _ _ h => h) (Or.inl ⟨by rfl, ?y6⟩) hS ?r6; (case y6 => (intro W hW; (go_simp); (try with_reducible rfl); done)); try simp only [Act.put, List.setIfInBounds_toArray, List.set_cons_zero, List.set_cons_succ])
    (refine hTake (i := 9) (v := undef) rfl (by kernel_rfl) (by kernel_rfl) (by kernel_rfl) (fun _ _ _ h => h) (Or.inr ⟨by rfl, rfl⟩) hS ?_; try simp only [Act.put, List.setIfInBounds_toArray, List.set_cons_zero, List.set_cons_succ])
    (refine hTake (i := 10) (v := undef) rfl (by kernel_rfl) (by kernel_rfl) (by kernel_rfl) (fun _ _ _ h => h) (Or.inr ⟨by rfl, rfl⟩) hS ?_; try simp only [Act.put, List.setIfInBounds_toArray, List.set_cons_zero, List.set_cons_succ])
    (refine hTake (i := 11) (v := undef) rfl (by kernel_rfl) (by kernel_rfl) (by kernel_rfl) (fun _ _ _ h => h) (Or.inr ⟨by rfl, rfl⟩) hS ?_; try simp only [Act.put, List.setIfInBounds_toArray, List.set_cons_zero, List.set_cons_succ])
    (refine hTake (i := 12) (v := undef) rfl (by kernel_rfl) (by kernel_rfl) (by kernel_rfl) (fun _ _ _ h => h) (Or.inr ⟨by rfl, rfl⟩) hS ?_; try simp only [Act.put, List.setIfInBounds_toArray, List.set_cons_zero, List.set_cons_succ])
    (refine hTake (i := 13) (v := undef) rfl (by kernel_rfl) (by kernel_rfl) (by kernel_rfl) (fun _ _ _ h => h) (Or.inr ⟨by rfl, rfl⟩) hS ?_; try simp only [Act.put, List.setIfInBounds_toArray, List.set_cons_zero, List.set_cons_succ])
    (refine hTake (i := 14) (v := undef) rfl (by kernel_rfl) (by kernel_rfl) (by kernel_rfl) (fun _ _ _ h => h) (Or.inr ⟨by rfl, rfl⟩) hS ?_; try simp only [Act.put, List.setIfInBounds_toArray, List.set_cons_zero, List.set_cons_succ])
    (refine hTake (i := 15) (v := undef) rfl (by kernel_rfl) (by kernel_rfl) (by kernel_rfl) (fun _ _ _ h => h) (Or.inr ⟨by rfl, rfl⟩) hS ?_; try simp only [Act.put, List.setIfInBounds_toArray, List.set_cons_zero, List.set_cons_succ])
    (refine hTake (i := 16) (v := undef) rfl (by kernel_rfl) (by kernel_rfl) (by kernel_rfl) (fun _ _ _ h => h) (Or.inr ⟨by rfl, rfl⟩) hS ?_; try simp only [Act.put, List.setIfInBounds_toArray, List.set_cons_zero, List.set_cons_succ])
    (refine hTake (i := 17) (v := undef) rfl (by kernel_rfl) (by kernel_rfl) (by kernel_rfl) (fun _ _ _ h => h) (Or.inr ⟨by rfl, rfl⟩) hS ?_; try simp only [Act.put, List.setIfInBounds_toArray, List.set_cons_zero, List.set_cons_succ])
    (refine hTake (i := 18) (v := ?v7) rfl (by kernel_rfl) (by kernel_rfl) (by kernel_rfl) (fun _ _ _ h => h) (Or.inl ⟨by rfl, ?y7⟩) hS ?r7; (case y7 => (intro W hW; (go_simp); (try with_reducible rfl); done)); try simp only [Act.put, List.setIfInBounds_toArray, List.set_cons_zero, List.set_cons_succ])
    (refine hTake (i := 19) (v := ?v8) rfl (by kernel_rfl) (by kernel_rfl) (by kernel_rfl) (fun _ _ _ h => h) (Or.inl ⟨by rfl, ?y8⟩) hS ?r8; (case y8 => (intro W hW; (go_simp); (try with_reducible rfl); done)); try simp only [Act.put, List.setIfInBounds_toArray, List.set_cons_zero, List.set_cons_succ])
    (refine hTake (i := 20) (v := ?v9) rfl (by kernel_rfl) (by kernel_rfl) (by kernel_rfl) (fun _ _ _ h => h) (Or.inl ⟨by rfl, ?y9⟩) hS ?r9; (case y9 => (intro W hW; (go_simp); (try with_reducible rfl); done)); try simp only [Act.put, List.setIfInBounds_toArray, List.set_cons_zero, List.set_cons_succ])
    refine wpAnyH_done (by kernel_rfl) ?_ _
    have hbel := Lib.hid hI4.v1.bel
    clear hI4
    go_wp2_with fail
    go_ret
    exact ⟨rfl, hbel.out⟩
  | true =>
    rw [hr] at hE
    simp only [if_true] at hE
    cases hr' : Nd.right Nd.dec y with
    | false =>
      rw [hr'] at hE'
      simp only [Bool.false_eq_true, if_false] at hE'
      replace hr := Lib.hid hr
      replace hr' := Lib.hid hr'
      generalize Nd.enc x = L1 at *
      clear hSm
      replace hE := Lib.hid hE
      replace hE' := Lib.hid hE'
      go_enter Try.func5, Try.ntmps5
      go_wp2_with (first
        | (refine wpList_load_row rfl 29 _ rfl w.heap.size rfl _ _ _ _ hV.out.it Try.underlying29 rfl (by rw [hcs.out]; exact info_node) ?_)
        | fail)
      refine (hE.out _ hV.out).mono ?_
      rintro e w2 ⟨A2, n2, c2, rfl, hN2⟩
      have hV2 := Lib.hid (hV.out.step hN2.2.2)
      have hU2 := Lib.hid (hU.out.step hN2.2.2)
      have hby2 := Lib.hid hN2.bytes
      clear hE hN2 hV hU
      go_wp2_with (first
        | (refine wpList_load_row rfl 29 _ rfl (w.heap.size + 1) rfl _ _ _ _ (hit.out _ hU2.out).1 Try.underlying29 rfl (by rw [hcs'.out]; exact info_node) ?_)
        | fail)
      refine (hE'.out _ hU2.out).mono ?_
      rintro e w3 ⟨A3, n3, c3, rfl, hN3⟩
      have hI := UnlI.step ⟨hV2.out.step hN3.2.2, hU2.out.step hN3.2.2, hby2.out.step hN3.2.2, hN3.bytes⟩ ((Below.refl w3.heap.size w3).drew)
      clear hE' hV2 hU2 hN3 hby2
      replace hI := Lib.hid hI
      go_wp2_with fail
      refine wp_region_held_drew (S := (UnlI w (w.alloc (.cells cs.toArray 29)) cs cs' x y A2 n2 c2 L1 A3 n3 c3 [])) (by kernel_rfl) (by exact hI.out) (fun hS => ?_)
      (refine hOne (i := 0) rfl (by kernel_rfl) (fun K hK => ?_))
      rw [if_pos (by rfl)]
      go_simp
      refine (law05_alive _).mono ?_
      rintro e w4 ⟨rfl, hb4⟩
      have hI4 := hI.out.step hb4
      clear hb4 hI
      (refine hK.out _ _ (by exact hI4) (fun hS => ?_); clear hK K; try simp only [Act.put, List.setIfInBounds_toArray, List.set_cons_zero, List.set_cons_succ])
      (refine hTake (i := 1) (v := ?v10) rfl (by kernel_rfl) (by kernel_rfl) (by kernel_rfl) (fun _ _ _ h => h) (Or.inl ⟨by rfl, ?y10⟩) hS ?r10; (case y10 => (intro W hW; (go_simp); (try with_reducible rfl); done)); try simp only [Act.put, List.setIfInBounds_toArray, List.set_cons_zero, List.set_cons_succ])
      (refine hTake (i := 2) (v := ?v11) rfl (by kernel_rfl) (by kernel_rfl) (by kernel_rfl) (fun _ _ _ h => h) (Or.inl ⟨by rfl, ?y11⟩) hS ?r11; (case y11 => (intro W hW; (go_simp); (try with_reducible rfl); done)); try simp only [Act.put, List.setIfInBounds_toArray, List.set_cons_zero, List.set_cons_succ])
      (refine hTake (i := 3) (v := ?v12) rfl (by kernel_rfl) (by kernel_rfl) (by kernel_rfl) (fun _ _ _ h => h) (Or.inl ⟨by rfl, ?y12⟩) hS ?r12; (case y12 => (intro W hW; (go_simp); (try with_reducible rfl); done)); try simp only [Act.put, List.setIfInBounds_toArray, List.set_cons_zero, List.set_cons_succ])
      (refine hTake (i := 4) (v := ?v13) rfl (by kernel_rfl) (by kernel_rfl) (by kernel_rfl) (fun _ _ _ h => h) (Or.inl ⟨by rfl, ?y13⟩) hS ?r13; (case y13 => (intro W hW; (go_simp); (try with_reducible rfl); done)); try simp only [Act.put, List.setIfInBounds_toArray, List.set_cons_zero, List.set_cons_succ])
      (refine hTake (i := 5) (v := ?v14) rfl (by kernel_rfl) (by kernel_rfl) (by kernel_rfl) (fun _ _ _ h => h) (Or.inl ⟨by rfl, ?y14⟩) hS ?r14; (case y14 => (intro W hW; (go_simp); (try with_reducible rfl); done)); try simp only [Act.put, List.setIfInBounds_toArray, List.set_cons_zero, List.set_cons_succ])
      (refine hTake (i := 6) (v := ?v15) rfl (by kernel_rfl) (by kernel_rfl) (by kernel_rfl) (fun _ _ _ h => h) (Or.inl ⟨by rfl, ?y15⟩) hS ?r15; (case y15 => (intro W hW; (go_simp); (try with_reducible rfl); done)); try simp only [Act.put, List.setIfInBounds_toArray, List.set_cons_zero, List.set_cons_succ])
      (refine hTake (i := 7) (v := ?v16) rfl (by kernel_rfl) (by kernel_rfl) (by kernel_rfl) (fun _ _ _ h => h) (Or.inl ⟨by rfl, ?y16⟩) hS ?r16; (case y16 => (intro W hW; (go_simp); (try with_reducible rfl); done)); try simp only [Act.put, List.setIfInBounds_toArray, List.set_cons_zero, List.set_cons_succ])
      (refine hTake (i := 8) (v := ?v17) rfl (by kernel_rfl) (by kernel_rfl) (by kernel_rfl) (fun _ _ _ h => h) (Or.inl ⟨by rfl, ?y17⟩) hS ?r17; (case y17 => (intro W hW; (go_simp); (try with_reducible rfl); done)); try simp only [Act.put, List.setIfInBounds_toArray, List.set_cons_zero, List.set_cons_succ])
      (refine hTake (i := 9) (v := undef) rfl (by kernel_rfl) (by kernel_rfl) (by kernel_rfl) (fun _ _ _ h => h) (Or.inr ⟨by rfl, rfl⟩) hS ?_; try simp only [Act.put, List.setIfInBounds_toArray, List.set_cons_zero, List.set_cons_succ])
      (refine hTake (i := 10) (v := undef) rfl (by kernel_rfl) (by kernel_rfl) (by kernel_rfl) (fun _ _ _ h => h) (Or.inr ⟨by rfl, rfl⟩) hS ?_; try simp only [Act.put, List.setIfInBounds_toArray, List.set_cons_zero, List.set_cons_succ])
      (refine hTake (i := 11) (v := undef) rfl (by kernel_rfl) (by kernel_rfl) (by kernel_rfl) (fun _ _ _ h => h) (Or.inr ⟨by rfl, rfl⟩) hS ?_; try simp only [Act.put, List.setIfInBounds_toArray, List.set_cons_zero, List.set_cons_succ])
      (refine hTake (i := 12) (v := undef) rfl (by kernel_rfl) (by kernel_rfl) (by kernel_rfl) (fun _ _ _ h => h) (Or.inr ⟨by rfl, rfl⟩) hS ?_; try simp only [Act.put, List.setIfInBounds_toArray, List.set_cons_zero, List.set_cons_succ])
      (refine hTake (i := 13) (v := undef) rfl (by kernel_rfl) (by kernel_rfl) (by kernel_rfl) (fun _ _ _ h => h) (Or.inr ⟨by rfl, rfl⟩) hS ?_; try simp only [Act.put, List.setIfInBounds_toArray, List.set_cons_zero, List.set_cons_succ])
      (refine hTake (i := 14) (v := undef) rfl (by kernel_rfl) (by kernel_rfl) (by kernel_rfl) (fun _ _ _ h => h) (Or.inr ⟨by rfl, rfl⟩) hS ?_; try simp only [Act.put, List.setIfInBounds_toArray, List.set_cons_zero, List.set_cons_succ])
      (refine hTake (i := 15) (v := undef) rfl (by kernel_rfl) (by kernel_rfl) (by kernel_rfl) (fun _ _ _ h => h) (Or.inr ⟨by rfl, rfl⟩) hS ?_; try simp only [Act.put, List.setIfInBounds_toArray, List.set_cons_zero, List.set_cons_succ])
      (refine hTake (i := 16) (v := undef) rfl (by kernel_rfl) (by kernel_rfl) (by kernel_rfl) (fun _ _ _ h => h) (Or.inr ⟨by rfl, rfl⟩) hS ?_; try simp only [Act.put, List.setIfInBounds_toArray, List.set_cons_zero, List.set_cons_succ])
      (refine hTake (i := 17) (v := undef) rfl (by kernel_rfl) (by kernel_rfl) (by kernel_rfl) (fun _ _ _ h => h) (Or.inr ⟨by rfl, rfl⟩) hS ?_; try simp only [Act.put, List.setIfInBounds_toArray, List.set_cons_zero, List.set_cons_succ])
      (refine hTake (i := 18) (v := ?v18) rfl (by kernel_rfl) (by kernel_rfl) (by kernel_rfl) (fun _ _ _ h => h) (Or.inl ⟨by rfl, ?y18⟩) hS ?r18; (case y18 => (intro W hW; (go_simp); (try with_reducible rfl); done)); try simp only [Act.put, List.setIfInBounds_toArray, List.set_cons_zero, List.set_cons_succ])
      (refine hTake (i := 19) (v := ?v19) rfl (by kernel_rfl) (by kernel_rfl) (by kernel_rfl) (fun _ _ _ h => h) (Or.inl ⟨by rfl, ?y19⟩) hS ?r19; (case y19 => (intro W hW; (go_simp); (try with_reducible rfl); done)); try simp only [Act.put, List.setIfInBounds_toArray, List.set_cons_zero, List.set_cons_succ])
      (refine hTake (i := 20) (v := ?v20) rfl (by kernel_rfl) (by kernel_rfl) (by kernel_rfl) (fun _ _ _ h => h) (Or.inl ⟨by rfl, ?y20⟩) hS ?r20; (case y20 => (intro W hW; (go_simp); (try with_reducible rfl); done)); try simp only [Act.put, List.setIfInBounds_toArray, List.set_cons_zero, List.set_cons_succ])
      refine wpAnyH_done (by kernel_rfl) ?_ _
      have hbel := Lib.hid hI4.v1.bel
      clear hI4
      go_wp2_with fail
      go_ret
      exact ⟨rfl, hbel.out⟩
    | true =>
      rw [hr'] at hE'
      simp only [if_true] at hE'
      have hinj := Nd.enc_inj hwf.out hwf'.out hr hr'
      replace hr := Lib.hid hr
      replace hr' := Lib.hid hr'
      generalize Nd.enc x = L1 at *
      generalize Nd.enc y = L2 at *
      by_cases hL : L1 = L2
      · have hB := Lib.hid (hinj.1 hL)
        subst hL
        clear hinj
        replace hE := Lib.hid hE
        replace hE' := Lib.hid hE'
        go_enter Try.func5, Try.ntmps5
        go_wp2_with (first
          | (refine wpList_load_row rfl 29 _ rfl w.heap.size rfl _ _ _ _ hV.out.it Try.underlying29 rfl (by rw [hcs.out]; exact info_node) ?_)
          | fail)
        refine (hE.out _ hV.out).mono ?_
        rintro e w2 ⟨A2, n2, c2, rfl, hN2⟩
        have hV2 := Lib.hid (hV.out.step hN2.2.2)
        have hU2 := Lib.hid (hU.out.step hN2.2.2)
        have hby2 := Lib.hid hN2.bytes
        clear hE hN2 hV hU
        go_wp2_with (first
          | (refine wpList_load_row rfl 29 _ rfl (w.heap.size + 1) rfl _ _ _ _ (hit.out _ hU2.out).1 Try.underlying29 rfl (by rw [hcs'.out]; exact info_node) ?_)
          | fail)
        refine (hE'.out _ hU2.out).mono ?_
        rintro e w3 ⟨A3, n3, c3, rfl, hN3⟩
        have hI := UnlI.step ⟨hV2.out.step hN3.2.2, hU2.out.step hN3.2.2, hby2.out.step hN3.2.2, hN3.bytes⟩ ((Below.refl w3.heap.size w3).drew)
        clear hE' hV2 hU2 hN3 hby2
        replace hI := Lib.hid hI
        go_wp2_with fail
        refine wp_region_held_drew (S := (UnlI w (w.alloc (.cells cs.toArray 29)) cs cs' x y A2 n2 c2 L1 A3 n3 c3 L1)) (by kernel_rfl) (by exact hI.out) (fun hS => ?_)
        (refine hOne (i := 0) rfl (by kernel_rfl) (fun K hK => ?_))
        rw [if_pos (by rfl)]
        go_simp
        refine (law05_alive _).mono ?_
        rintro e w4 ⟨rfl, hb4⟩
        have hI4 := hI.out.step hb4
        clear hb4 hI
        (refine hK.out _ _ (by exact hI4) (fun hS => ?_); clear hK K; try simp only [Act.put, List.setIfInBounds_toArray, List.set_cons_zero, List.set_cons_succ])
        (refine hTake (i := 1) (v := ?v21) rfl (by kernel_rfl) (by kernel_rfl) (by kernel_rfl) (fun _ _ _ h => h) (Or.inl ⟨by rfl, ?y21⟩) hS ?r21; (case y21 => (intro W hW; (go_simp); (try with_reducible rfl); done)); try simp only [Act.put, List.setIfInBounds_toArray, List.set_cons_zero, List.set_cons_succ])
        (refine hTake (i := 2) (v := ?v22) rfl (by kernel_rfl) (by kernel_rfl) (by kernel_rfl) (fun _ _ _ h => h) (Or.inl ⟨by rfl, ?y22⟩) hS ?r22; (case y22 => (intro W hW; (go_simp); (try with_reducible rfl); done)); try simp only [Act.put, List.setIfInBounds_toArray, List.set_cons_zero, List.set_cons_succ])
        (refine hTake (i := 3) (v := ?v23) rfl (by kernel_rfl) (by kernel_rfl) (by kernel_rfl) (fun _ _ _ h => h) (Or.inl ⟨by rfl, ?y23⟩) hS ?r23; (case y23 => (intro W hW; (go_simp); (try with_reducible rfl); done)); try simp only [Act.put, List.setIfInBounds_toArray, List.set_cons_zero, List.set_cons_succ])
        (refine hTake (i := 4) (v := ?v24) rfl (by kernel_rfl) (by kernel_rfl) (by kernel_rfl) (fun _ _ _ h => h) (Or.inl ⟨by rfl, ?y24⟩) hS ?r24; (case y24 => (intro W hW; (go_simp); (try with_reducible rfl); done)); try simp only [Act.put, List.setIfInBounds_toArray, List.set_cons_zero, List.set_cons_succ])
        (refine hTake (i := 5) (v := ?v25) rfl (by kernel_rfl) (by kernel_rfl) (by kernel_rfl) (fun _ _ _ h => h) (Or.inl ⟨by rfl, ?y25⟩) hS ?r25; (case y25 => (intro W hW; (go_simp); (try with_reducible rfl); done)); try simp only [Act.put, List.setIfInBounds_toArray, List.set_cons_zero, List.set_cons_succ])
        (refine hTake (i := 6) (v := ?v26) rfl (by kernel_rfl) (by kernel_rfl) (by kernel_rfl) (fun _ _ _ h => h) (Or.inl ⟨by rfl, ?y26⟩) hS ?r26; (case y26 => (intro W hW; (go_simp); (try with_reducible rfl); done)); try simp only [Act.put, List.setIfInBounds_toArray, List.set_cons_zero, List.set_cons_succ])
        (refine hTake (i := 7) (v := ?v27) rfl (by kernel_rfl) (by kernel_rfl) (by kernel_rfl) (fun _ _ _ h => h) (Or.inl ⟨by rfl, ?y27⟩) hS ?r27; (case y27 => (intro W hW; (go_simp); (try with_reducible rfl); done)); try simp only [Act.put, List.setIfInBounds_toArray, List.set_cons_zero, List.set_cons_succ])
        (refine hTake (i := 8) (v := ?v28) rfl (by kernel_rfl) (by kernel_rfl) (by kernel_rfl) (fun _ _ _ h => h) (Or.inl ⟨by rfl, ?y28⟩) hS ?r28; (case y28 => (intro W hW; (go_simp); (try with_reducible rfl); done)); try simp only [Act.put, List.setIfInBounds_toArray, List.set_cons_zero, List.set_cons_succ])
        (refine hTake (i := 9) (v := ?v29) rfl (by kernel_rfl) (by kernel_rfl) (by kernel_rfl) (fun _ _ _ h => h) (Or.inl ⟨by rfl, ?y29⟩) hS ?r29; (case y29 => (intro W hW; (go_simp); (try with_reducible rfl); done)); try simp only [Act.put, List.setIfInBounds_toArray, List.set_cons_zero, List.set_cons_succ])
        (refine hTake (i := 10) (v := ?v30) rfl (by kernel_rfl) (by kernel_rfl) (by kernel_rfl) (fun _ _ _ h => h) (Or.inl ⟨by rfl, ?y30⟩) hS ?r30; (case y30 => (intro W hW; ((have g := hW.b1.toStr (P := Try.prog) Try.underlying22 Try.underlying5 9 Try.underlying9; go_simp)); (try with_reducible rfl); done)); try simp only [Act.put, List.setIfInBounds_toArray, List.set_cons_zero, List.set_cons_succ])
        (refine hTake (i := 11) (v := ?v31) rfl (by kernel_rfl) (by kernel_rfl) (by kernel_rfl) (fun _ _ _ h => h) (Or.inl ⟨by rfl, ?y31⟩) hS ?r31; (case y31 => (intro W hW; (go_simp); (try with_reducible rfl); done)); try simp only [Act.put, List.setIfInBounds_toArray, List.set_cons_zero, List.set_cons_succ])
        (refine hTake (i := 12) (v := ?v32) rfl (by kernel_rfl) (by kernel_rfl) (by kernel_rfl) (fun _ _ _ h => h) (Or.inl ⟨by rfl, ?y32⟩) hS ?r32; (case y32 => (intro W hW; ((have g := hW.b2.toStr (P := Try.prog) Try.underlying22 Try.underlying5 9 Try.underlying9; go_simp)); (try with_reducible rfl); done)); try simp only [Act.put, List.setIfInBounds_toArray, List.set_cons_zero, List.set_cons_succ])
        (refine hTake (i := 13) (v := ?v33) rfl (by kernel_rfl) (by kernel_rfl) (by kernel_rfl) (fun _ _ _ h => h) (Or.inl ⟨by rfl, ?y33⟩) hS ?r33; (case y33 => (intro W hW; (go_simp); (try with_reducible rfl); done)); try simp only [Act.put, List.setIfInBounds_toArray, List.set_cons_zero, List.set_cons_succ])
        (refine hTake (i := 14) rfl (by kernel_rfl) (by kernel_rfl) (by kernel_rfl) (fun _ _ _ h => h) (yieldsIf_load_mid (by rfl) _ _ rfl _ _ rfl cs _ (fun W hW => (by exact hW.v1.range)) Try.underlying29 rfl (by rw [hcl.out]; exact info_node)) hS ?_; try simp only [Act.put, List.setIfInBounds_toArray, List.set_cons_zero, List.set_cons_succ])
        (refine hTake (i := 15) rfl (by kernel_rfl) (by kernel_rfl) (by kernel_rfl) (fun _ _ _ h => h) (yieldsIf_load_mid (by rfl) _ _ rfl _ _ rfl cs' _ (fun W hW => (by exact (hit.out _ hW.v2).2)) Try.underlying29 rfl (by rw [hcl'.out]; exact info_node)) hS ?_; try simp only [Act.put, List.setIfInBounds_toArray, List.set_cons_zero, List.set_cons_succ])
        (refine hOne (i := 16) rfl (by kernel_rfl) (fun K hK => ?_))
        rw [if_pos (by rfl)]
        go_simp
        refine (hSm.out _ hI4.v1 hI4.v2 true ⟨fun _ => hB.out, fun _ => rfl⟩).mono ?_
        rintro e w5 ⟨rfl, hb5⟩
        have hI5 := hI4.step hb5
        clear hb5 hI4
        (refine hK.out _ _ (by exact hI5) (fun hS => ?_); clear hK K; try simp only [Act.put, List.setIfInBounds_toArray, List.set_cons_zero, List.set_cons_succ])
        (refine hTake (i := 17) (v := ?v34) rfl (by kernel_rfl) (by kernel_rfl) (by kernel_rfl) (fun _ _ _ h => h) (Or.inl ⟨by rfl, ?y34⟩) hS ?r34; (case y34 => (intro W hW; (go_simp); (try with_reducible rfl); done)); try simp only [Act.put, List.setIfInBounds_toArray, List.set_cons_zero, List.set_cons_succ])
        (refine hTake (i := 18) (v := ?v35) rfl (by kernel_rfl) (by kernel_rfl) (by kernel_rfl) (fun _ _ _ h => h) (Or.inl ⟨by rfl, ?y35⟩) hS ?r35; (case y35 => (intro W hW; (go_simp); (try with_reducible rfl); done)); try simp only [Act.put, List.setIfInBounds_toArray, List.set_cons_zero, List.set_cons_succ])
        (refine hTake (i := 19) (v := ?v36) rfl (by kernel_rfl) (by kernel_rfl) (by kernel_rfl) (fun _ _ _ h => h) (Or.inl ⟨by rfl, ?y36⟩) hS ?r36; (case y36 => (intro W hW; (go_simp); (try with_reducible rfl); done)); try simp only [Act.put, List.setIfInBounds_toArray, List.set_cons_zero, List.set_cons_succ])
        (refine hTake (i := 20) (v := ?v37) rfl (by kernel_rfl) (by kernel_rfl) (by kernel_rfl) (fun _ _ _ h => h) (Or.inl ⟨by rfl, ?y37⟩) hS ?r37; (case y37 => (intro W hW; (go_simp); (try with_reducible rfl); done)); try simp only [Act.put, List.setIfInBounds_toArray, List.set_cons_zero, List.set_cons_succ])
        refine wpAnyH_done (by kernel_rfl) ?_ _
        have hbel := Lib.hid hI5.v1.bel
        clear hI5
        go_wp2_with fail
        go_ret
        exact ⟨rfl, hbel.out⟩
      · have hB := Lib.hid (show ¬ x = y from fun h => hL (hinj.2 h))
        have hne := str_ne hL
        clear hinj
        replace hL := Lib.hid hL
        replace hE := Lib.hid hE
        replace hE' := Lib.hid hE'
        go_enter Try.func5, Try.ntmps5
        go_wp2_with (first
          | (refine wpList_load_row rfl 29 _ rfl w.heap.size rfl _ _ _ _ hV.out.it Try.underlying29 rfl (by rw [hcs.out]; exact info_node) ?_)
          | fail)
        refine (hE.out _ hV.out).mono ?_
        rintro e w2 ⟨A2, n2, c2, rfl, hN2⟩
        have hV2 := Lib.hid (hV.out.step hN2.2.2)
        have hU2 := Lib.hid (hU.out.step hN2.2.2)
        have hby2 := Lib.hid hN2.bytes
        clear hE hN2 hV hU
        go_wp2_with (first
          | (refine wpList_load_row rfl 29 _ rfl (w.heap.size + 1) rfl _ _ _ _ (hit.out _ hU2.out).1 Try.underlying29 rfl (by rw [hcs'.out]; exact info_node) ?_)
          | fail)
        refine (hE'.out _ hU2.out).mono ?_
        rintro e w3 ⟨A3, n3, c3, rfl, hN3⟩
        have hI := UnlI.step ⟨hV2.out.step hN3.2.2, hU2.out.step hN3.2.2, hby2.out.step hN3.2.2, hN3.bytes⟩ ((Below.refl w3.heap.size w3).drew)
        clear hE' hV2 hU2 hN3 hby2
        replace hI := Lib.hid hI
        go_wp2_with fail
        refine wp_region_held_drew (S := (UnlI w (w.alloc (.cells cs.toArray 29)) cs cs' x y A2 n2 c2 L1 A3 n3 c3 L2)) (by kernel_rfl) (by exact hI.out) (fun hS => ?_)
        (refine hOne (i := 0) rfl (by kernel_rfl) (fun K hK => ?_))
        rw [if_pos (by rfl)]
        go_simp
        refine (law05_alive _).mono ?_
        rintro e w4 ⟨rfl, hb4⟩
        have hI4 := hI.out.step hb4
        clear hb4 hI
        (refine hK.out _ _ (by exact hI4) (fun hS => ?_); clear hK K; try simp only [Act.put, List.setIfInBounds_toArray, List.set_cons_zero, List.set_cons_succ])
        (refine hTake (i := 1) (v := ?v38) rfl (by kernel_rfl) (by kernel_rfl) (by kernel_rfl) (fun _ _ _ h => h) (Or.inl ⟨by rfl, ?y38⟩) hS ?r38; (case y38 => (intro W hW; (go_simp); (try with_reducible rfl); done)); try simp only [Act.put, List.setIfInBounds_toArray, List.set_cons_zero, List.set_cons_succ])
        (refine hTake (i := 2) (v := ?v39) rfl (by kernel_rfl) (by kernel_rfl) (by kernel_rfl) (fun _ _ _ h => h) (Or.inl ⟨by rfl, ?y39⟩) hS ?r39; (case y39 => (intro W hW; (go_simp); (try with_reducible rfl); done)); try simp only [Act.put, List.setIfInBounds_toArray, List.set_cons_zero, List.set_cons_succ])
        (refine hTake (i := 3) (v := ?v40) rfl (by kernel_rfl) (by kernel_rfl) (by kernel_rfl) (fun _ _ _ h => h) (Or.inl ⟨by rfl, ?y40⟩) hS ?r40; (case y40 => (intro W hW; (go_simp); (try with_reducible rfl); done)); try simp only [Act.put, List.setIfInBounds_toArray, List.set_cons_zero, List.set_cons_succ])
        (refine hTake (i := 4) (v := ?v41) rfl (by kernel_rfl) (by kernel_rfl) (by kernel_rfl) (fun _ _ _ h => h) (Or.inl ⟨by rfl, ?y41⟩) hS ?r41; (case y41 => (intro W hW; (go_simp); (try with_reducible rfl); done)); try simp only [Act.put, List.setIfInBounds_toArray, List.set_cons_zero, List.set_cons_succ])
        (refine hTake (i := 5) (v := ?v42) rfl (by kernel_rfl) (by kernel_rfl) (by kernel_rfl) (fun _ _ _ h => h) (Or.inl ⟨by rfl, ?y42⟩) hS ?r42; (case y42 => (intro W hW; (go_simp); (try with_reducible rfl); done)); try simp only [Act.put, List.setIfInBounds_toArray, List.set_cons_zero, List.set_cons_succ])
        (refine hTake (i := 6) (v := ?v43) rfl (by kernel_rfl) (by kernel_rfl) (by kernel_rfl) (fun _ _ _ h => h) (Or.inl ⟨by rfl, ?y43⟩) hS ?r43; (case y43 => (intro W hW; (go_simp); (try with_reducible rfl); done)); try simp only [Act.put, List.setIfInBounds_toArray, List.set_cons_zero, List.set_cons_succ])
        (refine hTake (i := 7) (v := ?v44) rfl (by kernel_rfl) (by kernel_rfl) (by kernel_rfl) (fun _ _ _ h => h) (Or.inl ⟨by rfl, ?y44⟩) hS ?r44; (case y44 => (intro W hW; (go_simp); (try with_reducible rfl); done)); try simp only [Act.put, List.setIfInBounds_toArray, List.set_cons_zero, List.set_cons_succ])
        (refine hTake (i := 8) (v := ?v45) rfl (by kernel_rfl) (by kernel_rfl) (by kernel_rfl) (fun _ _ _ h => h) (Or.inl ⟨by rfl, ?y45⟩) hS ?r45; (case y45 => (intro W hW; (go_simp); (try with_reducible rfl); done)); try simp only [Act.put, List.setIfInBounds_toArray, List.set_cons_zero, List.set_cons_succ])
        (refine hTake (i := 9) (v := ?v46) rfl (by kernel_rfl) (by kernel_rfl) (by kernel_rfl) (fun _ _ _ h => h) (Or.inl ⟨by rfl, ?y46⟩) hS ?r46; (case y46 => (intro W hW; (go_simp); (try with_reducible rfl); done)); try simp only [Act.put, List.setIfInBounds_toArray, List.set_cons_zero, List.set_cons_succ])
        (refine hTake (i := 10) (v := ?v47) rfl (by kernel_rfl) (by kernel_rfl) (by kernel_rfl) (fun _ _ _ h => h) (Or.inl ⟨by rfl, ?y47⟩) hS ?r47; (case y47 => (intro W hW; ((have g := hW.b1.toStr (P := Try.prog) Try.underlying22 Try.underlying5 9 Try.underlying9; go_simp)); (try with_reducible rfl); done)); try simp only [Act.put, List.setIfInBounds_toArray, List.set_cons_zero, List.set_cons_succ])
        (refine hTake (i := 11) (v := ?v48) rfl (by kernel_rfl) (by kernel_rfl) (by kernel_rfl) (fun _ _ _ h => h) (Or.inl ⟨by rfl, ?y48⟩) hS ?r48; (case y48 => (intro W hW; (go_simp); (try with_reducible rfl); done)); try simp only [Act.put, List.setIfInBounds_toArray, List.set_cons_zero, List.set_cons_succ])
        (refine hTake (i := 12) (v := ?v49) rfl (by kernel_rfl) (by kernel_rfl) (by kernel_rfl) (fun _ _ _ h => h) (Or.inl ⟨by rfl, ?y49⟩) hS ?r49; (case y49 => (intro W hW; ((have g := hW.b2.toStr (P := Try.prog) Try.underlying22 Try.underlying5 9 Try.underlying9; go_simp)); (try with_reducible rfl); done)); try simp only [Act.put, List.setIfInBounds_toArray, List.set_cons_zero, List.set_cons_succ])
        (refine hTake (i := 13) (v := ?v50) rfl (by kernel_rfl) (by kernel_rfl) (by kernel_rfl) (fun _ _ _ h => h) (Or.inl ⟨by rfl, ?y50⟩) hS ?r50; (case y50 => (intro W hW; (go_simp); (try with_reducible rfl); done)); try simp only [Act.put, List.setIfInBounds_toArray, List.set_cons_zero, List.set_cons_succ])
        (refine hTake (i := 14) rfl (by kernel_rfl) (by kernel_rfl) (by kernel_rfl) (fun _ _ _ h => h) (yieldsIf_load_mid (by rfl) _ _ rfl _ _ rfl cs _ (fun W hW => (by exact hW.v1.range)) Try.underlying29 rfl (by rw [hcl.out]; exact info_node)) hS ?_; try simp only [Act.put, List.setIfInBounds_toArray, List.set_cons_zero, List.set_cons_succ])
        (refine hTake (i := 15) rfl (by kernel_rfl) (by kernel_rfl) (by kernel_rfl) (fun _ _ _ h => h) (yieldsIf_load_mid (by rfl) _ _ rfl _ _ rfl cs' _ (fun W hW => (by exact (hit.out _ hW.v2).2)) Try.underlying29 rfl (by rw [hcl'.out]; exact info_node)) hS ?_; try simp only [Act.put, List.setIfInBounds_toArray, List.set_cons_zero, List.set_cons_succ])
        (refine hOne (i := 16) rfl (by kernel_rfl) (fun K hK => ?_))
        rw [if_pos (by rfl)]
        go_simp
        refine (hSm.out _ hI4.v1 hI4.v2 false ⟨fun h => (Bool.noConfusion h), fun h => absurd h hB.out⟩).mono ?_
        rintro e w5 ⟨rfl, hb5⟩
        have hI5 := hI4.step hb5
        clear hb5 hI4
        (refine hK.out _ _ (by exact hI5) (fun hS => ?_); clear hK K; try simp only [Act.put, List.setIfInBounds_toArray, List.set_cons_zero, List.set_cons_succ])
        (refine hTake (i := 17) (v := ?v51) rfl (by kernel_rfl) (by kernel_rfl) (by kernel_rfl) (fun _ _ _ h => h) (Or.inl ⟨by rfl, ?y51⟩) hS ?r51; (case y51 => (intro W hW; (go_simp); (try with_reducible rfl); done)); try simp only [Act.put, List.setIfInBounds_toArray, List.set_cons_zero, List.set_cons_succ])
        (refine hTake (i := 18) (v := ?v52) rfl (by kernel_rfl) (by kernel_rfl) (by kernel_rfl) (fun _ _ _ h => h) (Or.inl ⟨by rfl, ?y52⟩) hS ?r52; (case y52 => (intro W hW; (go_simp); (try with_reducible rfl); done)); try simp only [Act.put, List.setIfInBounds_toArray, List.set_cons_zero, List.set_cons_succ])
        (refine hTake (i := 19) (v := ?v53) rfl (by kernel_rfl) (by kernel_rfl) (by kernel_rfl) (fun _ _ _ h => h) (Or.inl ⟨by rfl, ?y53⟩) hS ?r53; (case y53 => (intro W hW; (go_simp); (try with_reducible rfl); done)); try simp only [Act.put, List.setIfInBounds_toArray, List.set_cons_zero, List.set_cons_succ])
        (refine hTake (i := 20) (v := ?v54) rfl (by kernel_rfl) (by kernel_rfl) (by kernel_rfl) (fun _ _ _ h => h) (Or.inl ⟨by rfl, ?y54⟩) hS ?r54; (case y54 => (intro W hW; (go_simp); (try with_reducible rfl); done)); try simp only [Act.put, List.setIfInBounds_toArray, List.set_cons_zero, List.set_cons_succ])
        refine wpAnyH_done (by kernel_rfl) ?_ _
        have hbel := Lib.hid hI5.v1.bel
        clear hI5
        go_wp2_with fail
        go_ret
        exact ⟨ret_bool (by simp [hL.out]), hbel.out⟩
end Go.Proofs.YtahaaeenbahknaaRRRR
