/-
  The laws of chapter 18 that take a receipt: ReceiptEncodes, ReceiptBack; a receipt that is handed in.
-/
import Derived.Test.YtcpnfllekpekgaaLaw18a
import Derived.Lib.SmallJoins
namespace Go.Proofs.Ytcpnfllekpekgaa
open Go.RowKit

theorem wf_u64 {n : Int} (h : (Lit.int .u64 n).wf = true) : 0 ≤ n ∧ n < 18446744073709551616 := by
  have h1 : 0 ≤ n ∧ n ≤ 18446744073709551615 := by simpa [Lit.wf, IntKind.min, IntKind.max, IntKind.signed, IntKind.bits] using h
  omega
theorem Blk.range4 {w : World} {g : Nat} {t : TypeId} {a b c d : Value} (h : Blk w g t #[a, b, c, d]) : w.rangeAt g 0 [a, b, c, d] := fun j u hu => by
  rw [Nat.zero_add, h.cell j, ← Array.getElem?_toList]; exact hu
/-- both encoders answer alike -/
theorem both_encode (x : Rc) (hx : x.Real) : ∃ (L : List UInt8) (k : Int), (∀ w, Calls Try.prog 7 #[x.val] w (PostBe w L k)) ∧ (∀ w, Calls Try.prog 8 #[x.val] w (PostBe w L k)) := by
  by_cases h : x.right = true
  · refine ⟨x.bytes, 0, fun w => ?_, fun w => ?_⟩
    · have := receipt_Encode x hx w
      rwa [if_pos h] at this
    · have := ref_Encode x hx w
      rwa [if_pos h] at this
  · refine ⟨[], 180, fun w => ?_, fun w => ?_⟩
    · have := receipt_Encode x hx w
      rwa [if_neg h] at this
    · have := ref_Encode x hx w
      rwa [if_neg h] at this
set_option maxHeartbeats 1000000 in
set_option maxRecDepth 100000 in
theorem law_ReceiptEncodes (x : Rc) (hx : x.Real) (w : World) : Calls Try.prog 3 #[x.val] w (PostT w) := by
  obtain ⟨L, k, hE1, hE2⟩ := both_encode x hx
  have hR1 := receipt_Right x
  have hR2 := ref_Right x
  obtain ⟨s, g, r, m⟩ := x
  unfold Rc.val at *
  generalize (Rc.mk s g r m).right = b at hR1 hR2
  have hb := Blk.new w 24 #[.int .i64 s, .int .u64 g, .int .u64 r, .int .u64 m]
  have hbe := (Below.refl w.heap.size w).alloc (Nat.le_refl _) (.cells #[.int .i64 s, .int .u64 g, .int .u64 r, .int .u64 m] 24)
  have hl := hb.lt
  replace hE1 := Lib.hid hE1
  replace hE2 := Lib.hid hE2
  replace hR1 := Lib.hid hR1
  replace hR2 := Lib.hid hR2
  replace hbe := Lib.hid hbe
  clear hx
  go_enter Try.func3, Try.ntmps3
  go_wp2_with (refine wpList_load_row rfl 24 _ rfl w.heap.size rfl _ _ _ _ hb Try.underlying24 rfl info_receipt ?_)
  refine (hE1.out _).mono ?_
  rintro e w1 ⟨A1, n1, c1, rfl, hN1⟩
  have hb1 := hb.below hN1.2.2 hl
  have hl1 := hb1.lt
  have hbe1 := hbe.out.trans (hN1.2.2.mono hbe.out.size)
  have hby1 := hN1.bytes
  clear hb hN1 hE1
  replace hbe1 := Lib.hid hbe1
  replace hby1 := Lib.hid hby1
  go_wp2_with (refine wpList_load_row rfl 24 _ rfl w.heap.size rfl _ _ _ _ hb1 Try.underlying24 rfl info_receipt ?_)
  refine (hE2.out _).mono ?_
  rintro e w2 ⟨A2, n2, c2, rfl, hN2⟩
  have hb2 := hb1.below hN2.2.2 hl1
  have hl2 := hb2.lt
  have hbe2 := hbe1.out.trans (hN2.2.2.mono hbe1.out.size)
  have hby2 := hN2.bytes
  have hby1b := hby1.out.step hN2.2.2
  clear hb1 hN2 hE2 hby1 hbe1
  replace hbe2 := Lib.hid hbe2
  replace hby1b := Lib.hid hby1b
  replace hby2 := Lib.hid hby2
  go_wp2_with fail
  refine wp_region_held_drew (S := (fun W => W.rangeAt w.heap.size 0 [.int .i64 s, .int .u64 g, .int .u64 r, .int .u64 m])) (by kernel_rfl) (by exact hb2.drew.range4) (fun hS => ?_)
  (refine hOne (i := 0) rfl (by kernel_rfl) (fun K hK => ?_))
  go_simp
  refine (law_alive _).mono ?_
  rintro e w3 ⟨rfl, hbe3⟩
  have hb3 := hb2.drew.below hbe3 hl2
  (refine hK.out _ _ (by exact hb3.range4) (fun hS => ?_); clear hK K; try simp only [Act.put, List.setIfInBounds_toArray, List.set_cons_zero, List.set_cons_succ])
  (refine hTake (i := 1) (v := ?v1) rfl (by kernel_rfl) (by kernel_rfl) (by kernel_rfl) (fun _ _ _ h => h) (Or.inl ⟨by rfl, ?y1⟩) hS ?r1; (case y1 => (intro W hW; (go_simp); (try with_reducible rfl); done)); try simp only [Act.put, List.setIfInBounds_toArray, List.set_cons_zero, List.set_cons_succ])
  (refine hTake (i := 2) (v := ?v2) rfl (by kernel_rfl) (by kernel_rfl) (by kernel_rfl) (fun _ _ _ h => h) (Or.inl ⟨by rfl, ?y2⟩) hS ?r2; (case y2 => (intro W hW; (go_simp); (try with_reducible rfl); done)); try simp only [Act.put, List.setIfInBounds_toArray, List.set_cons_zero, List.set_cons_succ])
  (refine hTake (i := 3) (v := ?v3) rfl (by kernel_rfl) (by kernel_rfl) (by kernel_rfl) (fun _ _ _ h => h) (Or.inl ⟨by rfl, ?y3⟩) hS ?r3; (case y3 => (intro W hW; (go_simp); (try with_reducible rfl); done)); try simp only [Act.put, List.setIfInBounds_toArray, List.set_cons_zero, List.set_cons_succ])
  (refine hOne (i := 4) rfl (by kernel_rfl) (fun K hK => ?_))
  go_simp
  refine (law_same L L A1 A2 n1 n2 c1 c2 _ _ w3 (hby1b.out.drew.below hbe3) (hby2.out.drew.below hbe3)).mono ?_
  rw [decide_eq_true (rfl : L = L)]
  rintro e w4 ⟨rfl, rfl⟩
  (refine hK.out _ _ (by exact hb3.range4) (fun hS => ?_); clear hK K; try simp only [Act.put, List.setIfInBounds_toArray, List.set_cons_zero, List.set_cons_succ])
  (refine hTake (i := 5) (v := ?v4) rfl (by kernel_rfl) (by kernel_rfl) (by kernel_rfl) (fun _ _ _ h => h) (Or.inl ⟨by rfl, ?y4⟩) hS ?r4; (case y4 => (intro W hW; (go_simp); (try with_reducible rfl); done)); try simp only [Act.put, List.setIfInBounds_toArray, List.set_cons_zero, List.set_cons_succ])
  (refine hTake (i := 6) (v := ?v5) rfl (by kernel_rfl) (by kernel_rfl) (by kernel_rfl) (fun _ _ _ h => h) (Or.inl ⟨by rfl, ?y5⟩) hS ?r5; (case y5 => (intro W hW; (go_simp); (try with_reducible rfl); done)); try simp only [Act.put, List.setIfInBounds_toArray, List.set_cons_zero, List.set_cons_succ])
  (refine hTake (i := 7) (v := ?v6) rfl (by kernel_rfl) (by kernel_rfl) (by kernel_rfl) (fun _ _ _ h => h) (Or.inl ⟨by rfl, ?y6⟩) hS ?r6; (case y6 => (intro W hW; (go_simp); (try with_reducible rfl); done)); try simp only [Act.put, List.setIfInBounds_toArray, List.set_cons_zero, List.set_cons_succ])
  (refine hTake (i := 8) (v := ?v7) rfl (by kernel_rfl) (by kernel_rfl) (by kernel_rfl) (fun _ _ _ h => h) (Or.inl ⟨by rfl, ?y7⟩) hS ?r7; (case y7 => (intro W hW; (go_simp); (try with_reducible rfl); done)); try simp only [Act.put, List.setIfInBounds_toArray, List.set_cons_zero, List.set_cons_succ])
  (refine hTake (i := 9) (v := ?v8) rfl (by kernel_rfl) (by kernel_rfl) (by kernel_rfl) (fun _ _ _ h => h) (Or.inl ⟨by rfl, ?y8⟩) hS ?r8; (case y8 => (intro W hW; (go_simp); (try with_reducible rfl); done)); try simp only [Act.put, List.setIfInBounds_toArray, List.set_cons_zero, List.set_cons_succ])
  (refine hTake (i := 10) (v := ?v9) rfl (by kernel_rfl) (by kernel_rfl) (by kernel_rfl) (fun _ _ _ h => h) (Or.inl ⟨by rfl, ?y9⟩) hS ?r9; (case y9 => (intro W hW; (go_simp); (try with_reducible rfl); done)); try simp only [Act.put, List.setIfInBounds_toArray, List.set_cons_zero, List.set_cons_succ])
  (refine hTake (i := 11) (v := ?v10) rfl (by kernel_rfl) (by kernel_rfl) (by kernel_rfl) (fun _ _ _ h => h) (Or.inl ⟨by rfl, ?y10⟩) hS ?r10; (case y10 => (intro W hW; (go_simp); (try with_reducible rfl); done)); try simp only [Act.put, List.setIfInBounds_toArray, List.set_cons_zero, List.set_cons_succ])
  (refine hTake (i := 12) rfl (by kernel_rfl) (by kernel_rfl) (by kernel_rfl) (fun _ _ _ h => h) (yieldsIf_load_mid (by rfl) _ _ rfl _ _ rfl [.int .i64 s, .int .u64 g, .int .u64 r, .int .u64 m] _ (fun W hW => hW) Try.underlying24 rfl info_receipt) hS ?_; try simp only [Act.put, List.setIfInBounds_toArray, List.set_cons_zero, List.set_cons_succ])
  (refine hTake (i := 14) rfl (by kernel_rfl) (by kernel_rfl) (by kernel_rfl) (fun _ _ _ h => h) (yieldsIf_load_mid (by rfl) _ _ rfl _ _ rfl [.int .i64 s, .int .u64 g, .int .u64 r, .int .u64 m] _ (fun W hW => hW) Try.underlying24 rfl info_receipt) hS ?_; try simp only [Act.put, List.setIfInBounds_toArray, List.set_cons_zero, List.set_cons_succ])
  (refine hOne (i := 13) rfl (by kernel_rfl) (fun K hK => ?_))
  go_simp
  refine (hR1.out _).mono ?_
  rintro e w5 ⟨rfl, hbe5⟩
  have hb5 := hb3.below hbe5 hb3.lt
  (refine hK.out _ _ (by exact hb5.range4) (fun hS => ?_); clear hK K; try simp only [Act.put, List.setIfInBounds_toArray, List.set_cons_zero, List.set_cons_succ])
  (refine hOne (i := 15) rfl (by kernel_rfl) (fun K hK => ?_))
  go_simp
  refine (hR2.out _).mono ?_
  rintro e w6 ⟨rfl, hbe6⟩
  have hb6 := hb5.below hbe6 hb5.lt
  (refine hK.out _ _ (by exact hb6.range4) (fun hS => ?_); clear hK K; try simp only [Act.put, List.setIfInBounds_toArray, List.set_cons_zero, List.set_cons_succ])
  (refine hTake (i := 16) (v := ?v11) rfl (by kernel_rfl) (by kernel_rfl) (by kernel_rfl) (fun _ _ _ h => h) (Or.inl ⟨by rfl, ?y11⟩) hS ?r11; (case y11 => (intro W hW; (go_simp); (try with_reducible rfl); done)); try simp only [Act.put, List.setIfInBounds_toArray, List.set_cons_zero, List.set_cons_succ])
  (refine hTake (i := 17) (v := ?v12) rfl (by kernel_rfl) (by kernel_rfl) (by kernel_rfl) (fun _ _ _ h => h) (Or.inl ⟨by rfl, ?y12⟩) hS ?r12; (case y12 => (intro W hW; (go_simp); (try with_reducible rfl); done)); try simp only [Act.put, List.setIfInBounds_toArray, List.set_cons_zero, List.set_cons_succ])
  (refine hTake (i := 18) (v := ?v13) rfl (by kernel_rfl) (by kernel_rfl) (by kernel_rfl) (fun _ _ _ h => h) (Or.inl ⟨by rfl, ?y13⟩) hS ?r13; (case y13 => (intro W hW; (go_simp); (try with_reducible rfl); done)); try simp only [Act.put, List.setIfInBounds_toArray, List.set_cons_zero, List.set_cons_succ])
  refine wpAnyH_done (by kernel_rfl) ?_ _
  have h3 : Below w.heap.size w w3 := hbe2.out.trans ((show Below w2.heap.size w2 w3 from ⟨hbe3.os, hbe3.tape, hbe3.output, hbe3.size, hbe3.block⟩).mono hbe2.out.size)
  have h5 := h3.trans (hbe5.mono h3.size)
  have h6 := Lib.hid (h5.trans (hbe6.mono h5.size))
  clear hbe3 hb3 hbe5 hb5 hbe6 hb6 h3 h5 hb2
  go_wp2_with fail
  go_ret
  exact ⟨ret_bool (by simp), h6.out⟩
set_option maxHeartbeats 1000000 in
set_option maxRecDepth 100000 in
theorem law_ReceiptBack (x : Rc) (hx : x.Real) (w : World) : Calls Try.prog 5 #[x.val] w (PostT w) := by
  have hE := receipt_Encode x hx
  have hR := receipt_Right x
  cases hr : x.right with
  | false =>
    have hE2 : ∀ w', Calls Try.prog 7 #[x.val] w' (PostBe w' [] 180) := by
      intro w'
      have := hE w'
      rwa [if_neg (by rw [hr]; simp)] at this
    rw [hr] at hR
    clear hE hr hx
    obtain ⟨s, g, r, m⟩ := x
    unfold Rc.val at *
    have hb := Blk.new w 24 #[.int .i64 s, .int .u64 g, .int .u64 r, .int .u64 m]
    have hbe := (Below.refl w.heap.size w).alloc (Nat.le_refl _) (.cells #[.int .i64 s, .int .u64 g, .int .u64 r, .int .u64 m] 24)
    have hl := hb.lt
    replace hE2 := Lib.hid hE2
    replace hR := Lib.hid hR
    replace hbe := Lib.hid hbe
    go_enter Try.func5, Try.ntmps5
    go_wp2_with (refine wpList_load_row rfl 24 _ rfl w.heap.size rfl _ _ _ _ hb Try.underlying24 rfl info_receipt ?_)
    refine (hE2.out _).mono ?_
    rintro e w1 ⟨A1, n1, c1, rfl, hN1⟩
    have hb1 := hb.below hN1.2.2 hl
    have hl1 := hb1.lt
    have hbe1 := hbe.out.trans (hN1.2.2.mono hbe.out.size)
    have hn1 : n1 = 0 := hN1.1
    subst hn1
    clear hb hN1 hE2
    replace hbe1 := Lib.hid hbe1
    go_wp2_with (refine wpList_load_row rfl 24 _ rfl w.heap.size rfl _ _ _ _ hb1 Try.underlying24 rfl info_receipt ?_)
    refine (hR.out _).mono ?_
    rintro e w2 ⟨rfl, hb2⟩
    have hbe2 := hbe1.out.trans (hb2.mono hbe1.out.size)
    clear hb1 hR hbe1 hb2
    replace hbe2 := Lib.hid hbe2
    go_wp2_with fail
    refine (law_alive _).mono ?_
    rintro e w3 ⟨rfl, hb3⟩
    have hbe3 := Lib.hid (hbe2.out.trans (hb3.mono hbe2.out.size))
    clear hb3 hbe2
    go_wp2_with fail
    go_ret
    exact ⟨ret_bool (by simp), hbe3.out⟩
  | true =>
    have hE2 : ∀ w', Calls Try.prog 7 #[x.val] w' (PostBe w' x.bytes 0) := by
      intro w'
      have := hE w'
      rwa [if_pos hr] at this
    have hdec := Rc.dec_bytes x hx hr
    rw [hr] at hR
    have hD : ∀ (A : Option Addr) (n c : Nat) (w' : World), Bytes w' w'.heap.size A n c x.bytes → Calls Try.prog 13 #[.slice A n c] w' fun e w'' => e = .returned (.tuple #[.agg x.row, .int .i64 0]) ∧ Below w'.heap.size w' w'' := by
      intro A n c w' h
      have := receipt_Decode A n c x.bytes w' h
      rw [hdec] at this
      exact this
    clear hE hr hx hdec
    generalize x.bytes = L at *
    obtain ⟨s, g, r, m⟩ := x
    unfold Rc.val Rc.row at *
    simp only at *
    have hb := Blk.new w 24 #[.int .i64 s, .int .u64 g, .int .u64 r, .int .u64 m]
    have hbe := (Below.refl w.heap.size w).alloc (Nat.le_refl _) (.cells #[.int .i64 s, .int .u64 g, .int .u64 r, .int .u64 m] 24)
    have hl := hb.lt
    replace hE2 := Lib.hid hE2
    replace hR := Lib.hid hR
    replace hD := Lib.hid hD
    replace hbe := Lib.hid hbe
    go_enter Try.func5, Try.ntmps5
    go_wp2_with (refine wpList_load_row rfl 24 _ rfl w.heap.size rfl _ _ _ _ hb Try.underlying24 rfl info_receipt ?_)
    refine (hE2.out _).mono ?_
    rintro e w1 ⟨A1, n1, c1, rfl, hN1⟩
    have hb1 := hb.below hN1.2.2 hl
    have hl1 := hb1.lt
    have hbe1 := hbe.out.trans (hN1.2.2.mono hbe.out.size)
    have hby1 := hN1.bytes
    clear hb hN1 hE2
    replace hbe1 := Lib.hid hbe1
    replace hby1 := Lib.hid hby1
    go_wp2_with (refine wpList_load_row rfl 24 _ rfl w.heap.size rfl _ _ _ _ hb1 Try.underlying24 rfl info_receipt ?_)
    refine (hR.out _).mono ?_
    rintro e w2 ⟨rfl, hb2⟩
    have hbe2 := hbe1.out.trans (hb2.mono hbe1.out.size)
    have hX2 := hb1.below hb2 hl1
    have hby2 := hby1.out.step hb2
    have hDc := hD.out A1 n1 c1 w2 hby2
    clear hb1 hR hbe1 hb2 hby1 hby2 hD
    replace hbe2 := Lib.hid hbe2
    replace hX2 := Lib.hid hX2
    go_wp2_with fail
    refine hDc.mono ?_
    rintro e w3 ⟨rfl, hb3⟩
    have hX3 := hX2.out.below hb3 hX2.out.lt
    have hbe3 := hbe2.out.trans (hb3.mono hbe2.out.size)
    have hst := gas_stored (wr := w3) #[.int .i64 s, .int .u64 g, .int .u64 r, .int .u64 m]
    have hl3 := hX3.lt
    clear hDc hb3 hX2 hbe2
    replace hst := Lib.hid hst
    replace hX3 := Lib.hid hX3
    replace hbe3 := Lib.hid hbe3
    go_wp2_with (first
      | (refine wpList_store_row rfl 24 _ _ rfl w3.heap.size #[.int .i64 s, .int .u64 g, .int .u64 r, .int .u64 m] rfl rfl _ _ (Blk.new w3 24 rcZ) info_receipt rfl (by simp [Value.oneCell']) ?_; refine list_at (GasI w3 _) hst.out ?_; intro w4 hI4; replace hI4 := Lib.hid hI4)
      | fail)
    refine (law_alive w4).mono ?_
    rintro e w5 ⟨rfl, hb5⟩
    have hX5 := (hX3.out.below hI4.out.bel hl3).below hb5 (by have := hI4.out.bel.size; omega)
    have hY5 := hI4.out.it.below hb5 hI4.out.it.lt
    have hbe5 := (hbe3.out.trans (hI4.out.bel.mono hbe3.out.size)).trans (hb5.mono (Nat.le_trans hbe3.out.size hI4.out.bel.size))
    clear hb5 hI4 hst hX3 hbe3
    have c0 : w5.cell? ⟨w.heap.size, 0, none⟩ = some (.int .i64 s) := hX5.cell 0
    have c1 : w5.cell? ⟨w.heap.size, 1, none⟩ = some (.int .u64 g) := hX5.cell 1
    have c2 : w5.cell? ⟨w.heap.size, 2, none⟩ = some (.int .u64 r) := hX5.cell 2
    have c3 : w5.cell? ⟨w.heap.size, 3, none⟩ = some (.int .u64 m) := hX5.cell 3
    have d0 : w5.cell? ⟨w3.heap.size, 0, none⟩ = some (.int .i64 s) := hY5.cell 0
    have d1 : w5.cell? ⟨w3.heap.size, 1, none⟩ = some (.int .u64 g) := hY5.cell 1
    have d2 : w5.cell? ⟨w3.heap.size, 2, none⟩ = some (.int .u64 r) := hY5.cell 2
    have d3 : w5.cell? ⟨w3.heap.size, 3, none⟩ = some (.int .u64 m) := hY5.cell 3
    replace hX5 := Lib.hid hX5
    replace hY5 := Lib.hid hY5
    replace hbe5 := Lib.hid hbe5
    go_wp2_with fail
    go_ret
    exact ⟨ret_bool (by simp), hbe5.out⟩
/-- a receipt that is handed in -/
theorem open_receipt {H : Type} {enc : TypeId × Value → H} {W : World} {base : Nat} {sp : Nat → Bool} {hd : Bool} {v : Value} {d : DataW H} {p : List MemPlace} (hv : Value.okWide Try.prog W .any base 24 v) (h : DataW.Trod enc Try.prog W 0 sp hd 24 v d p) :
    ∃ x : Rc, v = x.val ∧ x.Real := by
  obtain ⟨c0, c1, c2, c3, y0, y1, y2, y3, m, rfl, rfl, rfl, h0, h1, h2, h3⟩ := Joins.open_agg4 Try.underlying24 (by kernel_rfl) (by kernel_rfl) hv h
  obtain ⟨a, e0, rfl, wa⟩ := DataW.trod_int Try.underlying3 h0
  obtain ⟨b, e1, rfl, wb⟩ := DataW.trod_int Try.underlying22 h1
  obtain ⟨c, e2, rfl, wc⟩ := DataW.trod_int Try.underlying22 h2
  obtain ⟨d, e3, rfl, wd⟩ := DataW.trod_int Try.underlying22 h3
  simp at e0 e1 e2 e3
  subst e0 e1 e2 e3
  have hb : 0 ≤ b ∧ b < 18446744073709551616 := wf_u64 wb
  have hc : 0 ≤ c ∧ c < 18446744073709551616 := wf_u64 wc
  have hd' : 0 ≤ d ∧ d < 18446744073709551616 := wf_u64 wd
  refine ⟨⟨a, b.toNat, c.toNat, d.toNat⟩, ?_, ⟨by show b.toNat < _; omega, by show c.toNat < _; omega, by show d.toNat < _; omega⟩⟩
  unfold Rc.val
  simp only
  rw [Int.toNat_of_nonneg hb.1, Int.toNat_of_nonneg hc.1, Int.toNat_of_nonneg hd'.1]
end Go.Proofs.Ytcpnfllekpekgaa
