/-
  The reference of chapter 18: word, Encode.
-/
import Derived.Test.YtcpnfllekpekgaaRf8
import Derived.Test.YtcpnfllekpekgaaReg
namespace Go.Proofs.Ytcpnfllekpekgaa
open Go.RowKit

set_option maxHeartbeats 1000000 in
theorem ref_word (n : Nat) (w : World) (hn : n < 18446744073709551616) : Calls Try.prog 18 #[.int .u64 n] w (TextQ (Wd.be 8 n) w) := by
  have hb0 : Blk (w.alloc (.cells rowZ 38)) w.heap.size 38 rowZ := Blk.new w _ _
  have hf := ref_WBytes n (w.alloc (.cells rowZ 38)) hn
  have hbe : Below w.heap.size w (w.alloc (.cells rowZ 38)) := (Below.refl _ _).alloc (Nat.le_refl _) _
  have hs0 : (w.alloc (.cells rowZ 38)).heap.size = w.heap.size + 1 := by simp
  go_enter Try.func18, Try.ntmps18
  go_wp2_with fail
  refine hf.mono ?_
  rintro e w1 ⟨A1, m1, c1, rfl, hm, hown, hbel⟩
  have hb1 := hb0.below hbel (by omega)
  have hs1 := hbel.size
  clear hf hb0
  replace hm := Lib.hid hm
  go_wp2_with (refine wpList_store_row rfl 38 _ _ rfl w.heap.size #[.bool false, .slice A1 m1 c1, .slice none 0 0] rfl rfl _ _ hb1 info_item3 rfl (by simp [Value.oneCell']) ?_)
  refine bodyPost_ret (v := txV A1 m1 c1) (results_cell_row rfl _ _ w.heap.size _ #[.bool false, .slice A1 m1 c1, .slice none 0 0] _ _ rfl (hb1.row _) Try.underlying38 rfl info_item3) rfl ?_
  refine ⟨_, _, _, rfl, hm.out, ?_, below_row (hbe.trans (hbel.mono (by omega))) (Nat.le_refl _) _⟩
  obtain ⟨h1, h2⟩ := hown
  refine ⟨h1, ?_⟩
  rcases h2 with h2 | ⟨g, cap, cur, hv, hg, hh, r⟩
  · exact .inl h2
  · exact .inr ⟨g, cap, cur, hv, by omega, (setRow_other w1 _ g _ (by omega)).trans hh, r⟩
/-- a text's row over new bytes -/
theorem sits_new {w0 w w' : World} {A : Option Addr} {m c : Nat} {l : List UInt8} {d : Nat} (h : NewB w w' A m c l) (hs : w0.heap.size ≤ w.heap.size) : Sits (fun q => w0.heap.size ≤ q) w' (d + 1) (txV A m c) (Ns.tx l) := by
  have hO := Own.of_row h.2.1
  exact ⟨A, m, c, rfl, h.1, hO.cap, hO.lim, (InS.of_own hO).move (fun q h1 h2 => ⟨by omega, rfl⟩) (Nat.le_refl _)⟩
/-- four texts in a row -/
def tx4 (A1 A2 A3 A4 : Option Addr) (m1 m2 m3 m4 c1 c2 c3 c4 : Nat) : Array Value := #[.bool false, .slice A1 m1 c1, .slice none 0 0, .bool false, .slice A2 m2 c2, .slice none 0 0, .bool false, .slice A3 m3 c3, .slice none 0 0, .bool false, .slice A4 m4 c4, .slice none 0 0]
/-- the list of four texts, in a new row -/
theorem sits_four {S : Nat → Prop} {wa0 wa1 wa2 wa3 : World} {A0 A1 A2 A3 : Option Addr} {m0 m1 m2 m3 c0 c1 c2 c3 : Nat} {ns : List Nat} {k g r m : Nat} (hns : ns = [k, g, r, m]) {cs : Array Value} (hb1 : Below wa0.heap.size wa0 wa1) (hb2 : Below wa1.heap.size wa1 wa2) (hb3 : Below wa2.heap.size wa2 wa3)
    (hcs : cs = tx4 A0 A1 A2 A3 m0 m1 m2 m3 c0 c1 c2 c3) (hv0 : Sits S wa0 8 (txV A0 m0 c0) (Ns.tx (Wd.be 8 k))) (hv1 : Sits S wa1 8 (txV A1 m1 c1) (Ns.tx (Wd.be 8 g))) (hv2 : Sits S wa2 8 (txV A2 m2 c2) (Ns.tx (Wd.be 8 r))) (hv3 : Sits S wa3 8 (txV A3 m3 c3) (Ns.tx (Wd.be 8 m))) :
    Sits (fun q => q < wa3.heap.size + 1) (wa3.alloc (.cells cs 38)) 9 (lsV (some ⟨wa3.heap.size, 0, none⟩) 4 4) (.inr (wordsI ns)) := by
  subst hns; subst hcs
  have hs1 := hb1.size
  have hs2 := hb2.size
  have hs3 := hb3.size
  have hb4 : Below wa3.heap.size wa3 (wa3.alloc (.cells (tx4 A0 A1 A2 A3 m0 m1 m2 m3 c0 c1 c2 c3) 38)) := (Below.refl _ _).alloc (Nat.le_refl _) _
  have e3 := hb4
  have e2 := hb3.trans (e3.mono hs3)
  have e1 := hb2.trans (e2.mono hs2)
  have e0 := hb1.trans (e1.mono hs1)
  have hsz : (wa3.alloc (.cells (tx4 A0 A1 A2 A3 m0 m1 m2 m3 c0 c1 c2 c3) 38)).heap.size = wa3.heap.size + 1 := by simp
  refine ⟨_, 4, 4, [txV A0 m0 c0, txV A1 m1 c1, txV A2 m2 c2, txV A3 m3 c3], rfl, rfl, Nat.le_refl _, by unfold maxLen; omega, ⟨rfl, fun _ => ⟨_, 0, rfl, by omega, by omega, fun j u hu => ?_⟩⟩, rfl, fun i x hx => ?_⟩
  · rw [Nat.zero_add, cell_of_row _ _ j _ 38 (0, 0) (heap_alloc_new wa3 _), ← Array.getElem?_toList]
    exact hu
  · have hi : i < 4 := (List.getElem?_eq_some_iff.1 hx).1
    match i, hi with
    | 0, _ => cases hx; exact ⟨_, rfl, hv0.move _ _ _ (fun q _ h2 => ⟨by omega, e0.block q h2⟩) e0.size⟩
    | 1, _ => cases hx; exact ⟨_, rfl, hv1.move _ _ _ (fun q _ h2 => ⟨by omega, e1.block q h2⟩) e1.size⟩
    | 2, _ => cases hx; exact ⟨_, rfl, hv2.move _ _ _ (fun q _ h2 => ⟨by omega, e2.block q h2⟩) e2.size⟩
    | 3, _ => cases hx; exact ⟨_, rfl, hv3.move _ _ _ (fun q _ h2 => ⟨by omega, e3.block q h2⟩) e3.size⟩
set_option maxHeartbeats 2000000 in
set_option maxRecDepth 100000 in
theorem ref_Encode (x : Rc) (hx : x.Real) (w : World) : Calls Try.prog 8 #[x.val] w (if x.right = true then PostBe w x.bytes 0 else PostBe w [] 180) := by
  by_cases hr : x.right = true
  · rw [if_pos hr]
    obtain ⟨h0, h9⟩ := Rc.right_s hr
    obtain ⟨s, g, r, m⟩ := x
    obtain ⟨k, rfl⟩ : ∃ k : Nat, s = k := ⟨s.toNat, by simp only at h0; omega⟩
    obtain ⟨hg, hrr, hm⟩ := hx
    simp only at h9 hg hrr hm
    have hR := ref_Right ⟨k, g, r, m⟩ (w.alloc (.cells #[.int .i64 k, .int .u64 g, .int .u64 r, .int .u64 m] 24))
    rw [hr] at hR
    have hb := Blk.new w 24 #[.int .i64 k, .int .u64 g, .int .u64 r, .int .u64 m]
    have hs1 : (w.alloc (.cells #[.int .i64 k, .int .u64 g, .int .u64 r, .int .u64 m] 24)).heap.size = w.heap.size + 1 := by simp
    have hbe := (Below.refl w.heap.size w).alloc (Nat.le_refl _) (.cells #[.int .i64 k, .int .u64 g, .int .u64 r, .int .u64 m] 24)
    have hkw : IntKind.u64.wrap (k : Int) = k := by rw [IntKind.wrap_u64]; omega
    unfold Rc.val at *
    replace hs1 := Lib.hid hs1
    replace hbe := Lib.hid hbe
    go_enter Try.func8, Try.ntmps8
    go_wp2_with (refine wpList_load_row rfl 24 _ rfl w.heap.size rfl _ _ _ _ hb Try.underlying24 rfl info_receipt ?_)
    refine hR.mono ?_
    rintro e w1 ⟨rfl, hbe1⟩
    have hb1 := hb.below hbe1 (by have := hs1.out; omega)
    have hb1l := hb1.lt
    have hs1' := hs1.out
    have hbe2 := hbe.out.trans (hbe1.mono (by omega))
    clear hR hb hbe1
    replace hbe2 := Lib.hid hbe2
    go_wp2_with fail
    have hSof : ∀ W, Blk W w.heap.size 24 #[.int .i64 k, .int .u64 g, .int .u64 r, .int .u64 m] → (W.cell? ⟨w.heap.size, 0, none⟩ = some (.int .i64 k) ∧ W.cell? ⟨w.heap.size, 1, none⟩ = some (.int .u64 g) ∧ W.cell? ⟨w.heap.size, 2, none⟩ = some (.int .u64 r) ∧ W.cell? ⟨w.heap.size, 3, none⟩ = some (.int .u64 m)) := fun W h => ⟨h.cell 0, h.cell 1, h.cell 2, h.cell 3⟩
    replace hSof := Lib.hid hSof
    refine wp_region_held_drew (S := (fun W => W.cell? ⟨w.heap.size, 0, none⟩ = some (.int .i64 k) ∧ W.cell? ⟨w.heap.size, 1, none⟩ = some (.int .u64 g) ∧ W.cell? ⟨w.heap.size, 2, none⟩ = some (.int .u64 r) ∧ W.cell? ⟨w.heap.size, 3, none⟩ = some (.int .u64 m))) (by kernel_rfl) (by exact hSof.out _ hb1.drew) (fun hS => ?_)
    (refine hTake (i := 0) (v := ?v1) rfl (by kernel_rfl) (by kernel_rfl) (by kernel_rfl) (fun _ _ _ h => h) (Or.inl ⟨by rfl, ?y1⟩) hS ?r1; (case y1 => (intro W hW; (go_simp); (try with_reducible rfl); done)); try simp only [Act.put, List.setIfInBounds_toArray, List.set_cons_zero, List.set_cons_succ])
    (refine hTake (i := 1) (v := ?v2) rfl (by kernel_rfl) (by kernel_rfl) (by kernel_rfl) (fun _ _ _ h => h) (Or.inl ⟨by rfl, ?y2⟩) hS ?r2; (case y2 => (intro W hW; ((have g := hW.1; go_simp)); (try with_reducible rfl); done)); try simp only [Act.put, List.setIfInBounds_toArray, List.set_cons_zero, List.set_cons_succ])
    (refine hTake (i := 2) (v := ?v3) rfl (by kernel_rfl) (by kernel_rfl) (by kernel_rfl) (fun _ _ _ h => h) (Or.inl ⟨by rfl, ?y3⟩) hS ?r3; (case y3 => (intro W hW; (go_simp); (try with_reducible rfl); done)); try simp only [Act.put, List.setIfInBounds_toArray, List.set_cons_zero, List.set_cons_succ])
    (refine hTake (i := 4) (v := ?v4) rfl (by kernel_rfl) (by kernel_rfl) (by kernel_rfl) (fun _ _ _ h => h) (Or.inl ⟨by rfl, ?y4⟩) hS ?r4; (case y4 => (intro W hW; (go_simp); (try with_reducible rfl); done)); try simp only [Act.put, List.setIfInBounds_toArray, List.set_cons_zero, List.set_cons_succ])
    (refine hTake (i := 5) (v := ?v5) rfl (by kernel_rfl) (by kernel_rfl) (by kernel_rfl) (fun _ _ _ h => h) (Or.inl ⟨by rfl, ?y5⟩) hS ?r5; (case y5 => (intro W hW; ((have g := hW.2.1; go_simp)); (try with_reducible rfl); done)); try simp only [Act.put, List.setIfInBounds_toArray, List.set_cons_zero, List.set_cons_succ])
    (refine hTake (i := 7) (v := ?v6) rfl (by kernel_rfl) (by kernel_rfl) (by kernel_rfl) (fun _ _ _ h => h) (Or.inl ⟨by rfl, ?y6⟩) hS ?r6; (case y6 => (intro W hW; (go_simp); (try with_reducible rfl); done)); try simp only [Act.put, List.setIfInBounds_toArray, List.set_cons_zero, List.set_cons_succ])
    (refine hTake (i := 8) (v := ?v7) rfl (by kernel_rfl) (by kernel_rfl) (by kernel_rfl) (fun _ _ _ h => h) (Or.inl ⟨by rfl, ?y7⟩) hS ?r7; (case y7 => (intro W hW; ((have g := hW.2.2.1; go_simp)); (try with_reducible rfl); done)); try simp only [Act.put, List.setIfInBounds_toArray, List.set_cons_zero, List.set_cons_succ])
    (refine hTake (i := 10) (v := ?v8) rfl (by kernel_rfl) (by kernel_rfl) (by kernel_rfl) (fun _ _ _ h => h) (Or.inl ⟨by rfl, ?y8⟩) hS ?r8; (case y8 => (intro W hW; (go_simp); (try with_reducible rfl); done)); try simp only [Act.put, List.setIfInBounds_toArray, List.set_cons_zero, List.set_cons_succ])
    (refine hTake (i := 11) (v := ?v9) rfl (by kernel_rfl) (by kernel_rfl) (by kernel_rfl) (fun _ _ _ h => h) (Or.inl ⟨by rfl, ?y9⟩) hS ?r9; (case y9 => (intro W hW; ((have g := hW.2.2.2; go_simp)); (try with_reducible rfl); done)); try simp only [Act.put, List.setIfInBounds_toArray, List.set_cons_zero, List.set_cons_succ])
    have hbbz := hb1.drew
    have hblz : w.heap.size < w1.drew.heap.size := hb1l
    (refine hOne (i := 3) rfl (by kernel_rfl) (fun K hK => ?_))
    go_simp
    refine (ref_word k _ (by omega)).mono ?_
    rintro e wa0 ⟨A0, m0, c0, rfl, hN0⟩
    have hbb0 := hbbz.below hN0.2.2 (by omega)
    have hbl0 := hbb0.lt
    unfold txV
    (refine hK.out _ _ (by exact hSof.out _ hbb0) (fun hS => ?_); clear hK K; try simp only [Act.put, List.setIfInBounds_toArray, List.set_cons_zero, List.set_cons_succ])
    (refine hOne (i := 6) rfl (by kernel_rfl) (fun K hK => ?_))
    go_simp
    refine (ref_word g _ hg).mono ?_
    rintro e wa1 ⟨A1, m1, c1, rfl, hN1⟩
    have hbb1 := hbb0.below hN1.2.2 (by omega)
    have hbl1 := hbb1.lt
    unfold txV
    (refine hK.out _ _ (by exact hSof.out _ hbb1) (fun hS => ?_); clear hK K; try simp only [Act.put, List.setIfInBounds_toArray, List.set_cons_zero, List.set_cons_succ])
    (refine hOne (i := 9) rfl (by kernel_rfl) (fun K hK => ?_))
    go_simp
    refine (ref_word r _ hrr).mono ?_
    rintro e wa2 ⟨A2, m2, c2, rfl, hN2⟩
    have hbb2 := hbb1.below hN2.2.2 (by omega)
    have hbl2 := hbb2.lt
    unfold txV
    (refine hK.out _ _ (by exact hSof.out _ hbb2) (fun hS => ?_); clear hK K; try simp only [Act.put, List.setIfInBounds_toArray, List.set_cons_zero, List.set_cons_succ])
    (refine hOne (i := 12) rfl (by kernel_rfl) (fun K hK => ?_))
    go_simp
    refine (ref_word m _ hm).mono ?_
    rintro e wa3 ⟨A3, m3, c3, rfl, hN3⟩
    have hbb3 := hbb2.below hN3.2.2 (by omega)
    have hbl3 := hbb3.lt
    unfold txV
    (refine hK.out _ _ (by exact hSof.out _ hbb3) (fun hS => ?_); clear hK K; try simp only [Act.put, List.setIfInBounds_toArray, List.set_cons_zero, List.set_cons_succ])
    (refine hOne (i := 13) rfl (by kernel_rfl) (fun K hK => ?_))
    go_simp
    have hbe3 := ((hN0.2.2.trans (hN1.2.2.mono hN0.2.2.size)).trans (hN2.2.2.mono (Nat.le_trans hN0.2.2.size hN1.2.2.size))).trans (hN3.2.2.mono (Nat.le_trans hN0.2.2.size (Nat.le_trans hN1.2.2.size hN2.2.2.size)))
    have hv0 := (sits_new (w0 := w1.drew) (d := 7) hN0 (Nat.le_refl _))
    have hv1 := (sits_new (w0 := w1.drew) (d := 7) hN1 hN0.2.2.size)
    have hv2 := (sits_new (w0 := w1.drew) (d := 7) hN2 (Nat.le_trans hN0.2.2.size hN1.2.2.size))
    have hv3 := (sits_new (w0 := w1.drew) (d := 7) hN3 (Nat.le_trans hN0.2.2.size (Nat.le_trans hN1.2.2.size hN2.2.2.size)))
    have hitem := sits_four (ns := (Rc.mk k g r m).words) rfl (cs := tx4 A0 A1 A2 A3 m0 m1 m2 m3 c0 c1 c2 c3) hN1.2.2 hN2.2.2 hN3.2.2 rfl hv0 hv1 hv2 hv3
    (refine hK.out _ _ (by exact hSof.out _ (hbb3.alloc _)) (fun hS => ?_); clear hK K; try simp only [Act.put, List.setIfInBounds_toArray, List.set_cons_zero, List.set_cons_succ])
    (refine hTake (i := 14) (v := ?v10) rfl (by kernel_rfl) (by kernel_rfl) (by kernel_rfl) (fun _ _ _ h => h) (Or.inl ⟨by rfl, ?y10⟩) hS ?r10; (case y10 => (intro W hW; (go_simp); (try with_reducible rfl); done)); try simp only [Act.put, List.setIfInBounds_toArray, List.set_cons_zero, List.set_cons_succ])
    (refine hOne (i := 15) rfl (by kernel_rfl) (fun K hK => ?_))
    go_simp
    refine (ref_Bytes_all 9 _ _ (Rc.mk k g r m).item _ hitem (fun q h => by simp; exact h) (by have := Rc.bytes_len ⟨k, g, r, m⟩; exact Nat.le_trans this (by omega))).mono ?_
    rintro e w5 ⟨A5, m5, c5, rfl, hN5⟩
    have hsz5 := hN5.2.2.size
    have hb5 := (hbb3.alloc (.cells (tx4 A0 A1 A2 A3 m0 m1 m2 m3 c0 c1 c2 c3) 38)).below hN5.2.2 (by simp; omega)
    (refine hK.out _ _ (by exact hSof.out _ hb5) (fun hS => ?_); clear hK K; try simp only [Act.put, List.setIfInBounds_toArray, List.set_cons_zero, List.set_cons_succ])
    (refine hTake (i := 16) (v := ?v11) rfl (by kernel_rfl) (by kernel_rfl) (by kernel_rfl) (fun _ _ _ h => h) (Or.inl ⟨by rfl, ?y11⟩) hS ?r11; (case y11 => (intro W hW; (go_simp); (try with_reducible rfl); done)); try simp only [Act.put, List.setIfInBounds_toArray, List.set_cons_zero, List.set_cons_succ])
    (refine hTake (i := 17) (v := ?v12) rfl (by kernel_rfl) (by kernel_rfl) (by kernel_rfl) (fun _ _ _ h => h) (Or.inl ⟨by rfl, ?y12⟩) hS ?r12; (case y12 => (intro W hW; (go_simp); (try with_reducible rfl); done)); try simp only [Act.put, List.setIfInBounds_toArray, List.set_cons_zero, List.set_cons_succ])
    refine wpAnyH_done (by kernel_rfl) ?_ _
    have hb4 : Below wa3.heap.size wa3 (wa3.alloc (.cells (tx4 A0 A1 A2 A3 m0 m1 m2 m3 c0 c1 c2 c3) 38)) := (Below.refl _ _).alloc (Nat.le_refl _) _
    have hbe4 := (hbe2.out.trans ((show Below w1.heap.size w1 wa3 from ⟨hbe3.os, hbe3.tape, hbe3.output, hbe3.size, hbe3.block⟩).mono (by omega))).trans (hb4.mono (by omega))
    have hfin : NewB w w5 A5 m5 c5 (Rc.mk k g r m).bytes := new_of rfl hN5.1 hbe4 hN5.2.1 hN5.2.2
    replace hfin := Lib.hid hfin
    clear hN0 hN1 hN2 hN3 hN5 hbe3 hbe4 hb4 hb5 hitem hv0 hv1 hv2 hv3 hbb0 hbb1 hbb2 hbb3 hbbz hb1
    go_wp2_with fail
    go_ret2
    exact ⟨A5, m5, c5, rfl, hfin.out⟩
  · rw [if_neg hr]
    obtain ⟨s, g, r, m⟩ := x
    have hR := ref_Right ⟨s, g, r, m⟩ (w.alloc (.cells #[.int .i64 s, .int .u64 g, .int .u64 r, .int .u64 m] 24))
    rw [Bool.eq_false_iff.2 hr] at hR
    have hb := Blk.new w 24 #[.int .i64 s, .int .u64 g, .int .u64 r, .int .u64 m]
    have hs1 : (w.alloc (.cells #[.int .i64 s, .int .u64 g, .int .u64 r, .int .u64 m] 24)).heap.size = w.heap.size + 1 := by simp
    have hbe := (Below.refl w.heap.size w).alloc (Nat.le_refl _) (.cells #[.int .i64 s, .int .u64 g, .int .u64 r, .int .u64 m] 24)
    unfold Rc.val at *
    replace hs1 := Lib.hid hs1
    replace hbe := Lib.hid hbe
    go_enter Try.func8, Try.ntmps8
    go_wp2_with (refine wpList_load_row rfl 24 _ rfl w.heap.size rfl _ _ _ _ hb Try.underlying24 rfl info_receipt ?_)
    refine hR.mono ?_
    rintro e w1 ⟨rfl, hbe1⟩
    have hbe2 := hbe.out.trans (hbe1.mono (by have := hs1.out; omega))
    clear hR hb hbe1
    replace hbe2 := Lib.hid hbe2
    go_wp2_with fail
    go_ret2
    exact ⟨none, 0, 0, rfl, rfl, World.ownsRow_nil _ _ _ _, hbe2.out⟩
end Go.Proofs.Ytcpnfllekpekgaa
