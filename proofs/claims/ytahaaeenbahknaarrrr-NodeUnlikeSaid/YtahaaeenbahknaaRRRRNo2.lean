/-
  Package node: two (a leaf, or an extension, out of two items).
-/
import Derived.Test.YtahaaeenbahknaaRRRRNoB
import Derived.Test.YtahaaeenbahknaaRRRRRegM
namespace Go.Proofs.YtahaaeenbahknaaRRRR
open Go.RowKit

/-- what two and many answer -/
def ShpQ (S : Nat → Prop) (x : Nd.No) (ok : Bool) (w : World) (e : Ending) (w' : World) : Prop := Below w.heap.size w w' ∧ ∃ v, e = .returned (.tuple #[v, .bool ok]) ∧ NodIn (fun q => S q ∨ w.heap.size ≤ q) w' v x
/-- in the midst of two -/
structure TwoI (w : World) (rp ro : Array Value) (W : World) : Prop where
  p : Blk W w.heap.size 46 rp
  o : Blk W (w.heap.size + 1) 46 ro
  n : Blk W (w.heap.size + 2) 29 noZ
  bel : Below w.heap.size w W
  sz : w.heap.size + 3 ≤ W.heap.size
theorem TwoI.step {w W W' : World} {rp ro : Array Value} (h : TwoI w rp ro W) (hb : Below W.heap.size W W') : TwoI w rp ro W' := by
  have := h.sz
  exact ⟨h.p.below hb h.p.lt, h.o.below hb h.o.lt, h.n.below hb h.n.lt, h.bel.trans (hb.mono h.bel.size), Nat.le_trans h.sz hb.size⟩
theorem NodIn.zero (S : Nat → Prop) (w : World) : NodIn S w (.agg noZ) Nd.no0 :=
  ⟨none, 0, 0, none, 0, 0, none, 0, 0, none, 0, 0, [], rfl, rfl, ⟨rfl, Nat.le_refl _, by unfold maxLen; omega, ⟨rfl, fun h => by omega⟩⟩, ⟨rfl, Nat.le_refl _, by unfold maxLen; omega, ⟨rfl, fun h => by omega⟩⟩, ⟨rfl, Nat.le_refl _, by unfold maxLen; omega, ⟨rfl, fun h => by omega⟩⟩, rfl, Nat.le_refl _, by unfold maxLen; omega, ⟨rfl, fun h => by omega⟩, All2.nil⟩
theorem nodRow_one (k ck : Int) (Ap Av Ac Ak : Option Addr) (np cp nv cv nc cc nk kk : Nat) (cd : List UInt8) : (nodRow k Ap np cp Av nv cv ck cd Ac nc cc Ak nk kk).all (·.oneCell') = true :=
  Array.all_eq_true_iff_forall_mem.2 (by intro u hu; exact nodCells_one k ck Ap Av Ac Ak np cp nv cv nc cc nk kk cd u (by simpa [nodRow] using hu))
theorem noZ_one : noZ.all (·.oneCell') = true := by kernel_rfl
set_option maxHeartbeats 2000000 in
set_option maxRecDepth 100000 in
theorem node_two (S : Nat → Prop) (vp vo : Value) (p o : Ns.It 8) (w : World) (hsp : Sits S w 8 vp p) (hso : Sits S w 8 vo o) (hS : ∀ q, S q → q < w.heap.size) (hfp : (bytesOf p).length ≤ 16777215) (hfo : Ns.fit 7 o) (hlim : (Ns.enc 8 o).length ≤ 16777215) :
    Calls Try.prog 25 #[vp, vo] w (ShpQ S (Nd.two p o).1 (Nd.two p o).2 w) := by
  have hso2 := hso
  obtain ⟨A, n, c, z, rfl, hn, hc, hm, hin, hz⟩ := hsp.row
  obtain ⟨A2, n2, c2, z2, rfl, hn2, hc2, hm2, hin2, hz2⟩ := hso.row
  have hW : TwoI w #[.bool (isList p), .slice A n c, z] #[.bool (isList o), .slice A2 n2 c2, z2] (((w.alloc (.cells #[.bool (isList p), .slice A n c, z] 46)).alloc (.cells #[.bool (isList o), .slice A2 n2 c2, z2] 46)).alloc (.cells noZ 29)) :=
    ⟨((Blk.new w _ _).alloc _).alloc _, (Blk.new' (by simp)).alloc _, Blk.new' (by simp), (((Below.refl _ _).alloc (Nat.le_refl _) _).alloc (by simp) _).alloc (by simp; omega) _, by simp⟩
  have hB : Bytes w w.heap.size A n c (bytesOf p) := ⟨hn, hc, hm, hin.reads fun g _ h => h⟩
  have hlen := hB.len
  have hun := nib_Unpack (bytesOf p) A n c w.heap.size (((w.alloc (.cells #[.bool (isList p), .slice A n c, z] 46)).alloc (.cells #[.bool (isList o), .slice A2 n2 c2, z2] 46)).alloc (.cells noZ 29)) (hB.below hW.bel) (by have := hW.sz; omega) (by omega)
  have hT : Nd.two p o = if (Nib.unpack (bytesOf p)).isSome = false ∨ isList p = true then (Nd.no0, false)
      else if Nib.unpackB (bytesOf p) = true then (⟨1, Nib.unpackL (bytesOf p), bytesOf o, Nd.rf0, []⟩, !isList o)
      else (⟨2, Nib.unpackL (bytesOf p), [], (Nd.refOf o).1, []⟩, (Nd.refOf o).2) := rfl
  have hE : Nib.unpackE (bytesOf p) = if (Nib.unpack (bytesOf p)).isSome = true then 0 else 40 := rfl
  generalize Nd.two p o = T at *
  generalize isList p = lp at *
  have g1 : (((w.alloc (.cells #[.bool lp, .slice A n c, z] 46)).alloc (.cells #[.bool (isList o), .slice A2 n2 c2, z2] 46)).alloc (.cells noZ 29)).cell? ⟨w.heap.size, 1, none⟩ = some (.slice A n c) := hW.p.cell 1
  generalize hlo : isList o = lo at *
  replace hW := Lib.hid hW
  replace hT := Lib.hid hT
  replace hE := Lib.hid hE
  have hSh := Lib.hid hS
  clear hS
  replace hso2 := Lib.hid hso2
  replace hfo := Lib.hid hfo
  replace hlim := Lib.hid hlim
  replace hin2 := Lib.hid hin2
  replace hn2 := Lib.hid hn2
  clear hin hc hm hn hlen hB hsp hso hfp hlo
  go_enter Try.func25, Try.ntmps25
  go_wp2_with fail
  refine hun.mono ?_
  rintro e w1 ⟨A1, m1, c1, rfl, hm1, hO, hbe1⟩
  have hI := hW.out.step hbe1
  clear hun g1 hW
  have q0 : w1.cell? ⟨w.heap.size, 0, none⟩ = some (.bool lp) := hI.p.cell 0
  replace hI := Lib.hid hI
  replace hO := Lib.hid hO
  replace hm1 := Lib.hid hm1
  replace hbe1 := Lib.hid hbe1
  generalize Nib.unpackE (bytesOf p) = E at *
  generalize Nib.unpackB (bytesOf p) = UB at *
  generalize Nib.unpackL (bytesOf p) = UL at *
  by_cases hbad : (Nib.unpack (bytesOf p)).isSome = false ∨ lp = true
  · have hT0 := Lib.hid (show T = (Nd.no0, false) by rw [hT.out, if_pos hbad])
    have hcode : (E = 40) ∨ (E = 0 ∧ lp = true) := by
      rw [hE.out]
      rcases hbad with h | h
      · rw [h]; exact .inl rfl
      · by_cases h2 : (Nib.unpack (bytesOf p)).isSome = true
        · rw [if_pos h2]; exact .inr ⟨rfl, h⟩
        · rw [if_neg h2]; exact .inl rfl
    clear hT hE hbad
    have hfin : ShpQ S T.1 T.2 w (.returned (.tuple #[.agg noZ, .bool false])) (w1.setRow (w.heap.size + 2) noZ) := by
      rw [hT0.out]
      exact ⟨below_row hI.out.bel (by omega) _, _, rfl, NodIn.zero _ _⟩
    replace hfin := Lib.hid hfin
    rcases hcode with rfl | ⟨rfl, rfl⟩
    all_goals
      go_wp2_with (refine wpList_store_row rfl 29 _ _ rfl (w.heap.size + 2) noZ rfl rfl _ _ hI.out.n info_node rfl noZ_one ?_)
      refine bodyPost_ret (v := .tuple #[.agg noZ, .bool false]) (results_row_tmp rfl _ _ (w.heap.size + 2) _ noZ _ _ _ rfl rfl (hI.out.n.row _) Try.underlying29 rfl info_node) rfl ?_
      exact hfin.out
  · have hlp : lp = false := by cases lp; rfl; exact absurd (.inr rfl) hbad
    have hso3 : (Nib.unpack (bytesOf p)).isSome = true := by
      cases h : (Nib.unpack (bytesOf p)).isSome
      · exact absurd (.inl h) hbad
      · rfl
    have hE0 : E = 0 := by rw [hE.out, if_pos hso3]
    have hT1 := hT.out
    rw [if_neg hbad] at hT1
    clear hT hE hbad hso3
    subst hlp
    subst hE0
    cases UB with
    | true =>
      replace hT1 := Lib.hid (hT1.trans (if_pos rfl))
      go_wp2_with fail

      have hv2 : (w1.drew.setRow (w.heap.size + 2) (nodRow 1 A1 m1 c1 A2 n2 c2 0 Nd.z32 none 0 0 none 0 0)).cell? ⟨w.heap.size + 1, 0, none⟩ = some (.bool lo) ∧ (w1.drew.setRow (w.heap.size + 2) (nodRow 1 A1 m1 c1 A2 n2 c2 0 Nd.z32 none 0 0 none 0 0)).cell? ⟨w.heap.size + 1, 1, none⟩ = some (.slice A2 n2 c2) := by
        have := hI.out.o.drew.row_far (nodRow 1 A1 m1 c1 A2 n2 c2 0 Nd.z32 none 0 0 none 0 0) (show w.heap.size + 1 ≠ w.heap.size + 2 by omega)
        exact ⟨this.cell 0, this.cell 1⟩
      replace hv2 := Lib.hid hv2
      refine wp_region_held_drew (S := (fun W => W.cell? ⟨w.heap.size + 1, 0, none⟩ = some (.bool lo) ∧ W.cell? ⟨w.heap.size + 1, 1, none⟩ = some (.slice A2 n2 c2))) (by kernel_rfl) (by exact ⟨hI.out.o.drew.cell 0, hI.out.o.drew.cell 1⟩) (fun hS => ?_)
      (refine hTake (i := 0) (v := ?v1) rfl (by kernel_rfl) (by kernel_rfl) (by kernel_rfl) (fun _ _ _ h => h) (Or.inl ⟨by rfl, ?y1⟩) hS ?r1; (case y1 => (intro W hW; (go_simp); (try with_reducible rfl); done)); try simp only [Act.put, List.setIfInBounds_toArray, List.set_cons_zero, List.set_cons_succ])
      (refine hTake (i := 1) (v := ?v2) rfl (by kernel_rfl) (by kernel_rfl) (by kernel_rfl) (fun _ _ _ h => h) (Or.inl ⟨by rfl, ?y2⟩) hS ?r2; (case y2 => (intro W hW; (go_simp); (try with_reducible rfl); done)); try simp only [Act.put, List.setIfInBounds_toArray, List.set_cons_zero, List.set_cons_succ])
      (refine hTake (i := 2) (v := ?v3) rfl (by kernel_rfl) (by kernel_rfl) (by kernel_rfl) (fun _ _ _ h => h) (Or.inl ⟨by rfl, ?y3⟩) hS ?r3; (case y3 => (intro W hW; ((have g := hW.2; go_simp)); (try with_reducible rfl); done)); try simp only [Act.put, List.setIfInBounds_toArray, List.set_cons_zero, List.set_cons_succ])
      (refine hTake (i := 3) (v := ?v4) rfl (by kernel_rfl) (by kernel_rfl) (by kernel_rfl) (fun _ _ _ h => h) (Or.inl ⟨by rfl, ?y4⟩) hS ?r4; (case y4 => (intro W hW; (go_simp); (try with_reducible rfl); done)); try simp only [Act.put, List.setIfInBounds_toArray, List.set_cons_zero, List.set_cons_succ])
      (refine hTake (i := 4) (v := ?v5) rfl (by kernel_rfl) (by kernel_rfl) (by kernel_rfl) (fun _ _ _ h => h) (Or.inl ⟨by rfl, ?y5⟩) hS ?r5; (case y5 => (intro W hW; (go_simp); (try with_reducible rfl); done)); try simp only [Act.put, List.setIfInBounds_toArray, List.set_cons_zero, List.set_cons_succ])
      (refine hTake (i := 5) (v := ?v6) rfl (by kernel_rfl) (by kernel_rfl) (by kernel_rfl) (fun _ _ _ h => h) (Or.inl ⟨by rfl, ?y6⟩) hS ?r6; (case y6 => (intro W hW; ((have g := hW.1; go_simp)); (try with_reducible rfl); done)); try simp only [Act.put, List.setIfInBounds_toArray, List.set_cons_zero, List.set_cons_succ])
      (refine hTake (i := 6) (v := ?v7) rfl (by kernel_rfl) (by kernel_rfl) (by kernel_rfl) (fun _ _ _ h => h) (Or.inl ⟨by rfl, ?y7⟩) hS ?r7; (case y7 => (intro W hW; (go_simp); (try with_reducible rfl); done)); try simp only [Act.put, List.setIfInBounds_toArray, List.set_cons_zero, List.set_cons_succ])
      (refine hOne (i := 7) rfl (by kernel_rfl) (fun K hK => ?_))
      rw [if_pos (by rfl)]
      refine wp_store_row 29 _ _ rfl (w.heap.size + 2) (nodRow 1 A1 m1 c1 A2 n2 c2 0 Nd.z32 none 0 0 none 0 0) rfl rfl _ _ hI.out.n.drew (by rw [nodRow_size rfl]; exact info_node) (by rw [nodRow_size rfl]; rfl) (nodRow_one _ _ _ _ _ _ _ _ _ _ _ _ _ _ _) ?_
      (refine hK.out _ _ hv2.out (fun hS => ?_); clear hK K; try simp only [Act.put, List.setIfInBounds_toArray, List.set_cons_zero, List.set_cons_succ])
      (refine hTake (i := 8) (v := ?v8) rfl (by kernel_rfl) (by kernel_rfl) (by kernel_rfl) (fun _ _ _ h => h) (Or.inl ⟨by rfl, ?y8⟩) hS ?r8; (case y8 => (intro W hW; (go_simp); (try with_reducible rfl); done)); try simp only [Act.put, List.setIfInBounds_toArray, List.set_cons_zero, List.set_cons_succ])
      refine wpAnyH_done (by kernel_rfl) ?_ _
      clear hS
      have hs3 := hI.out.sz
      have hbF := below_row hI.out.bel.drew (show w.heap.size ≤ w.heap.size + 2 by omega) (nodRow 1 A1 m1 c1 A2 n2 c2 0 Nd.z32 none 0 0 none 0 0)
      have hX : NodIn (fun q => S q ∨ w.heap.size ≤ q) (w1.drew.setRow (w.heap.size + 2) (nodRow 1 A1 m1 c1 A2 n2 c2 0 Nd.z32 none 0 0 none 0 0)) (.agg (nodRow 1 A1 m1 c1 A2 n2 c2 0 Nd.z32 none 0 0 none 0 0)) ⟨1, UL, bytesOf o, Nd.rf0, []⟩ :=
        ⟨A1, m1, c1, A2, n2, c2, none, 0, 0, none, 0, 0, [], rfl, rfl,
          ⟨hm1.out, hO.out.cap, hO.out.lim, (InS.of_own hO.out).move (fun q h1 h2 => by
            simp only [World.size_alloc] at h1
            exact ⟨.inr (by omega), setRow_other _ _ q _ (by omega)⟩) (by simp)⟩,
          ⟨hn2.out, hc2, hm2, hin2.out.move (fun q h1 h2 => ⟨.inl h1, hbF.block q h2⟩) hbF.size⟩,
          ⟨rfl, Nat.le_refl _, by unfold maxLen; omega, ⟨rfl, fun h => by omega⟩⟩, rfl, Nat.le_refl _, by unfold maxLen; omega, ⟨rfl, fun h => by omega⟩, All2.nil⟩
      have hn6 : Blk (w1.drew.setRow (w.heap.size + 2) (nodRow 1 A1 m1 c1 A2 n2 c2 0 Nd.z32 none 0 0 none 0 0)) (w.heap.size + 2) 29 (nodRow 1 A1 m1 c1 A2 n2 c2 0 Nd.z32 none 0 0 none 0 0) := hI.out.n.drew.row _
      replace hX := Lib.hid hX
      replace hbF := Lib.hid hbF
      replace hn6 := Lib.hid hn6
      go_wp2_with fail
      refine bodyPost_ret (v := .tuple #[.agg (nodRow 1 A1 m1 c1 A2 n2 c2 0 Nd.z32 none 0 0 none 0 0), .bool (!lo)]) (results_row_tmp rfl _ _ (w.heap.size + 2) _ (nodRow 1 A1 m1 c1 A2 n2 c2 0 Nd.z32 none 0 0 none 0 0) _ _ _ rfl rfl hn6.out Try.underlying29 rfl (by rw [nodRow_size rfl]; exact info_node)) rfl ?_
      rw [hT1.out]
      exact ⟨hbF.out, _, rfl, hX.out⟩
    | false =>
      replace hT1 := Lib.hid (hT1.trans (if_neg (by simp)))
      have hs3 := hI.out.sz
      have hcall := node_ref S (.agg #[.bool lo, .slice A2 n2 c2, z2]) o w1 (hso2.out.move _ _ _ (fun q h1 h2 => ⟨h1, hI.out.bel.block q h2⟩) hI.out.bel.size) (fun q h => by have := hSh.out q h; omega) hfo.out hlim.out
      have hbo := hI.out.o
      go_wp2_with (refine wpList_load_row rfl 46 _ rfl (w.heap.size + 1) rfl _ _ _ _ hbo Try.underlying46 rfl info_item3 ?_)
      refine hcall.mono ?_
      rintro e w2 ⟨hb2, vr, rfl, A3, n3, c3, rfl, hd3, hn3, hc3, hm3, hi3⟩
      clear hcall hbo
      generalize (Nd.refOf o).2 = ok2 at *
      generalize (Nd.refOf o).1 = R at *
      obtain ⟨rk, rd, ri⟩ := R
      simp only at hd3 hn3 hi3
      have hI2 := hI.out.step hb2
      have hrs := ref_stored (wr := w2) (refRow rk rd A3 n3 c3)
      replace hI2 := Lib.hid hI2
      replace hrs := Lib.hid hrs
      replace hn3 := Lib.hid hn3
      replace hd3 := Lib.hid hd3
      replace hb2 := Lib.hid hb2
      clear hI q0
      go_wp2_with (first
        | (refine wpList_load_row rfl 26 _ rfl w2.heap.size rfl _ _ _ _ hI3.out.it Try.underlying26 rfl (by rw [refRow_size hd3.out]; exact info_ref) ?_)
        | (refine wpList_built rfl 29 _ rfl (nodRow 2 A1 m1 c1 none 0 0 rk rd A3 n3 c3 none 0 0) (by rw [Array.toList_map]; exact built_ext 2 A1 m1 c1 rk rd hd3.out A3 n3 c3) ?_)
        | (refine wpList_store_row rfl 29 _ _ rfl (w.heap.size + 2) (nodRow 2 A1 m1 c1 none 0 0 rk rd A3 n3 c3 none 0 0) rfl rfl _ _ (hI2.out.n.below (hI3.out.bel.mono (Nat.le_refl _)) hI2.out.n.lt) (by rw [nodRow_size hd3.out]; exact info_node) (by rw [nodRow_size hd3.out]; rfl) (nodRow_one _ _ _ _ _ _ _ _ _ _ _ _ _ _ _) ?_)
        | (refine wpList_store_row rfl 26 _ _ rfl w2.heap.size (refRow rk rd A3 n3 c3) rfl rfl _ _ (Blk.new w2 26 refZ) (by rw [refRow_size hd3.out]; exact info_ref) (by rw [refRow_size hd3.out]; rfl) (refRow_one _ _ _ _ _) ?_; refine list_at (RefS w2 _) hrs.out ?_; intro w3 hI3; replace hI3 := Lib.hid hI3)
        | fail)
      have hI4 := hI2.out.step hI3.out.bel
      have hbF := below_row hI4.bel (show w.heap.size ≤ w.heap.size + 2 by omega) (nodRow 2 A1 m1 c1 none 0 0 rk rd A3 n3 c3 none 0 0)
      have hsz3 := hI3.out.bel.size
      have hsz2 := hb2.out.size
      have hX : NodIn (fun q => S q ∨ w.heap.size ≤ q) (w3.setRow (w.heap.size + 2) (nodRow 2 A1 m1 c1 none 0 0 rk rd A3 n3 c3 none 0 0)) (.agg (nodRow 2 A1 m1 c1 none 0 0 rk rd A3 n3 c3 none 0 0)) ⟨2, UL, [], ⟨rk, rd, ri⟩, []⟩ :=
        ⟨A1, m1, c1, none, 0, 0, A3, n3, c3, none, 0, 0, [], rfl, hd3.out,
          ⟨hm1.out, hO.out.cap, hO.out.lim, (InS.of_own hO.out).move (fun q h1 h2 => by
            simp only [World.size_alloc] at h1
            exact ⟨.inr (by omega), (setRow_other _ _ q _ (by omega)).trans ((hI3.out.bel.block q (by omega)).trans (hb2.out.block q h2))⟩) (by simp; omega)⟩,
          ⟨rfl, Nat.le_refl _, by unfold maxLen; omega, ⟨rfl, fun h => by omega⟩⟩,
          ⟨hn3.out, hc3, hm3, hi3.move (fun q h1 h2 => ⟨.inr (by omega), (setRow_other _ _ q _ (by omega)).trans (hI3.out.bel.block q h2)⟩) (by simp; omega)⟩,
          rfl, Nat.le_refl _, by unfold maxLen; omega, ⟨rfl, fun h => by omega⟩, All2.nil⟩
      have hn6 : Blk (w3.setRow (w.heap.size + 2) (nodRow 2 A1 m1 c1 none 0 0 rk rd A3 n3 c3 none 0 0)) (w.heap.size + 2) 29 (nodRow 2 A1 m1 c1 none 0 0 rk rd A3 n3 c3 none 0 0) := hI4.n.row _
      refine bodyPost_ret (v := .tuple #[.agg (nodRow 2 A1 m1 c1 none 0 0 rk rd A3 n3 c3 none 0 0), .bool ok2]) (results_row_tmp rfl _ _ (w.heap.size + 2) _ (nodRow 2 A1 m1 c1 none 0 0 rk rd A3 n3 c3 none 0 0) _ _ _ rfl rfl hn6 Try.underlying29 rfl (by rw [nodRow_size hd3.out]; exact info_node)) rfl ?_
      rw [hT1.out]
      exact ⟨hbF, _, rfl, hX⟩
end Go.Proofs.YtahaaeenbahknaaRRRR
