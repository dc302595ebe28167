/-
  Texts of a proof, one behind the other: No7, No8, No9, Wrap, OpN, Law05, Law05a, NoG.
-/
import Derived.Test.YtahaaeenbahknaaRRRRNodeShortA3
import Derived.Great.BuildSlice
import Derived.ProofKit
import Derived.OpenShut
import Derived.JoinedCond
import Derived.SizedLaws
import Derived.Deep.Slices
/-
  Package node: Encode.
-/
namespace Go.Proofs.YtahaaeenbahknaaRRRR
open Go.RowKit

/-- bytes mid-block and a code -/
def PostOe (w : World) (l : List UInt8) (k : Int) (e : Ending) (w' : World) : Prop := ∃ A m c, e = .returned (.tuple #[.slice A m c, .int .i64 k]) ∧ NewO w w' A m c l
theorem NodIn.wf {S : Nat → Prop} {w : World} {v : Value} {x : Nd.No} (h : NodIn S w v x) : Nd.wf x := by
  obtain ⟨Ap, np, cp, Av, nv, cv, Ac, nc, cc, Ak, nk, kk, vs, rfl, hcd, _, _, _, _, _, _, _, hall⟩ := h
  intro r hr
  rcases List.mem_cons.1 hr with rfl | hr
  · exact hcd
  · obtain ⟨i, hi, rfl⟩ := List.mem_iff_getElem.1 hr
    obtain ⟨v, _, A, n, c, _, hd, _⟩ := hall.2 i _ (List.getElem?_eq_getElem hi)
    exact hd
/-- '[]api.Item{x, y}' -/
theorem wp_build_two {o : Oper} {a : Act} {w : World} {K : Act → World → Prop} {Q : Exit → Act → World → Prop} (parts : Array (Nat × Operand)) (ho : o.op = .buildSlice 43 2 parts)
    (x y z x' y' z' : Value) (hp : parts.toList.map (fun (i, x) => (i, a.eval x)) = [(0, .agg #[x, y, z]), (1, .agg #[x', y', z'])])
    (h : K (a.put o.dst (.slice (some ⟨w.heap.size, 0, none⟩) 2 2)) (w.alloc (.cells #[x, y, z, x', y', z'] 46))) : o.wp Try.prog a w K Q := by
  obtain ⟨i0, hi, hz0, hz1, hz2⟩ := info_parts info_item
  refine wp_buildSlice 43 46 2 parts ho #[x, y, z, x', y', z'] i0 itemZ Try.underlying43 hi hz0 (by rw [hz1]; decide) (by rw [hz1]; decide) ?_ h
  rw [Array.toList_map, hp, hz1]
  have hc0 : ((Array.range (2 * 3)).map (itemZ.cells[· % itemZ.cells.size]!)).size = 6 := by simp
  generalize (Array.range (2 * 3)).map (itemZ.cells[· % itemZ.cells.size]!) = cs0 at *
  unfold Instr.fill
  rw [show (some (0 * 3, 3) : Option (Nat × Nat)) = some (0, 3) from rfl]
  simp only
  rw [if_neg (by
    show ¬ ((decide (3 ≠ 3) || decide (0 + 3 > cs0.size)) = true)
    rw [hc0]; simp), fold_set (.agg #[x, y, z]) [x, y, z] rfl 0 cs0 (by rw [hc0]; simp)]
  unfold Instr.fill
  rw [show (some (1 * 3, 3) : Option (Nat × Nat)) = some (3, 3) from rfl]
  simp only
  have hl : cs0.toList.length = 6 := by rw [Array.length_toList]; exact hc0
  have hs1 : (cs0.toList.take 0 ++ [x, y, z] ++ cs0.toList.drop (0 + [x, y, z].length)).toArray.size = 6 := by
    simp [hl]
  rw [if_neg (by
    show ¬ ((decide (3 ≠ 3) || decide (3 + 3 > (cs0.toList.take 0 ++ [x, y, z] ++ cs0.toList.drop (0 + [x, y, z].length)).toArray.size)) = true)
    rw [hs1]; simp), fold_set (.agg #[x', y', z']) [x', y', z'] rfl 3 _ (by rw [hs1]; simp)]
  unfold Instr.fill
  obtain ⟨l⟩ := cs0
  match l, hl with
  | [_, _, _, _, _, _], _ => rfl
/-- two items laid side by side -/
theorem items_two {w w4 : World} {x y z x' y' z' : Value} {i i' : Ns.It 8} (hw : w.heap.size ≤ w4.heap.size) (h1 : Sits (fun q => w.heap.size ≤ q) w4 8 (.agg #[x, y, z]) i) (h2 : Sits (fun q => w.heap.size ≤ q) w4 8 (.agg #[x', y', z']) i') :
    ∃ vs, InS (fun q => w.heap.size ≤ q) (w4.alloc (.cells #[x, y, z, x', y', z'] 46)) 3 (some ⟨w4.heap.size, 0, none⟩) 2 (flat vs) ∧ All2 (Sits (fun q => w.heap.size ≤ q) (w4.alloc (.cells #[x, y, z, x', y', z'] 46)) 8) vs [i, i'] := by
  refine ⟨[.agg #[x, y, z], .agg #[x', y', z']], ⟨rfl, fun _ => ⟨w4.heap.size, 0, rfl, hw, by simp, fun j u hu => ?_⟩⟩, rfl, fun j t ht => ?_⟩
  · rw [Nat.zero_add, (Blk.new w4 46 #[x, y, z, x', y', z']).cell j, ← Array.getElem?_toList]
    exact hu
  · have hmv : ∀ q, w.heap.size ≤ q → q < w4.heap.size → w.heap.size ≤ q ∧ (w4.alloc (.cells #[x, y, z, x', y', z'] 46)).heap[q]? = w4.heap[q]? := fun q a b => ⟨a, Below.heap_alloc w4 _ q b⟩
    match j, ht with
    | 0, ht => cases ht; exact ⟨_, rfl, h1.move _ _ _ hmv (by simp)⟩
    | 1, ht => cases ht; exact ⟨_, rfl, h2.move _ _ _ hmv (by simp)⟩
/-- the items are laid -/
structure EncT (w : World) (A : Option Addr) (m c : Nat) (xs : List (Ns.It 8)) (W : World) : Prop where
  len : m = xs.length
  le : m ≤ c
  lim : c ≤ maxLen
  its : ∃ vs, InS (fun q => w.heap.size ≤ q) W 3 A m (flat vs) ∧ All2 (Sits (fun q => w.heap.size ≤ q) W 8) vs xs
  bel : Below w.heap.size w W
/-- a reference of a list, in memory -/
theorem refs_in {S : Nat → Prop} {w : World} {n : Nat} {A : Option Addr} {vs : List Value} {rs : List Nd.Rf} (hin : InS S w 34 A n (flat vs)) (hall : All2 (RefIn S w) vs rs) (hn : n = rs.length) (i : Nat) (hi : i < rs.length) :
    ∃ (g o : Nat) (A' : Option Addr) (n' c' : Nat), A = some ⟨g, o, none⟩ ∧ g < w.heap.size ∧ w.rangeAt g (o + i * 34) (refCells rs[i].kind rs[i].dig A' n' c') ∧ rs[i].dig.length = 32 ∧ RefIn (fun q => q < w.heap.size) w (.agg (refRow rs[i].kind rs[i].dig A' n' c')) rs[i] := by
  obtain ⟨g, o, A', n', c', h1, _, h2, h3, h4, h5⟩ := refs_at hin hall hn i hi
  refine ⟨g, o, A', n', c', h1, h2, h3, h4, A', n', c', rfl, h4, h5.len, h5.cap, h5.lim, h5.reads.1, fun hp => ?_⟩
  obtain ⟨g', o', e, hg, hc⟩ := h5.reads.2 hp
  exact ⟨g', o', e, hg, hg, hc⟩
theorem encT_of {w W : World} {A : Option Addr} {m c : Nat} {vs : List Value} {xs : List (Ns.It 8)} (h : ItL (fun _ => False) (w.heap.size + 1) W 8 A m c vs xs) (hb : Below w.heap.size w W) : EncT w A m c xs W :=
  have hO := Own.of_row h.own
  ⟨h.len, hO.cap, hO.lim, ⟨vs, (InS.of_own hO).move (fun q h1 h2 => ⟨by omega, rfl⟩) (Nat.le_refl _), h.all.imp fun v x hx => hx.move _ _ _ (fun q h1 h2 => ⟨by rcases h1.1 with h | h; exact h.elim; omega, rfl⟩) (Nat.le_refl _)⟩, hb⟩
set_option maxHeartbeats 4000000 in
set_option maxRecDepth 100000 in
theorem node_Encode (S : Nat → Prop) (v : Value) (x : Nd.No) (w : World) (hv : NodIn S w v x) (hS : ∀ q, S q → q < w.heap.size) :
    Calls Try.prog 8 #[v] w (PostOe w (if Nd.right Nd.dec x = true then Nd.enc x else []) (if Nd.right Nd.dec x = true then 0 else 50)) := by
  have hwf := hv.wf
  have hv0 := hv
  obtain ⟨Ap, np, cp, Av, nv, cv, Ac, nc, cc, Ak, nk, kk, vs, rfl, hcd, ⟨hp1, hp2, hp3, hp4⟩, ⟨hv1, hv2, hv3, hv4⟩, ⟨hc1, hc2, hc3, hc4⟩, hnk, hkk, hkm, hin, hall⟩ := hv
  rw [show (nodCells x.kind Ap np cp Av nv cv x.child.kind x.child.dig Ac nc cc Ak nk kk).toArray = nodRow x.kind Ap np cp Av nv cv x.child.kind x.child.dig Ac nc cc Ak nk kk from rfl] at *
  have hF : NodF w x.kind Ap np cp Av nv cv x.child.kind x.child.dig Ac nc cc Ak nk kk (w.alloc (.cells (nodRow x.kind Ap np cp Av nv cv x.child.kind x.child.dig Ac nc cc Ak nk kk) 29)) := NodF.of (Blk.new w _ _) hcd ((Below.refl _ _).alloc (Nat.le_refl _) _)
  have hrgt := node_Right S _ x (w.alloc (.cells (nodRow x.kind Ap np cp Av nv cv x.child.kind x.child.dig Ac nc cc Ak nk kk) 29)) (hv0.move (fun q h1 h2 => ⟨h1, Below.heap_alloc w _ q h2⟩) (by simp)) (fun q h => by have := hS q h; simp; omega) (fun r _ _ => node_Decode r.inl)
  have hRs : (nodRow x.kind Ap np cp Av nv cv x.child.kind x.child.dig Ac nc cc Ak nk kk).size = 38 := nodRow_size hcd
  have hpB : Bytes w w.heap.size Ap np cp x.path := ⟨hp1, hp2, hp3, hp4.reads fun g _ h => h⟩
  have hvB : Bytes w w.heap.size Av nv cv x.value := ⟨hv1, hv2, hv3, hv4.reads fun g _ h => h⟩
  have hcR : RefIn S w (.agg (refRow x.child.kind x.child.dig Ac nc cc)) x.child := ⟨Ac, nc, cc, rfl, hcd, hc1, hc2, hc3, hc4⟩
  have hblk := hF.blk
  clear hv0 hp1 hp2 hp3 hp4 hv1 hv2 hv3 hv4 hc1 hc2 hc3 hc4
  replace hF := Lib.hid hF
  replace hpB := Lib.hid hpB
  replace hvB := Lib.hid hvB
  replace hcR := Lib.hid hcR
  replace hnk := Lib.hid hnk
  replace hin := Lib.hid hin
  replace hall := Lib.hid hall
  have hSh := Lib.hid hS
  clear hS
  replace hwf := Lib.hid hwf
  replace hcd := Lib.hid hcd
  cases hR : Nd.right Nd.dec x with
  | false =>
    rw [hR] at hrgt
    replace hR := Lib.hid hR
    generalize nodRow x.kind Ap np cp Av nv cv x.child.kind x.child.dig Ac nc cc Ak nk kk = R at *
    go_enter Try.func8, Try.ntmps8
    go_wp2_with (first
      | (refine wpList_load_row rfl 29 _ rfl w.heap.size rfl _ _ _ _ hblk Try.underlying29 rfl (by rw [hRs]; exact info_node) ?_)
      | fail)
    refine hrgt.mono ?_
    rintro e w1 ⟨rfl, hb1⟩
    have hb := Lib.hid (hF.out.bel.trans (hb1.mono hF.out.bel.size))
    clear hrgt hb1
    go_wp2_with fail
    go_ret2
    exact ⟨none, 0, 0, rfl, rfl, Own.of_row (World.ownsRow_nil _ _ _ _), hb.out⟩
  | true =>
    rw [hR] at hrgt
    have hfe := Lib.hid (Nd.fit_enc hwf.out hR)
    have hkind := Nd.right_kind hR
    replace hR := Lib.hid hR
    simp only [if_true]
    have hstep : ∀ w1, Below (w.alloc (.cells (nodRow x.kind Ap np cp Av nv cv x.child.kind x.child.dig Ac nc cc Ak nk kk) 29)).heap.size (w.alloc (.cells (nodRow x.kind Ap np cp Av nv cv x.child.kind x.child.dig Ac nc cc Ak nk kk) 29)) w1 → NodF w x.kind Ap np cp Av nv cv x.child.kind x.child.dig Ac nc cc Ak nk kk w1 := fun w1 hb => hF.out.step hcd.out hb
    replace hstep := Lib.hid hstep
    go_enter Try.func8, Try.ntmps8
    go_wp2_with (first
      | (refine wpList_load_row rfl 29 _ rfl w.heap.size rfl _ _ _ _ hblk Try.underlying29 rfl (by rw [hRs]; exact info_node) ?_)
      | fail)
    refine hrgt.mono ?_
    rintro e w1 ⟨rfl, hb1⟩
    have hF1 := hstep.out w1 hb1
    clear hrgt hblk hF hb1 hstep
    have c0 := hF1.c0
    have c1 := hF1.c1
    have c2 := hF1.c2
    have c37 := hF1.c37
    have hch := hF1.ch
    replace hF1 := Lib.hid hF1
    rcases hkind with hk | hk | hk
    · obtain ⟨hpl, hpr, _, hvl, _, _⟩ := Nd.right_leaf hR.out hk
      have hits : Nd.items x = [Ns.tx ((Nib.pack x.path true).getD []), Ns.tx x.value] := by unfold Nd.items; rw [if_pos hk]
      have hple := Nd.pack_le x.path true hpl hpr
      have hpk := nib_Pack x.path true Ap np cp w.heap.size w1 (hpB.out.below hF1.out.bel) hF1.out.bel.size (by omega)
      generalize (Nib.pack x.path true).getD [] = pl at *
      generalize Nib.packE x.path = pE at *
      rw [hk] at c0
      replace hits := Lib.hid hits
      replace hk := Lib.hid hk
      replace hpr := Lib.hid hpr
      go_wp2_with fail
      refine hpk.mono ?_
      rintro e w2 ⟨A1, m1, c1', rfl, hN1⟩
      have hF2 := hF1.out.step hcd.out hN1.2.2
      clear hpk hF1 c0 c1 c2 c37 hch
      have k2 : w2.cell? ⟨w.heap.size, 2, none⟩ = some (.slice Av nv cv) := hF2.c2
      have hbs := hF2.bel.size
      have hbl := hF2.blk.lt
      have htx1 := nest_Text A1 m1 c1' pl w2.drew (hN1.bytes.drew) (by omega)
      have htx2 : ∀ w3, Below w2.drew.heap.size w2.drew w3 → Calls Try.prog 20 #[.slice Av nv cv] w3 (TextQ x.value w3) := fun w3 hb => nest_Text Av nv cv x.value w3 (((hvB.out.below hF2.bel).more hbs).drew.step hb) (by omega)
      have hbw2 : Below w.heap.size w w2.drew := hF2.bel.drew
      replace htx1 := Lib.hid htx1
      replace htx2 := Lib.hid htx2
      replace hF2 := Lib.hid hF2
      replace hN1 := Lib.hid hN1
      replace hbw2 := Lib.hid hbw2
      go_wp2_with fail
      refine wp_region_held_drew (S := (fun W => W.cell? ⟨w.heap.size, 2, none⟩ = some (.slice Av nv cv))) (by kernel_rfl) (by exact k2) (fun hS => ?_)
      (refine hTake (i := 0) (v := ?v1) rfl (by kernel_rfl) (by kernel_rfl) (by kernel_rfl) (fun _ _ _ h => h) (Or.inl ⟨by rfl, ?y1⟩) hS ?r1; (case y1 => (intro W hW; (go_simp); (try with_reducible rfl); done)); try simp only [Act.put, List.setIfInBounds_toArray, List.set_cons_zero, List.set_cons_succ])
      (refine hTake (i := 2) (v := ?v2) rfl (by kernel_rfl) (by kernel_rfl) (by kernel_rfl) (fun _ _ _ h => h) (Or.inl ⟨by rfl, ?y2⟩) hS ?r2; (case y2 => (intro W hW; (go_simp); (try with_reducible rfl); done)); try simp only [Act.put, List.setIfInBounds_toArray, List.set_cons_zero, List.set_cons_succ])
      (refine hTake (i := 3) (v := ?v3) rfl (by kernel_rfl) (by kernel_rfl) (by kernel_rfl) (fun _ _ _ h => h) (Or.inl ⟨by rfl, ?y3⟩) hS ?r3; (case y3 => (intro W hW; ((have g := hW; go_simp)); (try with_reducible rfl); done)); try simp only [Act.put, List.setIfInBounds_toArray, List.set_cons_zero, List.set_cons_succ])
      (refine hOne (i := 1) rfl (by kernel_rfl) (fun K hK => ?_))
      rw [if_pos (by rfl)]
      go_simp
      refine htx1.out.mono ?_
      rintro e w3 ⟨A3, m3, c3, rfl, hN3⟩
      have k3 : w3.cell? ⟨w.heap.size, 2, none⟩ = some (.slice Av nv cv) := (hN3.2.2.cell (p := ⟨w.heap.size, 2, none⟩) hbl).trans k2
      have hcl2 := htx2.out w3 hN3.2.2
      have hbw3 := hbw2.out.trans (hN3.2.2.mono hbw2.out.size)
      clear htx1 htx2
      replace hN3 := Lib.hid hN3
      replace hbw3 := Lib.hid hbw3
      replace hcl2 := Lib.hid hcl2
      unfold txV
      (refine hK.out _ _ (by exact k3) (fun hS => ?_); clear hK K; try simp only [Act.put, List.setIfInBounds_toArray, List.set_cons_zero, List.set_cons_succ])
      (refine hOne (i := 4) rfl (by kernel_rfl) (fun K hK => ?_))
      rw [if_pos (by rfl)]
      go_simp
      refine hcl2.out.mono ?_
      rintro e w4 ⟨A4, m4, c4, rfl, hN4⟩
      have k4 : w4.cell? ⟨w.heap.size, 2, none⟩ = some (.slice Av nv cv) := (hN4.2.2.cell (p := ⟨w.heap.size, 2, none⟩) (Nat.lt_of_lt_of_le hbl (show w2.heap.size ≤ w3.heap.size from hN3.out.2.2.size))).trans k3
      have hbw4 := hbw3.out.trans (hN4.2.2.mono hbw3.out.size)
      have hbl4 : w.heap.size < w4.heap.size := Nat.lt_of_lt_of_le hbl (Nat.le_trans (show w2.heap.size ≤ w3.heap.size from hN3.out.2.2.size) hN4.2.2.size)
      have hs3 : Sits (fun q => w.heap.size ≤ q) w4 8 (.agg #[.bool false, .slice A3 m3 c3, .slice none 0 0]) (Ns.tx pl) := hN3.out.sits.move _ _ _ (fun q h1 h2 => ⟨Nat.le_trans hbw2.out.size h1, hN4.2.2.block q h2⟩) hN4.2.2.size
      have hs4 : Sits (fun q => w.heap.size ≤ q) w4 8 (.agg #[.bool false, .slice A4 m4 c4, .slice none 0 0]) (Ns.tx x.value) := hN4.sits.move _ _ _ (fun q h1 h2 => ⟨Nat.le_trans hbw3.out.size h1, rfl⟩) (Nat.le_refl _)
      have hT : EncT w (some ⟨w4.heap.size, 0, none⟩) 2 2 (Nd.items x) (w4.alloc (.cells #[.bool false, .slice A3 m3 c3, .slice none 0 0, .bool false, .slice A4 m4 c4, .slice none 0 0] 46)) :=
        ⟨by rw [hits.out]; rfl, Nat.le_refl _, by unfold maxLen; omega, by rw [hits.out]; exact items_two hbw4.size hs3 hs4, hbw4.alloc hbw4.size _⟩
      clear hcl2 hs3 hs4 hN4
      replace hT := Lib.hid hT
      replace hbw4 := Lib.hid hbw4
      unfold txV
      (refine hK.out _ _ (by exact k4) (fun hS => ?_); clear hK K; try simp only [Act.put, List.setIfInBounds_toArray, List.set_cons_zero, List.set_cons_succ])
      (refine hOne (i := 5) rfl (by kernel_rfl) (fun K hK => ?_))
      rw [if_pos (by rfl)]
      refine wp_build_two _ rfl (.bool false) (.slice A3 m3 c3) (.slice none 0 0) (.bool false) (.slice A4 m4 c4) (.slice none 0 0) rfl ?_
      (refine hK.out _ _ (by exact (World.cell?_alloc_lt w4 _ _ hbl4).trans k4) (fun hS => ?_); clear hK K; try simp only [Act.put, List.setIfInBounds_toArray, List.set_cons_zero, List.set_cons_succ])
      (refine hTake (i := 6) (v := ?v4) rfl (by kernel_rfl) (by kernel_rfl) (by kernel_rfl) (fun _ _ _ h => h) (Or.inl ⟨by rfl, ?y4⟩) hS ?r4; (case y4 => (intro W hW; (go_simp); (try with_reducible rfl); done)); try simp only [Act.put, List.setIfInBounds_toArray, List.set_cons_zero, List.set_cons_succ])
      refine wpAnyH_done (by kernel_rfl) ?_ _
      go_upto_region 17 with fail
      refine code_at (EncT w (some ⟨w4.heap.size, 0, none⟩) 2 2 (Nd.items x)) hT.out ?_
      generalize w4.heap.size = g4 at *
      clear hT
      intro w5 hT
      replace hT := Lib.hid hT
      have hT1 := hT.out.bel.size
      obtain ⟨vs5, hin5, hall5⟩ := hT.out.its
      have hlst := nest_List 8 (fun q => w.heap.size ≤ q ∧ q < w5.heap.size) _ _ _ vs5 (Nd.items x) w5 (fun q h => h.2) hT.out.len hT.out.le hT.out.lim (hin5.move (fun q h1 h2 => ⟨⟨h1, h2⟩, rfl⟩) (Nat.le_refl _)) (hall5.imp fun v x hx => hx.move _ _ _ (fun q h1 h2 => ⟨⟨h1, h2⟩, rfl⟩) (Nat.le_refl _)) (by have := hT.out.len; have := (Nd.fit_items hwf.out hR.out).2; omega)
      clear hin5 hall5
      go_wp2_with fail
      refine hlst.mono ?_
      rintro e w6 ⟨v6, rfl, hs6, hb6⟩
      have hen := nest_Encode_any (fun q => q < w6.heap.size) v6 (.inr (Nd.items x)) w6 (hs6.move _ _ _ (fun q h1 h2 => ⟨h2, rfl⟩) (Nat.le_refl _)) (fun q h => h) hfe.out.1 (by have := hfe.out.2; unfold Nd.enc at this; omega)
      have hbw6 := Lib.hid (hT.out.bel.trans (hb6.mono hT1))
      clear hlst hs6 hb6
      go_wp2_with fail
      refine hen.mono ?_
      rintro e w7 ⟨A7, m7, c7, rfl, hN7⟩
      clear hen
      have hbw7 := hbw6.out.trans (hN7.2.2.mono hbw6.out.size)
      replace hN7 := Lib.hid hN7
      replace hbw7 := Lib.hid hbw7
      go_wp2_with fail
      go_ret2
      exact ⟨A7, m7, c7, rfl, hN7.out.1, (Own.of_row hN7.out.2.1).less hbw6.out.size, hbw7.out⟩
    · obtain ⟨hpl, hpr, _, _, _, hrr, _⟩ := Nd.right_ext hR.out hk
      have hits : Nd.items x = [Ns.tx ((Nib.pack x.path false).getD []), Nd.itOf x.child] := by unfold Nd.items; rw [if_neg (by omega), if_pos hk]
      have hple := Nd.pack_le x.path false hpl hpr
      have hpk := nib_Pack x.path false Ap np cp w.heap.size w1 (hpB.out.below hF1.out.bel) hF1.out.bel.size (by omega)
      generalize (Nib.pack x.path false).getD [] = pl at *
      generalize Nib.packE x.path = pE at *
      rw [hk] at c0
      replace hits := Lib.hid hits
      replace hk := Lib.hid hk
      replace hpr := Lib.hid hpr
      go_wp2_with fail
      refine hpk.mono ?_
      rintro e w2 ⟨A1, m1, c1', rfl, hN1⟩
      have hF2 := hF1.out.step hcd.out hN1.2.2
      clear hpk hF1 c0 c1 c2 c37 hch
      have k2 : w2.rangeAt w.heap.size 3 (refCells x.child.kind x.child.dig Ac nc cc) := hF2.ch
      have hbs := hF2.bel.size
      have hbl := hF2.blk.lt
      have htx1 := nest_Text A1 m1 c1' pl w2.drew (hN1.bytes.drew) (by omega)
      have htx2 : ∀ w3, Below w2.drew.heap.size w2.drew w3 → Calls Try.prog 21 #[.agg (refRow x.child.kind x.child.dig Ac nc cc)] w3 (ItmQ x.child w3) := fun w3 hb => node_item S _ x.child w3 (hcR.out.move (fun q h1 h2 => ⟨h1, (hb.block q (show q < w2.heap.size by omega)).trans (hF2.bel.block q h2)⟩) (Nat.le_trans hbs hb.size)) (fun q h => by have := hSh.out q h; have : w2.heap.size ≤ w3.heap.size := hb.size; omega) hrr
      have hbw2 : Below w.heap.size w w2.drew := hF2.bel.drew
      replace htx1 := Lib.hid htx1
      replace htx2 := Lib.hid htx2
      replace hF2 := Lib.hid hF2
      replace hN1 := Lib.hid hN1
      replace hbw2 := Lib.hid hbw2
      go_wp2_with fail
      refine wp_region_held_drew (S := (fun W => W.rangeAt w.heap.size 3 (refCells x.child.kind x.child.dig Ac nc cc))) (by kernel_rfl) (by exact k2) (fun hS => ?_)
      (refine hTake (i := 0) (v := ?v5) rfl (by kernel_rfl) (by kernel_rfl) (by kernel_rfl) (fun _ _ _ h => h) (Or.inl ⟨by rfl, ?y5⟩) hS ?r5; (case y5 => (intro W hW; (go_simp); (try with_reducible rfl); done)); try simp only [Act.put, List.setIfInBounds_toArray, List.set_cons_zero, List.set_cons_succ])
      (refine hTake (i := 2) (v := ?v6) rfl (by kernel_rfl) (by kernel_rfl) (by kernel_rfl) (fun _ _ _ h => h) (Or.inl ⟨by rfl, ?y6⟩) hS ?r6; (case y6 => (intro W hW; (go_simp); (try with_reducible rfl); done)); try simp only [Act.put, List.setIfInBounds_toArray, List.set_cons_zero, List.set_cons_succ])
      (refine hTake (i := 3) rfl (by kernel_rfl) (by kernel_rfl) (by kernel_rfl) (fun _ _ _ h => h) (yieldsIf_load_mid (by rfl) _ _ rfl _ _ rfl (refCells x.child.kind x.child.dig Ac nc cc) _ (fun W hW => (by exact hW)) Try.underlying26 rfl (by rw [refCells_length hcd.out]; exact info_ref)) hS ?_; try simp only [Act.put, List.setIfInBounds_toArray, List.set_cons_zero, List.set_cons_succ])
      (refine hOne (i := 1) rfl (by kernel_rfl) (fun K hK => ?_))
      rw [if_pos (by rfl)]
      go_simp
      refine htx1.out.mono ?_
      rintro e w3 ⟨A3, m3, c3, rfl, hN3⟩
      have k3 : w3.rangeAt w.heap.size 3 (refCells x.child.kind x.child.dig Ac nc cc) := fun j u hu => (hN3.2.2.cell (p := ⟨w.heap.size, 3 + j, none⟩) hbl).trans (k2 j u hu)
      have hcl2 := htx2.out w3 hN3.2.2
      have hbw3 := hbw2.out.trans (hN3.2.2.mono hbw2.out.size)
      clear htx1 htx2
      replace hN3 := Lib.hid hN3
      replace hbw3 := Lib.hid hbw3
      replace hcl2 := Lib.hid hcl2
      unfold txV
      (refine hK.out _ _ (by exact k3) (fun hS => ?_); clear hK K; try simp only [Act.put, List.setIfInBounds_toArray, List.set_cons_zero, List.set_cons_succ])
      (refine hOne (i := 4) rfl (by kernel_rfl) (fun K hK => ?_))
      rw [if_pos (by rfl)]
      go_simp
      refine hcl2.out.mono ?_
      rintro e w4 ⟨v4, rfl, hs4', hb4⟩
      obtain ⟨p4, q4, z4, rfl, -, hone4⟩ := hs4'.cells
      have k4 : w4.rangeAt w.heap.size 3 (refCells x.child.kind x.child.dig Ac nc cc) := fun j u hu => (hb4.cell (p := ⟨w.heap.size, 3 + j, none⟩) (Nat.lt_of_lt_of_le hbl (show w2.heap.size ≤ w3.heap.size from hN3.out.2.2.size))).trans (k3 j u hu)
      have hbw4 := hbw3.out.trans (hb4.mono hbw3.out.size)
      have hbl4 : w.heap.size < w4.heap.size := Nat.lt_of_lt_of_le hbl (Nat.le_trans (show w2.heap.size ≤ w3.heap.size from hN3.out.2.2.size) hb4.size)
      have hs3 : Sits (fun q => w.heap.size ≤ q) w4 8 (.agg #[.bool false, .slice A3 m3 c3, .slice none 0 0]) (Ns.tx pl) := hN3.out.sits.move _ _ _ (fun q h1 h2 => ⟨Nat.le_trans hbw2.out.size h1, hb4.block q h2⟩) hb4.size
      have hs4 : Sits (fun q => w.heap.size ≤ q) w4 8 (.agg #[p4, q4, z4]) (Nd.itOf x.child) := hs4'.move _ _ _ (fun q h1 h2 => ⟨Nat.le_trans hbw3.out.size h1, rfl⟩) (Nat.le_refl _)
      have hT : EncT w (some ⟨w4.heap.size, 0, none⟩) 2 2 (Nd.items x) (w4.alloc (.cells #[.bool false, .slice A3 m3 c3, .slice none 0 0, p4, q4, z4] 46)) :=
        ⟨by rw [hits.out]; rfl, Nat.le_refl _, by unfold maxLen; omega, by rw [hits.out]; exact items_two hbw4.size hs3 hs4, hbw4.alloc hbw4.size _⟩
      clear hcl2 hs3 hs4 hs4' hb4
      replace hT := Lib.hid hT
      replace hbw4 := Lib.hid hbw4
      (refine hK.out _ _ (by exact k4) (fun hS => ?_); clear hK K; try simp only [Act.put, List.setIfInBounds_toArray, List.set_cons_zero, List.set_cons_succ])
      (refine hOne (i := 5) rfl (by kernel_rfl) (fun K hK => ?_))
      rw [if_pos (by rfl)]
      refine wp_build_two _ rfl (.bool false) (.slice A3 m3 c3) (.slice none 0 0) p4 q4 z4 rfl ?_
      (refine hK.out _ _ (by exact fun j u hu => (World.cell?_alloc_lt w4 _ _ hbl4).trans (k4 j u hu)) (fun hS => ?_); clear hK K; try simp only [Act.put, List.setIfInBounds_toArray, List.set_cons_zero, List.set_cons_succ])
      (refine hTake (i := 6) (v := ?v7) rfl (by kernel_rfl) (by kernel_rfl) (by kernel_rfl) (fun _ _ _ h => h) (Or.inl ⟨by rfl, ?y7⟩) hS ?r7; (case y7 => (intro W hW; (go_simp); (try with_reducible rfl); done)); try simp only [Act.put, List.setIfInBounds_toArray, List.set_cons_zero, List.set_cons_succ])
      refine wpAnyH_done (by kernel_rfl) ?_ _
      go_upto_region 17 with fail
      refine code_at (EncT w (some ⟨w4.heap.size, 0, none⟩) 2 2 (Nd.items x)) hT.out ?_
      generalize w4.heap.size = g4 at *
      clear hT
      intro w5 hT
      replace hT := Lib.hid hT
      have hT1 := hT.out.bel.size
      obtain ⟨vs5, hin5, hall5⟩ := hT.out.its
      have hlst := nest_List 8 (fun q => w.heap.size ≤ q ∧ q < w5.heap.size) _ _ _ vs5 (Nd.items x) w5 (fun q h => h.2) hT.out.len hT.out.le hT.out.lim (hin5.move (fun q h1 h2 => ⟨⟨h1, h2⟩, rfl⟩) (Nat.le_refl _)) (hall5.imp fun v x hx => hx.move _ _ _ (fun q h1 h2 => ⟨⟨h1, h2⟩, rfl⟩) (Nat.le_refl _)) (by have := hT.out.len; have := (Nd.fit_items hwf.out hR.out).2; omega)
      clear hin5 hall5
      go_wp2_with fail
      refine hlst.mono ?_
      rintro e w6 ⟨v6, rfl, hs6, hb6⟩
      have hen := nest_Encode_any (fun q => q < w6.heap.size) v6 (.inr (Nd.items x)) w6 (hs6.move _ _ _ (fun q h1 h2 => ⟨h2, rfl⟩) (Nat.le_refl _)) (fun q h => h) hfe.out.1 (by have := hfe.out.2; unfold Nd.enc at this; omega)
      have hbw6 := Lib.hid (hT.out.bel.trans (hb6.mono hT1))
      clear hlst hs6 hb6
      go_wp2_with fail
      refine hen.mono ?_
      rintro e w7 ⟨A7, m7, c7, rfl, hN7⟩
      clear hen
      have hbw7 := hbw6.out.trans (hN7.2.2.mono hbw6.out.size)
      replace hN7 := Lib.hid hN7
      replace hbw7 := Lib.hid hbw7
      go_wp2_with fail
      go_ret2
      exact ⟨A7, m7, c7, rfl, hN7.out.1, (Own.of_row hN7.out.2.1).less hbw6.out.size, hbw7.out⟩
    · obtain ⟨_, hvl, _, hk16, hrr⟩ := Nd.right_branch hR.out hk
      have hits : Nd.items x = x.kids.map Nd.itOf ++ [Ns.tx x.value] := by unfold Nd.items; rw [if_neg (by omega), if_neg (by omega)]
      have hst : ∀ j (h : j < x.kids.length), (x.kids.take (j + 1)).map Nd.itOf = (x.kids.take j).map Nd.itOf ++ [Nd.itOf x.kids[j]] := by
        intro j h
        rw [List.take_succ_eq_append_getElem h, List.map_append]; rfl
      have h16 : nk = 16 := by rw [hnk.out]; exact hk16
      subst h16
      rw [hk] at c0
      have hsz1 := hF1.out.bel.size
      have hlt1 := hF1.out.blk.lt
      have hstart : ItL (fun _ => False) (w.heap.size + 1) w1 8 none 0 0 [] ((x.kids.take 0).map Nd.itOf) := ItL.start
      replace hits := Lib.hid hits
      replace hst := Lib.hid hst
      replace hk := Lib.hid hk
      replace hk16 := Lib.hid hk16
      replace hrr := Lib.hid hrr
      replace hstart := Lib.hid hstart
      go_wp2_with fail
      clear c0 c1 c2 c37 hch
      go_loopw [4, 21] (fun l i wr => ∃ (k : Nat) (A' : Option Addr) (c' : Nat) (vs' : List Value), k ≤ 16 ∧ i = .int .i64 k ∧ l = .slice A' k c' ∧ ItL (fun _ => False) (w.heap.size + 1) wr 8 A' k c' vs' ((x.kids.take k).map Nd.itOf) ∧ NodF w x.kind Ap np cp Av nv cv x.child.kind x.child.dig Ac nc cc Ak 16 kk wr) (fun _ i _ => 16 - (intOf i).toNat)
      case atStart => exact ⟨0, none, 0, [], by omega, rfl, rfl, hstart.out, hF1.out⟩
      case round =>
        clear hF1 hstart hsz1 hlt1
        obtain ⟨k, A', c', vs', hk', rfl, rfl, hL, hFr⟩ := hrel
        have hbs := hFr.bel.size
        have hbl := hFr.blk.lt
        by_cases hlt : k < 16
        · have hlt' : (k : Int) < 16 := by omega
          have hkl : k < x.kids.length := by rw [hk16.out]; exact hlt
          have hmv : ∀ q, S q → q < w.heap.size → S q ∧ wr.heap[q]? = w.heap[q]? := fun q h1 h2 => ⟨h1, hFr.bel.block q h2⟩
          obtain ⟨g, o, Ar, nr, cr, rfl, hg, hrg, hdl, hri⟩ := refs_in (hin.out.move hmv hbs) (hall.out.imp fun v x hx => hx.move hmv hbs) hnk.out k hkl
          have hrk := hrr.out x.kids[k] (List.getElem_mem hkl)
          have hst1 := Lib.hid (hst.out k hkl)
          generalize x.kids[k] = r at *
          have hcall : ∀ w2, Below wr.heap.size wr w2 → Calls Try.prog 21 #[.agg (refRow r.kind r.dig Ar nr cr)] w2 (ItmQ r w2) := fun w2 hb => node_item (fun q => q < wr.heap.size) _ r w2 (hri.move (fun q h1 h2 => ⟨h1, hb.block q h2⟩) hb.size) (fun q h => by have := hb.size; omega) hrk
          have hrs := ref_stored (wr := wr) (refRow r.kind r.dig Ar nr cr)
          generalize r.kind = rk at *
          generalize r.dig = rd at *
          clear hri hrk hmv
          replace hcall := Lib.hid hcall
          replace hrs := Lib.hid hrs
          replace hL := Lib.hid hL
          replace hFr := Lib.hid hFr
          replace hdl := Lib.hid hdl
          go_wp2_with (first
            | (refine wpList_load_mid rfl 26 _ rfl g (o + k * 34) rfl (refCells rk rd Ar nr cr) _ hrg Try.underlying26 rfl (by rw [refCells_length hdl.out]; exact info_ref) ?_)
            | (refine wpList_load_row rfl 26 _ rfl wr.heap.size rfl _ _ _ _ hI2.out.it Try.underlying26 rfl (by rw [refRow_size hdl.out]; exact info_ref) ?_)
            | (refine wpList_store_row rfl 26 _ _ rfl wr.heap.size (refRow rk rd Ar nr cr) rfl rfl _ _ (Blk.new wr 26 refZ) (by rw [refRow_size hdl.out]; exact info_ref) (by rw [refRow_size hdl.out]; rfl) (refRow_one _ _ _ _ _) ?_; refine list_at (RefS wr _) hrs.out ?_; intro w2 hI2; replace hI2 := Lib.hid hI2)
            | fail)
          refine (hcall.out w2 hI2.out.bel).mono ?_
          rintro e w3 ⟨v3, rfl, hs3, hb3⟩
          obtain ⟨p3, q3, z3, rfl, -, hone3⟩ := hs3.cells
          have hb3r := hI2.out.bel.trans (hb3.mono hI2.out.bel.size)
          have hs3' := hb3r.size
          have how := hL.out.own.lt
          have hL4 := (hL.out.below hb3r).below ((Below.refl _ _).alloc (Nat.le_refl _) (.cells #[p3, q3, z3] 46))
          have hF4 := (hFr.out.step hcd.out hb3r).step hcd.out ((Below.refl _ _).alloc (Nat.le_refl _) (.cells #[p3, q3, z3] 46))
          have hsv : Sits (Apart (fun _ => False) (w.heap.size + 1) (.slice A' k c')) (w3.alloc (.cells #[p3, q3, z3] 46)) 8 (.agg #[p3, q3, z3]) (Nd.itOf r) :=
            hs3.move _ _ _ (fun q h1 h2 => ⟨⟨.inr (by have := hI2.out.bel.size; omega), fun e => by have := (how _ e).2; have := hI2.out.bel.size; omega⟩, Below.heap_alloc w3 _ q h2⟩) (by simp)
          have hgx := Blk.new w3 46 #[p3, q3, z3]
          have hs4 : (w3.alloc (.cells #[p3, q3, z3] 46)).heap.size = w3.heap.size + 1 := by simp
          clear hcall hs3 hb3 hb3r
          replace how := Lib.hid how
          replace hL4 := Lib.hid hL4
          replace hF4 := Lib.hid hF4
          replace hsv := Lib.hid hsv
          replace hs4 := Lib.hid hs4
          go_wp2_with (at_builtin; refine wpList_append_it (v := .agg #[p3, q3, z3]) rfl _ _ rfl hL4.out (fun _ h => h.elim) (by have := hs4.out; omega) rfl rfl (by have := hs4.out; omega) hgx hsv.out (by omega) ?_; intro A5 c5 w5 hL5 hg5)
          have hlow : ∀ q, q ≤ w.heap.size → some q ≠ (Value.slice A' k c').ownBlock := fun q h e => by have := (how.out q e.symm).1; omega
          have hF5 : NodF w x.kind Ap np cp Av nv cv x.child.kind x.child.dig Ac nc cc (some ⟨g, o, none⟩) 16 kk w5 := NodF.of ((hg5.block _ (by have := hs4.out; omega) (hlow _ (Nat.le_refl _))).trans hF4.out.blk) hcd.out (hF4.out.bel.trans ⟨hg5.os, hg5.tape, hg5.output, hg5.size, fun q hq => hg5.block q (by have := hs4.out; omega) (hlow q (by omega))⟩)
          refine ⟨⟨k + 1, A5, c5, _, by omega, by go_num, rfl, by rw [hst1.out]; exact hL5, hF5⟩, ?_⟩
          simp [intOf]; omega
        · obtain rfl : k = 16 := by omega
          have hlt' : ¬ ((16 : Nat) : Int) < 16 := by omega
          have c2 := hFr.c2
          have htk : x.kids.take 16 = x.kids := List.take_of_length_le (by rw [hk16.out]; omega)
          rw [htk] at hL
          have htx := nest_Text Av nv cv x.value wr ((hvB.out.below hFr.bel).more hbs) (by omega)
          have how := hL.own.lt
          replace htx := Lib.hid htx
          replace hL := Lib.hid hL
          replace hFr := Lib.hid hFr
          replace how := Lib.hid how
          clear htk
          go_wp2_with fail
          refine htx.out.mono ?_
          rintro e w3 ⟨A3, m3, c3, rfl, hN3⟩
          have hL4 := (hL.out.below hN3.2.2).below ((Below.refl _ _).alloc (Nat.le_refl _) (.cells #[.bool false, .slice A3 m3 c3, .slice none 0 0] 46))
          have hb4 := (hFr.out.bel.trans (hN3.2.2.mono hbs)).alloc (Nat.le_trans hbs hN3.2.2.size) (.cells #[.bool false, .slice A3 m3 c3, .slice none 0 0] 46)
          have hs3' := hN3.2.2.size
          have hsv : Sits (Apart (fun _ => False) (w.heap.size + 1) (.slice A' 16 c')) (w3.alloc (.cells #[.bool false, .slice A3 m3 c3, .slice none 0 0] 46)) 8 (.agg #[.bool false, .slice A3 m3 c3, .slice none 0 0]) (Ns.tx x.value) :=
            hN3.sits.move _ _ _ (fun q h1 h2 => ⟨⟨.inr (by omega), fun e => by have := (how.out _ e).2; omega⟩, Below.heap_alloc w3 _ q h2⟩) (by simp)
          have hgx := Blk.new w3 46 #[.bool false, .slice A3 m3 c3, .slice none 0 0]
          have hs4 : (w3.alloc (.cells #[.bool false, .slice A3 m3 c3, .slice none 0 0] 46)).heap.size = w3.heap.size + 1 := by simp
          clear htx hN3
          replace hL4 := Lib.hid hL4
          replace hb4 := Lib.hid hb4
          replace hsv := Lib.hid hsv
          replace hs4 := Lib.hid hs4
          unfold txV
          go_upto_region 17 with (at_builtin; refine wpList_append_it (v := .agg #[.bool false, .slice A3 m3 c3, .slice none 0 0]) rfl _ _ rfl hL4.out (fun _ h => h.elim) (by have := hs4.out; omega) rfl rfl (by have := hs4.out; omega) hgx hsv.out (by omega) ?_; intro A5 c5 w4 hL5 hg5; replace hL5 := Lib.hid hL5; replace hg5 := Lib.hid hg5)
          have hlow : ∀ q, q ≤ w.heap.size → some q ≠ (Value.slice A' 16 c').ownBlock := fun q h e => by have := (how.out q e.symm).1; omega
          have hT := encT_of hL5.out (hb4.out.trans ⟨hg5.out.os, hg5.out.tape, hg5.out.output, hg5.out.size, fun q hq => hg5.out.block q (by have := hs4.out; omega) (hlow q (by omega))⟩)
          rw [← hits.out] at hT
          refine code_at (EncT w A5 17 c5 (Nd.items x)) hT ?_
          clear hT
          intro w5 hT
          replace hT := Lib.hid hT
          have hT1 := hT.out.bel.size
          obtain ⟨vs5, hin5, hall5⟩ := hT.out.its
          have hlst := nest_List 8 (fun q => w.heap.size ≤ q ∧ q < w5.heap.size) _ _ _ vs5 (Nd.items x) w5 (fun q h => h.2) hT.out.len hT.out.le hT.out.lim (hin5.move (fun q h1 h2 => ⟨⟨h1, h2⟩, rfl⟩) (Nat.le_refl _)) (hall5.imp fun v x hx => hx.move _ _ _ (fun q h1 h2 => ⟨⟨h1, h2⟩, rfl⟩) (Nat.le_refl _)) (by have := hT.out.len; have := (Nd.fit_items hwf.out hR.out).2; omega)
          clear hin5 hall5
          go_wp2_with fail
          refine hlst.mono ?_
          rintro e w6 ⟨v6, rfl, hs6, hb6⟩
          have hen := nest_Encode_any (fun q => q < w6.heap.size) v6 (.inr (Nd.items x)) w6 (hs6.move _ _ _ (fun q h1 h2 => ⟨h2, rfl⟩) (Nat.le_refl _)) (fun q h => h) hfe.out.1 (by have := hfe.out.2; unfold Nd.enc at this; omega)
          have hbw6 := Lib.hid (hT.out.bel.trans (hb6.mono hT1))
          clear hlst hs6 hb6
          go_wp2_with fail
          refine hen.mono ?_
          rintro e w7 ⟨A7, m7, c7, rfl, hN7⟩
          clear hen
          have hbw7 := hbw6.out.trans (hN7.2.2.mono hbw6.out.size)
          replace hN7 := Lib.hid hN7
          replace hbw7 := Lib.hid hbw7
          go_wp2_with fail
          go_ret2
          exact ⟨A7, m7, c7, rfl, hN7.out.1, (Own.of_row hN7.out.2.1).less hbw6.out.size, hbw7.out⟩
end Go.Proofs.YtahaaeenbahknaaRRRR

/-
  The reference of chapter 5: SameRef.
-/
namespace Go.Proofs.YtahaaeenbahknaaRRRR
open Go.RowKit

theorem rf_eq {k k' : Int} {d d' b b' : List UInt8} : ((⟨k, d, b⟩ : Nd.Rf) = ⟨k', d', b'⟩) ↔ k = k' ∧ d = d' ∧ b = b' := by
  constructor
  · intro h; injection h with h1 h2 h3; exact ⟨h1, h2, h3⟩
  · rintro ⟨rfl, rfl, rfl⟩; rfl
open Classical in
set_option maxHeartbeats 2000000 in
set_option maxRecDepth 100000 in
theorem ref_SameRef (k k' : Int) (d d' b b' : List UInt8) (A A' : Option Addr) (n n' c c' : Nat) (w : World) (hd : d.length = 32) (hd' : d'.length = 32) (h : Bytes w w.heap.size A n c b) (h' : Bytes w w.heap.size A' n' c' b') :
    Calls Try.prog 12 #[.agg (refRow k d A n c), .agg (refRow k' d' A' n' c')] w fun e w' => e = .returned (.bool (decide ((⟨k, d, b⟩ : Nd.Rf) = ⟨k', d', b'⟩))) ∧ Below w.heap.size w w' := by
  have hX : decide ((⟨k, d, b⟩ : Nd.Rf) = ⟨k', d', b'⟩) = decide (k = k' ∧ d = d' ∧ b = b') := by rw [Bool.eq_iff_iff]; simp [rf_eq]
  generalize decide ((⟨k, d, b⟩ : Nd.Rf) = ⟨k', d', b'⟩) = X at *
  have hb1 : Blk ((w.alloc (.cells (refRow k d A n c) 26)).alloc (.cells (refRow k' d' A' n' c') 26)) w.heap.size 26 (refRow k d A n c) := (Blk.new w _ _).alloc _
  have hb2 : Blk ((w.alloc (.cells (refRow k d A n c) 26)).alloc (.cells (refRow k' d' A' n' c') 26)) (w.heap.size + 1) 26 (refRow k' d' A' n' c') := Blk.new' (by simp)
  have hbe := ((Below.refl w.heap.size w).alloc (Nat.le_refl _) (.cells (refRow k d A n c) 26)).alloc (by simp) (.cells (refRow k' d' A' n' c') 26)
  have h1 := (h.below hbe).toStr (P := Try.prog) Try.underlying22 Try.underlying5 9 Try.underlying9
  have h2 := (h'.below hbe).toStr (P := Try.prog) Try.underlying22 Try.underlying5 9 Try.underlying9
  have g0 := (hb1.cell 0).trans refRow_zero
  have g0' := (hb2.cell 0).trans refRow_zero
  have g33 := (hb1.cell 33).trans (refRow_last hd)
  have g33' := (hb2.cell 33).trans (refRow_last hd')
  have hrg := hb1.dig
  have hrg' := hb2.dig
  have heq : ∀ w0 : World, (binOp .eql 24 (.agg (bv d).toArray) (.agg (bv d').toArray)).run Try.prog w0 = .ok (.bool (decide (d = d'))) w0 := run_eql_dig d d' hd hd'
  generalize refRow k d A n c = R at *
  generalize refRow k' d' A' n' c' = R' at *
  have hdl := Lib.hid hd
  have hdl' := Lib.hid hd'
  clear h h' hb1 hb2 hd hd'
  replace hbe := Lib.hid hbe
  replace hX := Lib.hid hX
  go_enter Try.func12, Try.ntmps12
  by_cases hk : k = k'
  · subst hk
    by_cases hdd : d = d'
    · simp only [decide_eq_true hdd] at heq
      replace hdd := Lib.hid hdd
      go_wp2_with (first
        | (refine wpList_mid_g (by rfl) 24 _ rfl w.heap.size 1 rfl (bv d) _ hrg Try.underlying24 rfl (by rw [bv_length, hdl.out]; exact info_digest) ?_)
        | (refine wpList_mid_g (by rfl) 24 _ rfl (w.heap.size + 1) 1 rfl (bv d') _ hrg' Try.underlying24 rfl (by rw [bv_length, hdl'.out]; exact info_digest) ?_)
        | fail)
      go_ret
      exact ⟨ret_bool (by rw [hX.out, Bool.eq_iff_iff]; simp [hdd.out, ByteArray.ext_iff]), hbe.out⟩
    · simp only [decide_eq_false hdd] at heq
      replace hdd := Lib.hid hdd
      go_wp2_with (first
        | (refine wpList_mid_g (by rfl) 24 _ rfl w.heap.size 1 rfl (bv d) _ hrg Try.underlying24 rfl (by rw [bv_length, hdl.out]; exact info_digest) ?_)
        | (refine wpList_mid_g (by rfl) 24 _ rfl (w.heap.size + 1) 1 rfl (bv d') _ hrg' Try.underlying24 rfl (by rw [bv_length, hdl'.out]; exact info_digest) ?_)
        | fail)
      go_ret
      exact ⟨ret_bool (by rw [hX.out, Bool.eq_iff_iff]; simp [hdd.out]), hbe.out⟩
  · go_wp2_with fail
    go_ret
    exact ⟨ret_bool (by rw [hX.out, Bool.eq_iff_iff]; simp [hk]), hbe.out⟩
end Go.Proofs.YtahaaeenbahknaaRRRR

/-
  The reference of chapter 5: Same.
-/
namespace Go.Proofs.YtahaaeenbahknaaRRRR
open Go.RowKit

theorem no_eq {x y : Nd.No} : x = y ↔ x.child = y.child ∧ x.kind = y.kind ∧ x.path = y.path ∧ x.value = y.value ∧ x.kids = y.kids := by
  constructor
  · rintro rfl; exact ⟨rfl, rfl, rfl, rfl, rfl⟩
  · obtain ⟨a, b, c, d, e⟩ := x
    obtain ⟨a', b', c', d', e'⟩ := y
    rintro ⟨h1, h2, h3, h4, h5⟩
    simp only at h1 h2 h3 h4 h5
    rw [h1, h2, h3, h4, h5]
/-- what the round reads -/
structure SamI (g1 g2 : Nat) (s1 s2 : Value) (b1 b2 o1 o2 : Nat) (l1 l2 : List Value) (W : World) : Prop where
  c1 : W.cell? ⟨g1, 37, none⟩ = some s1
  c2 : W.cell? ⟨g2, 37, none⟩ = some s2
  r1 : W.rangeAt b1 o1 l1
  r2 : W.rangeAt b2 o2 l2
theorem SamI.step {g1 g2 : Nat} {s1 s2 : Value} {b1 b2 o1 o2 : Nat} {l1 l2 : List Value} {W W' : World} (h : SamI g1 g2 s1 s2 b1 b2 o1 o2 l1 l2 W) (hb : Below W.heap.size W W') (h1 : g1 < W.heap.size) (h2 : g2 < W.heap.size) (h3 : b1 < W.heap.size) (h4 : b2 < W.heap.size) : SamI g1 g2 s1 s2 b1 b2 o1 o2 l1 l2 W' :=
  ⟨(hb.cell (p := ⟨g1, 37, none⟩) h1).trans h.c1, (hb.cell (p := ⟨g2, 37, none⟩) h2).trans h.c2, fun j u hu => (hb.cell (p := ⟨b1, o1 + j, none⟩) h3).trans (h.r1 j u hu), fun j u hu => (hb.cell (p := ⟨b2, o2 + j, none⟩) h4).trans (h.r2 j u hu)⟩
theorem str_ne {a b : List UInt8} (h : ¬ a = b) : ¬ (({ data := a.toArray } : ByteArray) = { data := b.toArray }) := by
  intro e
  apply h
  have := congrArg ByteArray.data e
  simpa using this
open Classical in
set_option maxHeartbeats 2000000 in
set_option maxRecDepth 100000 in
theorem ref_Same (S S' : Nat → Prop) (v v' : Value) (x y : Nd.No) (w : World) (hx : NodIn S w v x) (hy : NodIn S' w v' y) (hS : ∀ q, S q → q < w.heap.size) (hS' : ∀ q, S' q → q < w.heap.size) :
    Calls Try.prog 11 #[v, v'] w fun e w' => e = .returned (.bool (decide (x = y))) ∧ Below w.heap.size w w' := by
  obtain ⟨Ap, np, cp, Av, nv, cv, Ac, nc, cc, Ak, nk, kk, vs, rfl, hcd, ⟨hp1, hp2, hp3, hp4⟩, ⟨hv1, hv2, hv3, hv4⟩, ⟨hc1, hc2, hc3, hc4⟩, hnk, hkk, hkm, hin, hall⟩ := hx
  obtain ⟨Bp, mp, dp, Bv, mv, dv, Bc, mc, dc, Bk, mk, jk, us, rfl, kcd, ⟨kp1, kp2, kp3, kp4⟩, ⟨kv1, kv2, kv3, kv4⟩, ⟨kc1, kc2, kc3, kc4⟩, knk, kkk, kkm, kin, kall⟩ := hy
  rw [show (nodCells x.kind Ap np cp Av nv cv x.child.kind x.child.dig Ac nc cc Ak nk kk).toArray = nodRow x.kind Ap np cp Av nv cv x.child.kind x.child.dig Ac nc cc Ak nk kk from rfl, show (nodCells y.kind Bp mp dp Bv mv dv y.child.kind y.child.dig Bc mc dc Bk mk jk).toArray = nodRow y.kind Bp mp dp Bv mv dv y.child.kind y.child.dig Bc mc dc Bk mk jk from rfl]
  have hX : decide (x = y) = decide (x.child = y.child ∧ x.kind = y.kind ∧ x.path = y.path ∧ x.value = y.value ∧ x.kids = y.kids) := by rw [Bool.eq_iff_iff]; simp [no_eq]
  generalize decide (x = y) = X at *
  have hF : NodF w x.kind Ap np cp Av nv cv x.child.kind x.child.dig Ac nc cc Ak nk kk ((w.alloc (.cells (nodRow x.kind Ap np cp Av nv cv x.child.kind x.child.dig Ac nc cc Ak nk kk) 29)).alloc (.cells (nodRow y.kind Bp mp dp Bv mv dv y.child.kind y.child.dig Bc mc dc Bk mk jk) 29)) :=
    NodF.of ((Blk.new w _ _).alloc _) hcd (((Below.refl _ _).alloc (Nat.le_refl _) _).alloc (by simp) _)
  have kF : NodF (w.alloc (.cells (nodRow x.kind Ap np cp Av nv cv x.child.kind x.child.dig Ac nc cc Ak nk kk) 29)) y.kind Bp mp dp Bv mv dv y.child.kind y.child.dig Bc mc dc Bk mk jk ((w.alloc (.cells (nodRow x.kind Ap np cp Av nv cv x.child.kind x.child.dig Ac nc cc Ak nk kk) 29)).alloc (.cells (nodRow y.kind Bp mp dp Bv mv dv y.child.kind y.child.dig Bc mc dc Bk mk jk) 29)) :=
    NodF.of (Blk.new _ _ _) kcd ((Below.refl _ _).alloc (Nat.le_refl _) _)
  have hpB : Bytes w w.heap.size Ap np cp x.path := ⟨hp1, hp2, hp3, hp4.reads fun g _ h => h⟩
  have hvB : Bytes w w.heap.size Av nv cv x.value := ⟨hv1, hv2, hv3, hv4.reads fun g _ h => h⟩
  have hcB : Bytes w w.heap.size Ac nc cc x.child.inl := ⟨hc1, hc2, hc3, hc4.reads fun g _ h => h⟩
  have kpB : Bytes w w.heap.size Bp mp dp y.path := ⟨kp1, kp2, kp3, kp4.reads fun g _ h => h⟩
  have kvB : Bytes w w.heap.size Bv mv dv y.value := ⟨kv1, kv2, kv3, kv4.reads fun g _ h => h⟩
  have kcB : Bytes w w.heap.size Bc mc dc y.child.inl := ⟨kc1, kc2, kc3, kc4.reads fun g _ h => h⟩
  clear hp1 hp2 hp3 hp4 hv1 hv2 hv3 hv4 hc1 hc2 hc3 hc4 kp1 kp2 kp3 kp4 kv1 kv2 kv3 kv4 kc1 kc2 kc3 kc4
  have hs0 := hF.bel.size
  have hcall := ref_SameRef x.child.kind y.child.kind x.child.dig y.child.dig x.child.inl y.child.inl Ac Bc nc mc cc dc _ hcd kcd ((hcB.below hF.bel).more hs0) ((kcB.below hF.bel).more hs0)
  rw [show (⟨x.child.kind, x.child.dig, x.child.inl⟩ : Nd.Rf) = x.child from rfl, show (⟨y.child.kind, y.child.dig, y.child.inl⟩ : Nd.Rf) = y.child from rfl] at hcall
  have hch := hF.ch
  have kch := kF.ch
  have hsz0 : (w.alloc (.cells (nodRow x.kind Ap np cp Av nv cv x.child.kind x.child.dig Ac nc cc Ak nk kk) 29)).heap.size = w.heap.size + 1 := by simp
  rw [hsz0] at kch
  have hstep : ∀ w2, Below ((w.alloc (.cells (nodRow x.kind Ap np cp Av nv cv x.child.kind x.child.dig Ac nc cc Ak nk kk) 29)).alloc (.cells (nodRow y.kind Bp mp dp Bv mv dv y.child.kind y.child.dig Bc mc dc Bk mk jk) 29)).heap.size ((w.alloc (.cells (nodRow x.kind Ap np cp Av nv cv x.child.kind x.child.dig Ac nc cc Ak nk kk) 29)).alloc (.cells (nodRow y.kind Bp mp dp Bv mv dv y.child.kind y.child.dig Bc mc dc Bk mk jk) 29)) w2 →
      NodF w x.kind Ap np cp Av nv cv x.child.kind x.child.dig Ac nc cc Ak nk kk w2 ∧ Blk w2 (w.heap.size + 1) 29 (nodRow y.kind Bp mp dp Bv mv dv y.child.kind y.child.dig Bc mc dc Bk mk jk) := fun w2 hb => by
    refine ⟨hF.step hcd hb, ?_⟩
    have := (kF.step kcd hb).blk
    rwa [hsz0] at this
  clear hF kF hsz0 hs0
  replace hstep := Lib.hid hstep
  replace hpB := Lib.hid hpB
  replace hvB := Lib.hid hvB
  replace kpB := Lib.hid kpB
  replace kvB := Lib.hid kvB
  replace hin := Lib.hid hin
  replace hall := Lib.hid hall
  replace kin := Lib.hid kin
  replace kall := Lib.hid kall
  replace hnk := Lib.hid hnk
  replace knk := Lib.hid knk
  replace hX := Lib.hid hX
  replace hcd := Lib.hid hcd
  replace kcd := Lib.hid kcd
  clear hcB kcB hS hS'
  go_enter Try.func11, Try.ntmps11
  go_wp2_with (first
    | (refine wpList_load_mid rfl 26 _ rfl w.heap.size 3 rfl (refCells x.child.kind x.child.dig Ac nc cc) _ hch Try.underlying26 rfl (by rw [refCells_length hcd.out]; exact info_ref) ?_)
    | (refine wpList_load_mid rfl 26 _ rfl (w.heap.size + 1) 3 rfl (refCells y.child.kind y.child.dig Bc mc dc) _ kch Try.underlying26 rfl (by rw [refCells_length kcd.out]; exact info_ref) ?_)
    | fail)
  refine hcall.mono ?_
  rintro e w1 ⟨rfl, hb1⟩
  obtain ⟨hF1, hB1⟩ := hstep.out w1 hb1
  clear hcall hb1 hstep hch kch
  have c0 := hF1.c0
  have c1 := hF1.c1
  have c2 := hF1.c2
  have c37 := hF1.c37
  have k0 : w1.cell? ⟨w.heap.size + 1, 0, none⟩ = some (.int .i64 y.kind) := hB1.cell 0
  have k1 : w1.cell? ⟨w.heap.size + 1, 1, none⟩ = some (.slice Bp mp dp) := hB1.cell 1
  have k2 : w1.cell? ⟨w.heap.size + 1, 2, none⟩ = some (.slice Bv mv dv) := hB1.cell 2
  have k37 : w1.cell? ⟨w.heap.size + 1, 37, none⟩ = some (.slice Bk mk jk) := (hB1.cell 37).trans (nodRow_last kcd.out)
  have t1 := (hpB.out.below hF1.bel).toStr (P := Try.prog) Try.underlying22 Try.underlying5 9 Try.underlying9
  have t2 := (kpB.out.below hF1.bel).toStr (P := Try.prog) Try.underlying22 Try.underlying5 9 Try.underlying9
  have t3 := (hvB.out.below hF1.bel).toStr (P := Try.prog) Try.underlying22 Try.underlying5 9 Try.underlying9
  have t4 := (kvB.out.below hF1.bel).toStr (P := Try.prog) Try.underlying22 Try.underlying5 9 Try.underlying9
  have hbel := Lib.hid hF1.bel
  replace hF1 := Lib.hid hF1
  replace hB1 := Lib.hid hB1
  by_cases hC : ¬ x.child = y.child
  · have hn := Lib.hid (show X = false by rw [hX.out]; simp [hC])
    rw [decide_eq_false hC]
    clear hX
    go_wp2_with fail
    go_ret
    exact ⟨ret_bool hn.out.symm, hbel.out⟩
  replace hC := Classical.not_not.1 hC
  rw [decide_eq_true hC]
  replace hC := Lib.hid hC
  by_cases hK : ¬ x.kind = y.kind
  · have hn := Lib.hid (show X = false by rw [hX.out]; simp [hK])
    clear hX
    go_wp2_with fail
    go_ret
    exact ⟨ret_bool hn.out.symm, hbel.out⟩
  replace hK := Classical.not_not.1 hK
  rw [← hK] at k0
  replace hK := Lib.hid hK
  by_cases hP : ¬ x.path = y.path
  · have hn := Lib.hid (show X = false by rw [hX.out]; simp [hP])
    clear hX
    go_wp2_with fail
    go_ret
    exact ⟨ret_bool hn.out.symm, hbel.out⟩
  replace hP := Classical.not_not.1 hP
  rw [← hP] at t2
  replace hP := Lib.hid hP
  by_cases hV : ¬ x.value = y.value
  · have hn := Lib.hid (show X = false by rw [hX.out]; simp [hV])
    clear hX
    go_wp2_with fail
    go_ret
    exact ⟨ret_bool hn.out.symm, hbel.out⟩
  replace hV := Classical.not_not.1 hV
  rw [← hV] at t4
  replace hV := Lib.hid hV
  by_cases hL : ¬ nk = mk
  · have hn := Lib.hid (show X = false by
      rw [hX.out, decide_eq_false]
      rintro ⟨_, _, _, _, h⟩
      exact hL (by rw [hnk.out, knk.out, h]))
    have hL' : ¬ (nk : Int) = mk := by omega
    clear hX
    go_wp2_with fail
    go_ret
    exact ⟨ret_bool hn.out.symm, hbel.out⟩
  replace hL := Classical.not_not.1 hL
  subst hL
  have hnk63 : (nk : Int) ≤ 9223372036854775807 := by unfold maxLen at hkm; omega
  go_wp2_with fail
  clear c0 c1 c2 c37 k0 k1 k2 k37 t1 t2 t3 t4
  go_loopw [6] (fun i wr => ∃ j : Nat, j ≤ nk ∧ i = .int .i64 j ∧ x.kids.take j = y.kids.take j ∧ NodF w x.kind Ap np cp Av nv cv x.child.kind x.child.dig Ac nc cc Ak nk kk wr ∧ Blk wr (w.heap.size + 1) 29 (nodRow y.kind Bp mp dp Bv mv dv y.child.kind y.child.dig Bc mc dc Bk nk jk)) (fun i _ => nk - (intOf i).toNat)
  case atStart => exact ⟨0, Nat.zero_le _, rfl, rfl, hF1.out, hB1.out⟩
  case round =>
    clear hF1 hB1 hbel
    obtain ⟨j, hj, rfl, hpre, hFr, hBr⟩ := hrel
    have hbs := hFr.bel.size
    have hbl := hBr.lt
    have c37 := hFr.c37
    have k37 : wr.cell? ⟨w.heap.size + 1, 37, none⟩ = some (.slice Bk nk jk) := (hBr.cell 37).trans (nodRow_last kcd.out)
    by_cases hlt : j < nk
    · have hlt' : (j : Int) < nk := by omega
      have hjx : j < x.kids.length := by rw [← hnk.out]; exact hlt
      have hjy : j < y.kids.length := by rw [← knk.out]; exact hlt
      have hmv : ∀ (T : Nat → Prop) q, T q → q < w.heap.size → T q ∧ wr.heap[q]? = w.heap[q]? := fun T q h1 h2 => ⟨h1, hFr.bel.block q h2⟩
      obtain ⟨g1, o1, A1, n1, c1, rfl, hSg1, hg1, hr1, hd1, hby1⟩ := refs_at (hin.out.move (hmv S) hbs) (hall.out.imp fun v x hx => hx.move (hmv S) hbs) hnk.out j hjx
      obtain ⟨g2, o2, A2, n2, c2, rfl, hSg2, hg2, hr2, hd2, hby2⟩ := refs_at (kin.out.move (hmv S') hbs) (kall.out.imp fun v x hx => hx.move (hmv S') hbs) knk.out j hjy
      have hcall := ref_SameRef x.kids[j].kind y.kids[j].kind x.kids[j].dig y.kids[j].dig x.kids[j].inl y.kids[j].inl A1 A2 n1 n2 c1 c2 wr.drew hd1 hd2 hby1.drew hby2.drew
      rw [show (⟨x.kids[j].kind, x.kids[j].dig, x.kids[j].inl⟩ : Nd.Rf) = x.kids[j] from rfl, show (⟨y.kids[j].kind, y.kids[j].dig, y.kids[j].inl⟩ : Nd.Rf) = y.kids[j] from rfl] at hcall
      have htx : x.kids.take (j + 1) = x.kids.take j ++ [x.kids[j]] := List.take_succ_eq_append_getElem hjx
      have hty : y.kids.take (j + 1) = y.kids.take j ++ [y.kids[j]] := List.take_succ_eq_append_getElem hjy
      have hno : ¬ x.kids[j] = y.kids[j] → X = false := fun h => by
        rw [hX.out, decide_eq_false]
        rintro ⟨_, _, _, _, e⟩
        apply h
        have : x.kids[j]? = y.kids[j]? := by rw [e]
        rw [List.getElem?_eq_getElem hjx, List.getElem?_eq_getElem hjy] at this
        injection this
      have hI : SamI w.heap.size (w.heap.size + 1) (.slice (some ⟨g1, o1, none⟩) nk kk) (.slice (some ⟨g2, o2, none⟩) nk jk) g1 g2 (o1 + j * 34) (o2 + j * 34) (refCells x.kids[j].kind x.kids[j].dig A1 n1 c1) (refCells y.kids[j].kind y.kids[j].dig A2 n2 c2) wr := ⟨c37, k37, hr1, hr2⟩
      have hl1 := Lib.hid (refCells_length (k := x.kids[j].kind) (A := A1) (n := n1) (c := c1) hd1)
      have hl2 := Lib.hid (refCells_length (k := y.kids[j].kind) (A := A2) (n := n2) (c := c2) hd2)
      clear hby1 hby2 hr1 hr2 hmv hd1 hd2
      replace hpre := Lib.hid hpre
      replace htx := Lib.hid htx
      replace hty := Lib.hid hty
      replace hno := Lib.hid hno
      replace hI := Lib.hid hI
      replace hFr := Lib.hid hFr
      replace hBr := Lib.hid hBr
      generalize x.kids[j] = rx at *
      generalize y.kids[j] = ry at *
      go_wp2_with fail
      refine wp_region_held_drew (S := (SamI w.heap.size (w.heap.size + 1) (.slice (some ⟨g1, o1, none⟩) nk kk) (.slice (some ⟨g2, o2, none⟩) nk jk) g1 g2 (o1 + j * 34) (o2 + j * 34) (refCells rx.kind rx.dig A1 n1 c1) (refCells ry.kind ry.dig A2 n2 c2))) (by kernel_rfl) (by exact ⟨hI.out.c1, hI.out.c2, hI.out.r1, hI.out.r2⟩) (fun hS => ?_)
      (refine hTake (i := 0) (v := ?v1) rfl (by kernel_rfl) (by kernel_rfl) (by kernel_rfl) (fun _ _ _ h => h) (Or.inl ⟨by rfl, ?y1⟩) hS ?r1; (case y1 => (intro W hW; (go_simp); (try with_reducible rfl); done)); try simp only [Act.put, List.setIfInBounds_toArray, List.set_cons_zero, List.set_cons_succ])
      (refine hTake (i := 1) (v := ?v2) rfl (by kernel_rfl) (by kernel_rfl) (by kernel_rfl) (fun _ _ _ h => h) (Or.inl ⟨by rfl, ?y2⟩) hS ?r2; (case y2 => (intro W hW; ((have g := hW.c1; go_simp)); (try with_reducible rfl); done)); try simp only [Act.put, List.setIfInBounds_toArray, List.set_cons_zero, List.set_cons_succ])
      (refine hTake (i := 2) (v := ?v3) rfl (by kernel_rfl) (by kernel_rfl) (by kernel_rfl) (fun _ _ _ h => h) (Or.inl ⟨by rfl, ?y3⟩) hS ?r3; (case y3 => (intro W hW; (go_simp); (try with_reducible rfl); done)); try simp only [Act.put, List.setIfInBounds_toArray, List.set_cons_zero, List.set_cons_succ])
      (refine hTake (i := 3) (v := ?v4) rfl (by kernel_rfl) (by kernel_rfl) (by kernel_rfl) (fun _ _ _ h => h) (Or.inl ⟨by rfl, ?y4⟩) hS ?r4; (case y4 => (intro W hW; (go_simp); (try with_reducible rfl); done)); try simp only [Act.put, List.setIfInBounds_toArray, List.set_cons_zero, List.set_cons_succ])
      (refine hTake (i := 4) rfl (by kernel_rfl) (by kernel_rfl) (by kernel_rfl) (fun _ _ _ h => h) (yieldsIf_load_mid (by rfl) _ _ rfl _ _ rfl (refCells rx.kind rx.dig A1 n1 c1) _ (fun W hW => (by exact hW.r1)) Try.underlying26 rfl (by rw [hl1.out]; exact info_ref)) hS ?_; try simp only [Act.put, List.setIfInBounds_toArray, List.set_cons_zero, List.set_cons_succ])
      (refine hTake (i := 5) (v := ?v5) rfl (by kernel_rfl) (by kernel_rfl) (by kernel_rfl) (fun _ _ _ h => h) (Or.inl ⟨by rfl, ?y5⟩) hS ?r5; (case y5 => (intro W hW; (go_simp); (try with_reducible rfl); done)); try simp only [Act.put, List.setIfInBounds_toArray, List.set_cons_zero, List.set_cons_succ])
      (refine hTake (i := 6) (v := ?v6) rfl (by kernel_rfl) (by kernel_rfl) (by kernel_rfl) (fun _ _ _ h => h) (Or.inl ⟨by rfl, ?y6⟩) hS ?r6; (case y6 => (intro W hW; ((have g := hW.c2; go_simp)); (try with_reducible rfl); done)); try simp only [Act.put, List.setIfInBounds_toArray, List.set_cons_zero, List.set_cons_succ])
      (refine hTake (i := 7) (v := ?v7) rfl (by kernel_rfl) (by kernel_rfl) (by kernel_rfl) (fun _ _ _ h => h) (Or.inl ⟨by rfl, ?y7⟩) hS ?r7; (case y7 => (intro W hW; (go_simp); (try with_reducible rfl); done)); try simp only [Act.put, List.setIfInBounds_toArray, List.set_cons_zero, List.set_cons_succ])
      (refine hTake (i := 8) (v := ?v8) rfl (by kernel_rfl) (by kernel_rfl) (by kernel_rfl) (fun _ _ _ h => h) (Or.inl ⟨by rfl, ?y8⟩) hS ?r8; (case y8 => (intro W hW; (go_simp); (try with_reducible rfl); done)); try simp only [Act.put, List.setIfInBounds_toArray, List.set_cons_zero, List.set_cons_succ])
      (refine hTake (i := 9) rfl (by kernel_rfl) (by kernel_rfl) (by kernel_rfl) (fun _ _ _ h => h) (yieldsIf_load_mid (by rfl) _ _ rfl _ _ rfl (refCells ry.kind ry.dig A2 n2 c2) _ (fun W hW => (by exact hW.r2)) Try.underlying26 rfl (by rw [hl2.out]; exact info_ref)) hS ?_; try simp only [Act.put, List.setIfInBounds_toArray, List.set_cons_zero, List.set_cons_succ])
      (refine hOne (i := 10) rfl (by kernel_rfl) (fun K hK => ?_))
      rw [if_pos (by rfl)]
      go_simp
      refine hcall.mono ?_
      rintro e w2 ⟨rfl, hb2⟩
      have hI2 := SamI.step hS hb2 (by show w.heap.size < wr.heap.size; omega) hbl hg1 hg2
      have hb2' : Below wr.heap.size wr w2 := ((Below.refl wr.heap.size wr).drew).trans hb2
      have hF2 := hFr.out.step hcd.out hb2'
      have hB2 := hBr.out.below hb2' hbl
      clear hcall hb2 hb2'
      replace hF2 := Lib.hid hF2
      replace hB2 := Lib.hid hB2
      (refine hK.out _ _ (by exact hI2) (fun hS => ?_); clear hK K; try simp only [Act.put, List.setIfInBounds_toArray, List.set_cons_zero, List.set_cons_succ])
      (refine hTake (i := 11) (v := ?v9) rfl (by kernel_rfl) (by kernel_rfl) (by kernel_rfl) (fun _ _ _ h => h) (Or.inl ⟨by rfl, ?y9⟩) hS ?r9; (case y9 => (intro W hW; (go_simp); (try with_reducible rfl); done)); try simp only [Act.put, List.setIfInBounds_toArray, List.set_cons_zero, List.set_cons_succ])
      refine wpAnyH_done (by kernel_rfl) ?_ _
      clear hI2
      by_cases he : ¬ rx = ry
      · have hn := Lib.hid (hno.out he)
        rw [decide_eq_false he]
        clear hno hX
        go_wp2_with fail
        go_ret
        exact ⟨ret_bool hn.out.symm, hF2.out.bel⟩
      · replace he := Classical.not_not.1 he
        rw [decide_eq_true he]
        replace he := Lib.hid he
        go_wp2_with fail
        refine ⟨⟨j + 1, by omega, by go_num, by rw [htx.out, hty.out, hpre.out, he.out], hF2.out, hB2.out⟩, ?_⟩
        simp [intOf]; omega
    · obtain rfl : j = nk := by omega
      have hlt' : ¬ (j : Int) < j := by omega
      have hxk : x.kids.take j = x.kids := List.take_of_length_le (by rw [hnk.out]; exact Nat.le_refl _)
      have hyk : y.kids.take j = y.kids := List.take_of_length_le (by rw [knk.out]; exact Nat.le_refl _)
      have hn := Lib.hid (show X = true by rw [hX.out, decide_eq_true]; exact ⟨hC.out, hK.out, hP.out, hV.out, by rw [← hxk, ← hyk]; exact hpre⟩)
      clear hX hpre hxk hyk
      have hbel := Lib.hid hFr.bel
      replace hFr := Lib.hid hFr
      replace hBr := Lib.hid hBr
      go_wp2_with fail
      go_ret
      exact ⟨ret_bool hn.out.symm, hbel.out⟩
end Go.Proofs.YtahaaeenbahknaaRRRR

/-
  From a law's contract ('it returns true, and what was there is as it was') to its row: any number of arguments, none of them opened for its own sake.
-/
namespace Go.Proofs.YtahaaeenbahknaaRRRR
open Go.RowKit Go.WideShapes Go.ChangeShapes Go.ChangeAt Go.WideElems

/-- what a law's walk shows -/
def PostT (w : World) (e : Ending) (w' : World) : Prop := e = .returned (.bool true) ∧ Below w.heap.size w w'

section
variable {H : Type} {enc : TypeId × Value → H} {P : Program}

theorem trodAll_stays (hl : laidOutB P = true) {W W' : World} (hb : Below W.heap.size W W') {sp : Nat → Bool} :
    ∀ (ts : List TypeId) (vs : List Value) (ds : List (DataW H)) (ps : List MemPlace), DataW.TrodAll enc P W 0 (fun _ => true) true ts vs ds ps →
      (∀ t ∈ ts, P.readableRec t = true ∧ t < P.types.size) → (∀ p ∈ ps, p.block < W.heap.size) → (∀ p ∈ ps, sp p.block = true) → DataW.TrodAll enc P W' 0 sp true ts vs ds ps := by
  intro ts
  induction ts with
  | nil =>
    intro vs ds ps h _ _ _
    obtain ⟨rfl, rfl, rfl⟩ := trodAll_nil h
    rfl
  | cons t ts ih =>
    intro vs ds ps h ht hlt hsp
    obtain ⟨v, vs', d, ds', p, q, rfl, rfl, rfl, h0, h1⟩ := trodAll_cons h
    obtain ⟨hr, hrow⟩ := ht t (List.mem_cons_self ..)
    exact trodAll_cons_mk (Trod_stays hl hr hrow h0 (fun x hx => hb.same (hlt x (List.mem_append_left _ hx))) (fun x hx => hsp x (List.mem_append_left _ hx)))
      (ih vs' ds' q h1 (fun t ht' => ht t (List.mem_cons_of_mem _ ht')) (fun x hx => hlt x (List.mem_append_right _ hx)) (fun x hx => hsp x (List.mem_append_right _ hx)))

theorem law_post {f : Func} {s : ChangeSpec} {W W' : World} {args : Array Value} {ds gs : List (DataW H)} {before : List MemPlace} {tb : TypeId}
    (hW : DataW.Whole enc P f.params.toList s.vars false W args.toList ds gs before) (hvars : s.vars = [])
    (hl : laidOutB P = true) (hts' : (f.params.toList.all fun t => P.readableRec t && decide (t < P.types.size)) = true)
    (hbool : P.underlying tb = some .bool) (hres : f.resultTypes = #[tb])
    (hs1 : (s.fn H (ds ++ gs)).results = [.lit (.bool true)]) (hs2 : (s.fn H (ds ++ gs)).args = ds) (hs3 : (s.fn H (ds ++ gs)).vars = [])
    (hb : Below W.heap.size W W') :
    s.post enc P f false true false false W args (.bool true) W' := by
  have hts : ∀ t ∈ f.params.toList, P.readableRec t = true ∧ t < P.types.size := by
    intro t ht
    have := List.all_eq_true.1 hts' t ht
    simpa [Bool.and_eq_true] using this
  have hlt : ∀ p ∈ before, p.block < W.heap.size := fun p hp => hW.lt p hp
  have hW0 := hW
  obtain ⟨p, q, hA, hV, rfl, _, _⟩ := hW
  rw [hvars] at hV
  have hgq : gs = [] ∧ q = [] := by
    cases gs with
    | nil => exact ⟨rfl, by simpa [DataW.TrodVars] using hV⟩
    | cons a b => simp [DataW.TrodVars] at hV
  obtain ⟨rfl, rfl⟩ := hgq
  have hshut : ∀ (b : Nat) (sp : Nat → Bool) (hd : Bool), DataW.TrodAll enc P W' b sp hd f.resultTypes.toList ((Value.bool true).resultList f.resultTypes.size) (s.fn H (ds ++ [])).results [] := by
    intro b sp hd
    rw [hres, hs1]
    exact trodAll_cons_mk (shut_bool hbool _) trodAll_mk0
  have hargs : ∀ sp : Nat → Bool, (∀ x ∈ p ++ [], sp x.block = true) → DataW.TrodAll enc P W' 0 sp true f.params.toList args.toList (s.fn H (ds ++ [])).args p := by
    intro sp hsp
    rw [hs2]
    exact trodAll_stays hl hb _ _ _ _ hA hts (fun x hx => hlt x (by simpa using hx)) (fun x hx => hsp x (by simpa using hx))
  have hvars' : ∀ sp : Nat → Bool, DataW.TrodVars enc P W' sp s.vars (s.fn H (ds ++ [])).vars [] := by
    intro sp
    rw [hvars, hs3]
    rfl
  refine ⟨ds, [], p ++ [], [], p, [], hW0, hshut _ _ _, hargs _ (fun x hx => by simpa using hlt x hx), hvars' _, World.keptBut_mono (fun x hx => ⟨hx, ?_⟩) (hb.frame (· ∈ p ++ [])), fun h => by cases h⟩
  exact Or.inr (by simpa using hx)

theorem reach_eq : reachBytes = 140737488351232 := by decide
theorem wf_int {x : Int} (h : (Lit.int .i64 x).wf = true) : -9223372036854775808 ≤ x ∧ x ≤ 9223372036854775807 := by
  simpa [Lit.wf, IntKind.min, IntKind.max, IntKind.signed, IntKind.bits] using h
/-- how many elements a datum's slice has -/
def dlen : DataW H → Nat
  | .slice elems _ => elems.length
  | _ => 0

theorem dlen_bulk (d : DataW H) : dlen d ≤ Rows.uptoBulk d := by
  cases d with
  | slice elems spare =>
    have : ∀ l : List (DataW H), l.length ≤ Rows.uptoBulkAll l := by
      intro l
      induction l with
      | nil => simp [Rows.uptoBulkAll]
      | cons x r ih =>
        have : 1 ≤ Rows.uptoBulk x := by
          cases x with
          | lit l => cases l <;> simp [Rows.uptoBulk]
          | _ => simp [Rows.uptoBulk]
        simp only [Rows.uptoBulkAll, List.length_cons]; omega
    have := this elems
    simp only [dlen, Rows.uptoBulk]; omega
  | _ => simp [dlen]
theorem small_all {l : List (DataW H)} (hk : Rows.uptoSmall H l = true) : Rows.uptoBulkAll l ≤ 1048576 := of_decide_eq_true hk

/-- the form's own reach, of an argument that is a slice -/
theorem reach_slice {ts : List TypeId} {ds : List (DataW H)} (h : (DataW.weightsEach P ts ds).all (· ≤ reachBytes) = true) {j : Nat} {t e : TypeId} {d : DataW H} (ht : ts[j]? = some t) (hd : ds[j]? = some d)
    (hu : P.underlying t = some (.slice e)) (hby : P.bytesOf e = 1) : dlen d ≤ 140737488351232 := by
  cases d with
  | slice elems spare =>
    have := sized_slice (P := P) h ht hd hu
    rw [hby] at this
    simp only [dlen]
    have e : reachBytes = 140737488351232 := by decide
    omega
  | _ => simp [dlen]

/-- a byte slice that came in -/
theorem open_bytes {T E : TypeId} {w : World} {base b0 : Nat} {r : Reach} {sp : Nat → Bool} {held : Bool} {v : Value} {d : DataW H} {p : List MemPlace} (hT : P.underlying T = some (.slice E)) (hE : P.underlying E = some (.int .u8)) (hC : P.cellsOf E = 1)
    (hv : Value.okWide P w r b0 T v) (h : DataW.Trod enc P w base sp held T v d p) :
    ∃ A n c l, v = .slice A n c ∧ Bytes w w.heap.size A n c l ∧ n ≤ dlen d := by
  obtain ⟨a0, len, cap, rfl⟩ := okWide_slice hT hv
  obtain ⟨fuel, hf⟩ := h
  rcases open_ints hT hE hC hf with ⟨hcs, hx⟩ | ⟨a, len', cap', zs, hcs, _, hl, hm, hz, hx, hcell, hwz⟩
  · simp only [Value.cells, List.cons.injEq, Value.slice.injEq, and_true] at hcs
    obtain ⟨rfl, rfl, rfl⟩ := hcs
    exact ⟨none, 0, 0, [], rfl, Bytes.none_ _ _ _ (Nat.zero_le _), Nat.zero_le _⟩
  · simp only [Value.cells, List.cons.injEq, Value.slice.injEq, and_true] at hcs
    obtain ⟨rfl, rfl, rfl⟩ := hcs
    have hle : len ≤ zs.length := by rw [hz]; split <;> omega
    have hd : d = .slice (lits .u8 (zs.take len)) (lits .u8 (zs.drop len)) := (Prod.ext_iff.1 hx).1
    have hlen : ((zs.take len).map fun z => UInt8.ofNat z.toNat).length = len := by simp; omega
    refine ⟨some a, len, cap, (zs.take len).map fun z => UInt8.ofNat z.toNat, rfl, ⟨hlen.symm, hl, hm, by rw [bv_length, hlen, Nat.mul_one], fun hp => ?_⟩, ?_⟩
    · obtain ⟨b, off, rfl, hc⟩ := ints_at hcell (by omega)
      have hb : b < w.heap.size := World.block_lt_of_cell? w _ (hc 0 (by omega))
      refine ⟨b, off, rfl, hb, fun j u hu => ?_⟩
      have hj : j < ((zs.take len).map fun z => UInt8.ofNat z.toNat).length := by
        have := (List.getElem?_eq_some_iff.1 hu).1
        rwa [bv_length] at this
      rw [bv_at _ j hj] at hu
      cases hu
      have hj2 : j < zs.length := by omega
      have hj3 : j < (zs.take len).length := by simp; omega
      rw [hc j hj2]
      have hmem : zs[j] ∈ zs := List.getElem_mem hj2
      have hwf := hwz _ hmem
      have hbd : 0 ≤ zs[j] ∧ zs[j] ≤ 255 := by simpa [Lit.wf, IntKind.min, IntKind.max, IntKind.signed, IntKind.bits] using hwf
      simp only [List.getElem_map, List.getElem_take]
      have : (((UInt8.ofNat zs[j].toNat).toNat : Nat) : Int) = zs[j] := by simp; omega
      rw [this]
      simp [List.getD, hj2]
    · rw [hd]
      simp [dlen, lits]; omega
end
end Go.Proofs.YtahaaeenbahknaaRRRR

/-
  A node that is handed in.
-/
namespace Go.Proofs.YtahaaeenbahknaaRRRR
open Go.RowKit Go.WideShapes Go.ChangeShapes Go.ChangeAt Go.WideElems Go.Deep
section
variable {H : Type} {enc : TypeId × Value → H} {w : World} {base : Nat} {sp : Nat → Bool} {hd : Bool} {fuel : Nat} {cs : List Value} {x : DataW H × List MemPlace}
/-- byte slices, by their cells -/
theorem trod_bytes (h : DataW.trod enc Try.prog w base sp hd fuel 22 cs = some x) : ∃ A n c l, cs = [.slice A n c] ∧ Bytes w w.heap.size A n c l := by
  rcases open_ints Try.underlying22 Try.underlying5 (by kernel_rfl) h with ⟨rfl, hx⟩ | ⟨a, len, cap, zs, rfl, _, hl, hm, hz, hx, hcell, hwz⟩
  · exact ⟨none, 0, 0, [], rfl, Bytes.none_ _ _ _ (Nat.zero_le _)⟩
  · have hle : len ≤ zs.length := by rw [hz]; split <;> omega
    have hlen : ((zs.take len).map fun z => UInt8.ofNat z.toNat).length = len := by simp; omega
    refine ⟨some a, len, cap, (zs.take len).map fun z => UInt8.ofNat z.toNat, rfl, ⟨hlen.symm, hl, hm, by rw [bv_length, hlen, Nat.mul_one], fun hp => ?_⟩⟩
    obtain ⟨b, off, rfl, hc⟩ := ints_at hcell (by omega)
    have hb : b < w.heap.size := World.block_lt_of_cell? w _ (hc 0 (by omega))
    refine ⟨b, off, rfl, hb, fun j u hu => ?_⟩
    have hj : j < ((zs.take len).map fun z => UInt8.ofNat z.toNat).length := by
      have := (List.getElem?_eq_some_iff.1 hu).1
      rwa [bv_length] at this
    rw [bv_at _ j hj] at hu
    cases hu
    have hj2 : j < zs.length := by omega
    rw [hc j hj2]
    have hwf := hwz _ (List.getElem_mem hj2)
    have hbd : 0 ≤ zs[j] ∧ zs[j] ≤ 255 := by simpa [Lit.wf, IntKind.min, IntKind.max, IntKind.signed, IntKind.bits] using hwf
    simp only [List.getElem_map, List.getElem_take]
    have : (((UInt8.ofNat zs[j].toNat).toNat : Nat) : Int) = zs[j] := by simp; omega
    rw [this]
    simp [List.getD, hj2]
theorem Bytes.inS {A : Option Addr} {n c : Nat} {l : List UInt8} (h : Bytes w w.heap.size A n c l) : InS (fun q => q < w.heap.size) w 1 A n (bv l) :=
  ⟨h.reads.1, fun hp => by
    obtain ⟨g, o, e, hg, hc⟩ := h.reads.2 hp
    exact ⟨g, o, e, hg, hg, hc⟩⟩
/-- a digest -/
theorem trod_dig (h : DataW.trod enc Try.prog w base sp hd fuel 24 cs = some x) : ∃ d : List UInt8, cs = bv d ∧ d.length = 32 := by
  obtain ⟨xs, m, _, _, hl, _, hi⟩ := DataW.trod_array Try.underlying24 h
  have hl32 : cs.length = 32 := hl
  have hb : ∀ i, i < 32 → ∃ b : UInt8, cs[i]? = some (.int .u8 (b.toNat : Int)) := by
    intro i h32
    have := hi i h32
    have hc1 : Try.prog.cellsOf 5 = 1 := by kernel_rfl
    rw [hc1, Nat.mul_one] at this
    have hxi : ∃ y, xs[i]? = some y := ⟨xs[i]'(by simp_all), List.getElem?_eq_getElem _⟩
    obtain ⟨y, hy⟩ := hxi
    rw [hy] at this
    obtain ⟨n, hn, _, hw⟩ := DataW.trod_int Try.underlying5 this
    have hbd : 0 ≤ n ∧ n ≤ 255 := by simpa [Lit.wf, IntKind.min, IntKind.max, IntKind.signed, IntKind.bits] using hw
    refine ⟨UInt8.ofNat n.toNat, ?_⟩
    have e1 : (((UInt8.ofNat n.toNat).toNat : Nat) : Int) = n := by simp; omega
    rw [e1]
    have e2 : ((cs.drop i).take 1)[0]? = some (.int .u8 n) := by rw [hn]; rfl
    rwa [List.getElem?_take, if_pos (by decide), List.getElem?_drop, Nat.add_zero] at e2
  clear hi h
  have key : ∀ (k : Nat) (l : List Value), l.length = k → (∀ i, i < k → ∃ b : UInt8, l[i]? = some (.int .u8 (b.toNat : Int))) → ∃ d : List UInt8, l = bv d ∧ d.length = k := by
    intro k
    induction k with
    | zero => intro l hl _; exact ⟨[], by rw [List.eq_nil_of_length_eq_zero hl]; rfl, rfl⟩
    | succ k ih =>
      intro l hl hb
      match l, hl with
      | v :: l, hl =>
        obtain ⟨b, hb0⟩ := hb 0 (by omega)
        obtain ⟨d, hd, hk⟩ := ih l (by simpa using hl) (fun i hi => by
          obtain ⟨b, hb⟩ := hb (i + 1) (by omega)
          exact ⟨b, by simpa using hb⟩)
        have hv : v = .int .u8 (b.toNat : Int) := by simpa using hb0
        exact ⟨b :: d, by rw [hd, hv]; rfl, by simp [hk]⟩
  exact key 32 cs hl32 hb
/-- a reference -/
theorem trod_ref (h : DataW.trod enc Try.prog w base sp hd fuel 26 cs = some x) : ∃ (r : Nd.Rf) (A : Option Addr) (n c : Nat), cs = refCells r.kind r.dig A n c ∧ r.dig.length = 32 ∧ Bytes w w.heap.size A n c r.inl := by
  obtain ⟨xs, m, _, _, hl, hxl, hf⟩ := DataW.trod_struct Try.underlying26 h
  have hl34 : cs.length = 34 := hl
  have hx : ∀ i, i < 3 → ∃ y, xs[i]? = some y := fun i hi => ⟨xs[i]'(by simp_all), List.getElem?_eq_getElem _⟩
  obtain ⟨y0, h0⟩ := hx 0 (by omega)
  obtain ⟨y1, h1⟩ := hx 1 (by omega)
  obtain ⟨y2, h2⟩ := hx 2 (by omega)
  have f0 := (hf 0 _ rfl).trans h0
  have f1 := (hf 1 _ rfl).trans h1
  have f2 := (hf 2 _ rfl).trans h2
  obtain ⟨k, hk, _, _⟩ := DataW.trod_int Try.underlying3 f0
  obtain ⟨d, hd', hdl⟩ := trod_dig f1
  obtain ⟨A, n, c, l, hb, hB⟩ := trod_bytes f2
  have k0 : cs.take 1 = [.int .i64 k] := hk
  have k1 : (cs.drop 1).take 32 = bv d := hd'
  have k2 : (cs.drop 33).take 1 = [.slice A n c] := hb
  refine ⟨⟨k, d, l⟩, A, n, c, ?_, hdl, hB⟩
  have e1 : cs = cs.take 1 ++ ((cs.drop 1).take 32 ++ (cs.drop 33).take 1) := by
    have a1 : (cs.drop 33).take 1 = cs.drop 33 := List.take_of_length_le (by rw [List.length_drop]; omega)
    have a2 : cs.drop 33 = (cs.drop 1).drop 32 := by rw [List.drop_drop]
    rw [a1, a2, List.take_append_drop, List.take_append_drop]
  rw [e1, k0, k1, k2]
  rfl
/-- references -/
theorem trod_refs (h : DataW.trod enc Try.prog w base sp hd fuel 27 cs = some x) : ∃ (A : Option Addr) (n c : Nat) (vs : List Value) (rs : List Nd.Rf), cs = [.slice A n c] ∧ n = rs.length ∧ n ≤ c ∧ c ≤ maxLen ∧ InS (fun q => q < w.heap.size) w 34 A n (flat vs) ∧ All2 (RefIn (fun q => q < w.heap.size) w) vs rs := by
  rcases open_slice Try.underlying27 h with ⟨rfl, _⟩ | ⟨a, len, cap, m, n, D, Pl, rfl, _, hl, hm, hmm, _, hi⟩
  · exact ⟨none, 0, 0, [], [], rfl, rfl, Nat.le_refl _, Nat.zero_le _, ⟨rfl, fun h => by omega⟩, All2.nil⟩
  · have hlm : len ≤ m := by rw [hmm]; split <;> omega
    have hc34 : Try.prog.cellsOf 26 = 34 := by kernel_rfl
    rw [hc34] at hi
    have hel : ∀ i, i < len → ∃ (r : Nd.Rf) (A : Option Addr) (n c : Nat), (∀ j u, (refCells r.kind r.dig A n c)[j]? = some u → w.cell? (a.add (i * 34 + j)) = some u) ∧ r.dig.length = 32 ∧ Bytes w w.heap.size A n c r.inl := by
      intro i h
      obtain ⟨cs', hcs, ht⟩ := hi i (by omega)
      obtain ⟨r, A, n, c, rfl, hd, hB⟩ := trod_ref ht
      obtain ⟨_, hcl, hat⟩ := World.cells?_some hcs
      refine ⟨r, A, n, c, fun j u hu => ?_, hd, hB⟩
      have hj : j < 34 := by
        have := (List.getElem?_eq_some_iff.1 hu).1
        rwa [refCells_length hd] at this
      have := hat j hj
      rw [hu] at this
      rw [← Go.Deep.add_add]
      exact this
    clear hi hmm
    have key : ∀ k, k ≤ len → ∃ (vs : List Value) (rs : List Nd.Rf), rs.length = k ∧ (flat vs).length = k * 34 ∧ All2 (RefIn (fun q => q < w.heap.size) w) vs rs ∧ (∀ j u, (flat vs)[j]? = some u → w.cell? (a.add j) = some u) := by
      intro k
      induction k with
      | zero => intro _; exact ⟨[], [], rfl, rfl, All2.nil, fun j u hu => by simp [flat] at hu⟩
      | succ k ih =>
        intro hk
        obtain ⟨vs, rs, h1, h2, h3, h4⟩ := ih (by omega)
        obtain ⟨r, A, n, c, hcell, hd, hB⟩ := hel k (by omega)
        have hfl : flat (vs ++ [.agg (refRow r.kind r.dig A n c)]) = flat vs ++ refCells r.kind r.dig A n c := by rw [flat_append, flat_one]; rfl
        refine ⟨vs ++ [.agg (refRow r.kind r.dig A n c)], rs ++ [r], by simp [h1], ?_, h3.snoc ⟨A, n, c, rfl, hd, hB.len, hB.cap, hB.lim, hB.inS⟩, fun j u hu => ?_⟩
        · rw [hfl, List.length_append, h2, refCells_length hd]; omega
        · rw [hfl, List.getElem?_append, h2] at hu
          split at hu
          · exact h4 j u hu
          · have := hcell _ u hu
            rwa [show k * 34 + (j - k * 34) = j by omega] at this
    obtain ⟨vs, rs, h1, h2, h3, h4⟩ := key len (Nat.le_refl _)
    refine ⟨some a, len, cap, vs, rs, rfl, h1.symm, hl, hm, ⟨h2, fun hp => ?_⟩, h3⟩
    have h0 : (flat vs)[0]? = some ((flat vs)[0]'(by omega)) := List.getElem?_eq_getElem _
    have hc0 := h4 0 _ h0
    obtain ⟨g, o, st⟩ := a
    have hst : st = none := by simpa [Addr.add] using World.cell?_spot hc0
    subst hst
    have hb : g < w.heap.size := World.block_lt_of_cell? w _ hc0
    refine ⟨g, o, rfl, hb, hb, fun j u hu => ?_⟩
    rw [← Go.WideShapes.add_plain]
    exact h4 j u hu
/-- a node -/
theorem trod_node (h : DataW.trod enc Try.prog w base sp hd fuel 29 cs = some x) : ∃ y : Nd.No, NodIn (fun q => q < w.heap.size) w (.agg cs.toArray) y := by
  obtain ⟨xs, m, _, _, hl, hxl, hf⟩ := DataW.trod_struct Try.underlying29 h
  have hl38 : cs.length = 38 := hl
  have hx : ∀ i, i < 5 → ∃ y, xs[i]? = some y := fun i hi => ⟨xs[i]'(by simp_all), List.getElem?_eq_getElem _⟩
  obtain ⟨y0, h0⟩ := hx 0 (by omega)
  obtain ⟨y1, h1⟩ := hx 1 (by omega)
  obtain ⟨y2, h2⟩ := hx 2 (by omega)
  obtain ⟨y3, h3⟩ := hx 3 (by omega)
  obtain ⟨y4, h4⟩ := hx 4 (by omega)
  have f0 := (hf 0 _ rfl).trans h0
  have f1 := (hf 1 _ rfl).trans h1
  have f2 := (hf 2 _ rfl).trans h2
  have f3 := (hf 3 _ rfl).trans h3
  have f4 := (hf 4 _ rfl).trans h4
  obtain ⟨k, hk, _, _⟩ := DataW.trod_int Try.underlying3 f0
  obtain ⟨Ap, np, cp, lp, hp, hpB⟩ := trod_bytes f1
  obtain ⟨Av, nv, cv, lv, hv, hvB⟩ := trod_bytes f2
  obtain ⟨r, Ac, nc, cc, hr, hrd, hrB⟩ := trod_ref f3
  obtain ⟨Ak, nk, kk, vs, rs, hks, hn, hkk, hkm, hin, hall⟩ := trod_refs f4
  have k0 : cs.take 1 = [.int .i64 k] := hk
  have k1 : (cs.drop 1).take 1 = [.slice Ap np cp] := hp
  have k2 : (cs.drop 2).take 1 = [.slice Av nv cv] := hv
  have k3 : (cs.drop 3).take 34 = refCells r.kind r.dig Ac nc cc := hr
  have k4 : (cs.drop 37).take 1 = [.slice Ak nk kk] := hks
  have e : cs = nodCells k Ap np cp Av nv cv r.kind r.dig Ac nc cc Ak nk kk := by
    have e1 : cs = cs.take 1 ++ ((cs.drop 1).take 1 ++ ((cs.drop 2).take 1 ++ ((cs.drop 3).take 34 ++ (cs.drop 37).take 1))) := by
      have a1 : (cs.drop 37).take 1 = cs.drop 37 := List.take_of_length_le (by rw [List.length_drop]; omega)
      have a2 : cs.drop 37 = (cs.drop 3).drop 34 := by rw [List.drop_drop]
      have a3 : cs.drop 3 = (cs.drop 2).drop 1 := by rw [List.drop_drop]
      have a4 : cs.drop 2 = (cs.drop 1).drop 1 := by rw [List.drop_drop]
      rw [a1, a2, List.take_append_drop, a3, List.take_append_drop, a4, List.take_append_drop, List.take_append_drop]
    rw [e1, k0, k1, k2, k3, k4]
    rfl
  subst e
  exact ⟨⟨k, lp, lv, r, rs⟩, Ap, np, cp, Av, nv, cv, Ac, nc, cc, Ak, nk, kk, vs, rfl, hrd, ⟨hpB.len, hpB.cap, hpB.lim, hpB.inS⟩, ⟨hvB.len, hvB.cap, hvB.lim, hvB.inS⟩, ⟨hrB.len, hrB.cap, hrB.lim, hrB.inS⟩, hn, hkk, hkm, hin, hall⟩
end
/-- a node that is handed in -/
theorem open_node {H : Type} {enc : TypeId × Value → H} {W : World} {base : Nat} {sp : Nat → Bool} {hd : Bool} {v : Value} {d : DataW H} {p : List MemPlace} (hv : Value.okWide Try.prog W .any base 29 v) (h : DataW.Trod enc Try.prog W 0 sp hd 29 v d p) :
    ∃ x : Nd.No, NodIn (fun q => q < W.heap.size) W v x := by
  obtain ⟨cs, rfl, _⟩ := okWide_struct Try.underlying29 hv
  obtain ⟨fuel, hf⟩ := h
  exact trod_node hf
end Go.Proofs.YtahaaeenbahknaaRRRR

/-
  The laws of chapter 05: a node in a variable; alive.
-/
namespace Go.Proofs.YtahaaeenbahknaaRRRR
open Go.RowKit

/-- a node in a variable -/
structure NodV (wr : World) (cs : List Value) (x : Nd.No) (W : World) : Prop where
  it : Blk W wr.heap.size 29 cs.toArray
  nin : NodIn (fun q => q < wr.heap.size) W (.agg cs.toArray) x
  bel : Below wr.heap.size wr W
theorem nodV_stored {S : Nat → Prop} {wr : World} {cs : List Value} {x : Nd.No} (h : NodIn S wr (.agg cs.toArray) x) : NodV wr cs x ((wr.alloc (.cells noZ 29)).setRow wr.heap.size cs.toArray) :=
  have hb : Below wr.heap.size wr ((wr.alloc (.cells noZ 29)).setRow wr.heap.size cs.toArray) := below_row ((Below.refl _ _).alloc (Nat.le_refl _) _) (Nat.le_refl _) _
  ⟨(Blk.new wr 29 noZ).row cs.toArray, h.move (fun q _ h2 => ⟨h2, hb.block q h2⟩) hb.size, hb⟩
theorem nodV_boxed {S : Nat → Prop} {wr : World} {cs : List Value} {x : Nd.No} (h : NodIn S wr (.agg cs.toArray) x) : NodV wr cs x (wr.alloc (.cells cs.toArray 29)) :=
  have hb : Below wr.heap.size wr (wr.alloc (.cells cs.toArray 29)) := (Below.refl _ _).alloc (Nat.le_refl _) _
  ⟨Blk.new wr 29 cs.toArray, h.move (fun q _ h2 => ⟨h2, hb.block q h2⟩) hb.size, hb⟩
theorem NodV.step {wr W W' : World} {cs : List Value} {x : Nd.No} (h : NodV wr cs x W) (hb : Below W.heap.size W W') : NodV wr cs x W' :=
  ⟨h.it.below hb h.it.lt, h.nin.move (fun q h1 h2 => ⟨h1, hb.block q h2⟩) hb.size, h.bel.trans (hb.mono h.bel.size)⟩
theorem NodV.lim {wr W : World} {cs : List Value} {x : Nd.No} (h : NodV wr cs x W) : ∀ q, q < wr.heap.size → q < W.heap.size := fun q hq => Nat.lt_of_lt_of_le hq h.bel.size
/-- Decode's answer, opened -/
theorem NodQ.some_ {b : List UInt8} {x : Nd.No} {w w' : World} {e : Ending} (h : NodQ b w e w') (hx : Nd.dec b = some x) :
    ∃ cs : List Value, e = .returned (.tuple #[.agg cs.toArray, .int .i64 0]) ∧ cs.length = 38 ∧ (cs.toArray.all (·.oneCell') = true) ∧ NodIn (fun q => w.heap.size ≤ q) w' (.agg cs.toArray) x ∧ Below w.heap.size w w' := by
  obtain ⟨hb, hq⟩ := h
  rw [hx] at hq
  obtain ⟨v, rfl, hn⟩ := hq
  obtain ⟨cs, rfl, hl, h1, _⟩ := hn.row
  exact ⟨cs, rfl, hl, by simpa using h1, hn, hb⟩
theorem NodQ.none_ {b : List UInt8} {w w' : World} {e : Ending} (h : NodQ b w e w') (hx : Nd.dec b = none) : e = .returned (.tuple #[.agg noZ, .int .i64 50]) ∧ Below w.heap.size w w' := by
  obtain ⟨hb, hq⟩ := h
  rw [hx] at hq
  exact ⟨hq, hb⟩

def aliveX : Nd.No := ⟨1, [1, 2], [5], Nd.rf0, []⟩
theorem alive05_enc : Nd.enc aliveX = [196, 130, 32, 18, 5] := by kernel_rfl
theorem alive05_right : Nd.right Nd.dec aliveX = true := by kernel_rfl
theorem alive05_dec : Nd.dec [194, 32, 5] = some ⟨1, [], [5], Nd.rf0, []⟩ := by kernel_rfl
theorem alive05_in (w : World) : NodIn (fun q => q < w.heap.size + 2) ((w.alloc (.cells #[.int .u8 1, .int .u8 2] 5)).alloc (.cells #[.int .u8 5] 5))
    (.agg (nodRow 1 (some ⟨w.heap.size, 0, none⟩) 2 2 (some ⟨w.heap.size + 1, 0, none⟩) 1 1 0 Nd.z32 none 0 0 none 0 0)) aliveX := by
  have h1 := (Bytes.lit (n := 2) w #[.int .u8 1, .int .u8 2] [1, 2] 5 rfl (by unfold maxLen; simp) rfl).alloc (by simp) (.cells #[.int .u8 5] 5)
  have h2 := Bytes.lit' (n := 1) (g := w.heap.size + 1) (w.alloc (.cells #[.int .u8 1, .int .u8 2] 5)) #[.int .u8 5] [5] 5 (by simp) rfl (by unfold maxLen; simp) rfl
  have hs : ((w.alloc (.cells #[.int .u8 1, .int .u8 2] 5)).alloc (.cells #[.int .u8 5] 5)).heap.size = w.heap.size + 2 := by simp
  refine ⟨_, 2, 2, _, 1, 1, none, 0, 0, none, 0, 0, [], rfl, rfl, ⟨rfl, Nat.le_refl _, by unfold maxLen; omega, ?_⟩, ⟨rfl, Nat.le_refl _, by unfold maxLen; omega, ?_⟩, ⟨rfl, Nat.le_refl _, Nat.zero_le _, ⟨rfl, fun h => by omega⟩⟩, rfl, Nat.le_refl _, Nat.zero_le _, ⟨rfl, fun h => by omega⟩, All2.nil⟩
  · refine ⟨rfl, fun hp => ?_⟩
    obtain ⟨g, o, e, hg, hc⟩ := h1.reads.2 hp
    exact ⟨g, o, e, by omega, by rw [hs]; omega, hc⟩
  · refine ⟨rfl, fun hp => ?_⟩
    obtain ⟨g, o, e, hg, hc⟩ := h2.reads.2 hp
    exact ⟨g, o, e, by omega, by rw [hs]; omega, hc⟩
set_option maxHeartbeats 1000000 in
set_option maxRecDepth 100000 in
theorem law05_alive (w : World) : Calls Try.prog 9 #[] w fun e w' => e = .returned (.bool true) ∧ Below w.heap.size w w' := by
  have hE := node_Encode _ _ aliveX _ (alive05_in w) (by intro q h; simpa using h)
  rw [alive05_right, alive05_enc] at hE
  simp only [if_true] at hE
  have hbe : Below w.heap.size w ((w.alloc (.cells #[.int .u8 1, .int .u8 2] 5)).alloc (.cells #[.int .u8 5] 5)) := ((Below.refl _ _).alloc (Nat.le_refl _) _).alloc (by simp) _
  have hD := fun (w' : World) => node_Decode [194, 32, 5] (some ⟨w'.heap.size, 0, none⟩) 3 3 (w'.alloc (.cells #[.int .u8 194, .int .u8 32, .int .u8 5] 5)) (by
    have := Bytes.lit (n := 3) w' #[.int .u8 194, .int .u8 32, .int .u8 5] [194, 32, 5] 5 rfl (by unfold maxLen; simp) rfl
    exact this.more (by simp))
  replace hD := Lib.hid hD
  replace hbe := Lib.hid hbe
  go_enter Try.func9, Try.ntmps9
  go_wp2_with fail
  refine hE.mono ?_
  rintro e w1 ⟨A1, n1, c1, rfl, hN1⟩
  have hb1 := hbe.out.trans (hN1.2.2.mono hbe.out.size)
  have hby1 := hN1.bytes
  have hb2 := hb1.alloc hb1.size (.cells #[.int .u8 194, .int .u8 32, .int .u8 5] 5)
  have hby2 := (hby1.alloc (Nat.le_refl _) (.cells #[.int .u8 194, .int .u8 32, .int .u8 5] 5)).more (show w1.heap.size ≤ (w1.alloc (.cells #[.int .u8 194, .int .u8 32, .int .u8 5] 5)).heap.size by simp)
  clear hE hN1 hbe hby1 hb1
  replace hb2 := Lib.hid hb2
  replace hby2 := Lib.hid hby2
  go_wp2_with fail
  refine (hD.out w1).mono ?_
  intro e w3 hq
  obtain ⟨cs, rfl, hcl, hone, hnin, hbe3⟩ := hq.some_ alive05_dec
  obtain ⟨Ap, np, cp, Av, nv, cv, Ac, nc, cc, Ak, nk, kk, vs, e1, hcd, ⟨hp1, hp2, hp3, hp4⟩, ⟨hv1, hv2, hv3, hv4⟩, _⟩ := hnin
  injection e1 with e1
  have hvB : Bytes w3 w3.heap.size Av nv cv [5] := ⟨hv1, hv2, hv3, hv4.reads fun g _ h => h⟩
  have hb3 := Lib.hid (hb2.out.trans (hbe3.mono hb2.out.size))
  have hby3 := Lib.hid (hby2.out.step hbe3)
  have hst := Lib.hid (node_stored (wr := w3) cs.toArray)
  have hcs := Lib.hid (show cs.toArray.size = 38 by simp [hcl])
  obtain rfl : np = 0 := hp1
  obtain rfl : nv = 1 := hv1
  clear hq hbe3 hb2 hby2 hcl hD hp2 hp3 hp4 hv2 hv3 hv4
  have g0 : cs.toArray[0]? = some (.int .i64 1) := by rw [e1]; rfl
  have g1 : cs.toArray[1]? = some (.slice Ap 0 cp) := by rw [e1]; rfl
  have g2 : cs.toArray[2]? = some (.slice Av 1 cv) := by rw [e1]; rfl
  replace hone := Lib.hid hone
  clear e1 hcd
  generalize cs.toArray = R at *
  replace hvB := Lib.hid hvB
  replace g0 := Lib.hid g0
  replace g1 := Lib.hid g1
  replace g2 := Lib.hid g2
  go_wp2_with (first
    | (refine wpList_store_row rfl 29 _ _ rfl w3.heap.size R rfl rfl _ _ (Blk.new w3 29 noZ) (by rw [hcs.out]; exact info_node) (by rw [hcs.out]; rfl) hone.out ?_; refine list_at (NodS w3 R) hst.out ?_; intro w4 hI4; have k0 := (hI4.it.cell 0).trans g0.out; have k1 := (hI4.it.cell 1).trans g1.out; have k2 := (hI4.it.cell 2).trans g2.out; have t1 := (hby3.out.step hI4.bel).toStr (P := Try.prog) Try.underlying22 Try.underlying5 9 Try.underlying9; have t2 := (hvB.out.step hI4.bel).toStr (P := Try.prog) Try.underlying22 Try.underlying5 9 Try.underlying9; replace hI4 := Lib.hid hI4)
    | fail)
  go_ret
  exact ⟨rfl, hb3.out.trans (hI4.out.bel.mono hb3.out.size)⟩
end Go.Proofs.YtahaaeenbahknaaRRRR

/-
  The laws of chapter 05: NodeBack, NodeUnlike.
-/
namespace Go.Proofs.YtahaaeenbahknaaRRRR
open Go.RowKit

theorem NodV.range {wr W : World} {cs : List Value} {x : Nd.No} (h : NodV wr cs x W) : W.rangeAt wr.heap.size 0 cs := by
  intro j u hu
  rw [Nat.zero_add, h.it.cell j, List.getElem?_toArray]
  exact hu
theorem same_self (S S' : Nat → Prop) (v v' : Value) (x : Nd.No) (w : World) (hx : NodIn S w v x) (hy : NodIn S' w v' x) (hS : ∀ q, S q → q < w.heap.size) (hS' : ∀ q, S' q → q < w.heap.size) :
    Calls Try.prog 11 #[v, v'] w fun e w' => e = .returned (.bool true) ∧ Below w.heap.size w w' := by
  have h := ref_Same S S' v v' x x w hx hy hS hS'
  simpa using h
open Classical in
theorem same_is (S S' : Nat → Prop) (v v' : Value) (x y : Nd.No) (w : World) (hx : NodIn S w v x) (hy : NodIn S' w v' y) (hS : ∀ q, S q → q < w.heap.size) (hS' : ∀ q, S' q → q < w.heap.size) (b : Bool) (hb : b = true ↔ x = y) :
    Calls Try.prog 11 #[v, v'] w fun e w' => e = .returned (.bool b) ∧ Below w.heap.size w w' := by
  have h := ref_Same S S' v v' x y w hx hy hS hS'
  rwa [show decide (x = y) = b by rw [Bool.eq_iff_iff, hb]; simp] at h
set_option maxHeartbeats 1000000 in
set_option maxRecDepth 100000 in
theorem law_NodeBack (v : Value) (x : Nd.No) (w : World) (hv : NodIn (fun q => q < w.heap.size) w v x) : Calls Try.prog 3 #[v] w (PostT w) := by
  obtain ⟨cs, rfl, hcl, hone, -⟩ := hv.row
  have hV := Lib.hid (nodV_boxed hv)
  have hwf := Lib.hid hv.wf
  have hcs := Lib.hid (show cs.toArray.size = 38 by simp [hcl])
  have hR := node_Right _ _ x _ hV.out.nin hV.out.lim (fun r _ _ => node_Decode r.inl)
  have hE := fun (W : World) (h : NodV w cs x W) => node_Encode _ _ x W h.nin h.lim
  have hS := fun (W : World) (h : NodV w cs x W) (S' : Nat → Prop) (v' : Value) (h' : NodIn S' W v' x) (hl : ∀ q, S' q → q < W.heap.size) => same_self _ S' _ v' x W h.nin h' h.lim hl
  replace hS := Lib.hid hS
  replace hcl := Lib.hid hcl
  clear hv hone
  cases hr : Nd.right Nd.dec x with
  | false =>
    rw [hr] at hR hE
    replace hr := Lib.hid hr
    replace hE := Lib.hid hE
    clear hS
    go_enter Try.func3, Try.ntmps3
    go_wp2_with (first
      | (refine wpList_load_row rfl 29 _ rfl w.heap.size rfl _ _ _ _ hV.out.it Try.underlying29 rfl (by rw [hcs.out]; exact info_node) ?_)
      | fail)
    refine hR.mono ?_
    rintro e w1 ⟨rfl, hb1⟩
    have hV1 := Lib.hid (hV.out.step hb1)
    clear hR hb1 hV
    go_wp2_with (first
      | (refine wpList_load_row rfl 29 _ rfl w.heap.size rfl _ _ _ _ hV1.out.it Try.underlying29 rfl (by rw [hcs.out]; exact info_node) ?_)
      | fail)
    refine (hE.out w1 hV1.out).mono ?_
    rintro e w2 ⟨A2, n2, c2, rfl, hn2, -, hb2⟩
    have hV2 := Lib.hid (hV1.out.step hb2)
    obtain rfl : n2 = 0 := by simpa using hn2
    clear hn2
    simp only [Bool.false_eq_true, if_false]
    clear hE hb2 hV1
    go_wp2_with fail
    refine (law05_alive w2).mono ?_
    rintro e w3 ⟨rfl, hb3⟩
    have hV3 := Lib.hid (hV2.out.step hb3)
    clear hb3 hV2
    go_wp2_with fail
    go_ret
    exact ⟨rfl, hV3.out.bel⟩
  | true =>
    have hdec := Lib.hid (Nd.dec_enc hwf.out hr)
    rw [hr] at hR hE
    replace hr := Lib.hid hr
    simp only [if_true] at hE
    generalize Nd.enc x = l at *
    replace hE := Lib.hid hE
    go_enter Try.func3, Try.ntmps3
    go_wp2_with (first
      | (refine wpList_load_row rfl 29 _ rfl w.heap.size rfl _ _ _ _ hV.out.it Try.underlying29 rfl (by rw [hcs.out]; exact info_node) ?_)
      | fail)
    refine hR.mono ?_
    rintro e w1 ⟨rfl, hb1⟩
    have hV1 := Lib.hid (hV.out.step hb1)
    clear hR hb1 hV
    go_wp2_with (first
      | (refine wpList_load_row rfl 29 _ rfl w.heap.size rfl _ _ _ _ hV1.out.it Try.underlying29 rfl (by rw [hcs.out]; exact info_node) ?_)
      | fail)
    refine (hE.out w1 hV1.out).mono ?_
    rintro e w2 ⟨A2, n2, c2, rfl, hN2⟩
    have hV2 := Lib.hid (hV1.out.step hN2.2.2)
    have hby2 := Lib.hid hN2.bytes
    clear hE hN2 hV1
    go_wp2_with fail
    refine (law05_alive w2).mono ?_
    rintro e w3 ⟨rfl, hb3⟩
    have hV3 := Lib.hid (hV2.out.step hb3)
    have hby3 := Lib.hid (hby2.out.step hb3)
    clear hb3 hV2 hby2
    go_wp2_with fail
    refine (node_Decode l A2 n2 c2 w3 hby3.out).mono ?_
    intro e w4 hq
    obtain ⟨cs2, rfl, hcl2, hone2, hnin2, hb4⟩ := hq.some_ hdec.out
    have hV4 := Lib.hid (hV3.out.step hb4)
    have hst := Lib.hid (nodV_stored hnin2)
    have hcs2 := Lib.hid (show cs2.toArray.size = 38 by simp [hcl2])
    replace hone2 := Lib.hid hone2
    replace hcl2 := Lib.hid hcl2
    clear hq hb4 hnin2 hV3 hby3
    go_wp2_with (first
      | (refine wpList_store_row rfl 29 _ _ rfl w4.heap.size cs2.toArray rfl rfl _ _ (Blk.new w4 29 noZ) (by rw [hcs2.out]; exact info_node) (by rw [hcs2.out]; rfl) hone2.out ?_; refine list_at (NodV w4 cs2 x) hst.out ?_; intro w5 hU5; have hV5 := Lib.hid (hV4.out.step hU5.bel); replace hU5 := Lib.hid hU5)
      | (refine wpList_mid_g (by rfl) 29 _ rfl w.heap.size 0 rfl cs _ hV5.out.range Try.underlying29 rfl (by rw [hcl.out]; exact info_node) ?_)
      | (refine wpList_mid_g (by rfl) 29 _ rfl w4.heap.size 0 rfl cs2 _ hU5.out.range Try.underlying29 rfl (by rw [hcl2.out]; exact info_node) ?_)
      | fail)
    refine (hS.out w5 hV5.out _ _ hU5.out.nin hU5.out.lim).mono ?_
    rintro e w6 ⟨rfl, hb6⟩
    have hbe := Lib.hid (hV5.out.step hb6).bel
    clear hb6
    go_wp2_with fail
    go_ret
    exact ⟨rfl, hbe.out⟩
/-- what NodeUnlike's last region reads -/
structure UnlI (w w0 : World) (cs1 cs2 : List Value) (x y : Nd.No) (A1 : Option Addr) (n1 c1 : Nat) (l1 : List UInt8) (A2 : Option Addr) (n2 c2 : Nat) (l2 : List UInt8) (W : World) : Prop where
  v1 : NodV w cs1 x W
  v2 : NodV w0 cs2 y W
  b1 : Bytes W W.heap.size A1 n1 c1 l1
  b2 : Bytes W W.heap.size A2 n2 c2 l2
theorem UnlI.step {w w0 W W' : World} {cs1 cs2 : List Value} {x y : Nd.No} {A1 A2 : Option Addr} {n1 c1 n2 c2 : Nat} {l1 l2 : List UInt8} (h : UnlI w w0 cs1 cs2 x y A1 n1 c1 l1 A2 n2 c2 l2 W) (hb : Below W.heap.size W W') : UnlI w w0 cs1 cs2 x y A1 n1 c1 l1 A2 n2 c2 l2 W' :=
  ⟨h.v1.step hb, h.v2.step hb, h.b1.step hb, h.b2.step hb⟩
set_option maxHeartbeats 2000000 in
set_option maxRecDepth 100000 in
theorem law_NodeUnlike (v v' : Value) (x y : Nd.No) (w : World) (hv : NodIn (fun q => q < w.heap.size) w v x) (hv' : NodIn (fun q => q < w.heap.size) w v' y) : Calls Try.prog 5 #[v, v'] w (PostT w) := by
  obtain ⟨cs, rfl, hcl, hone, -⟩ := hv.row
  obtain ⟨cs', rfl, hcl', hone', -⟩ := hv'.row
  have hs0 : (w.alloc (.cells cs.toArray 29)).heap.size = w.heap.size + 1 := by simp
  have hmv : ∀ q, q < w.heap.size → (w.alloc (.cells cs.toArray 29)).heap[q]? = w.heap[q]? := fun q h => Below.heap_alloc w _ q h
  have hU := nodV_boxed (hv'.move (S' := fun _ => True) (fun q _ h => ⟨trivial, hmv q h⟩) (by omega))
  have hV := (nodV_boxed hv).step ((Below.refl _ _).alloc (Nat.le_refl _) (.cells cs'.toArray 29))
  have hwf := Lib.hid hv.wf
  have hwf' := Lib.hid hv'.wf
  have hcs := Lib.hid (show cs.toArray.size = 38 by simp [hcl])
  have hcs' := Lib.hid (show cs'.toArray.size = 38 by simp [hcl'])
  have hE := fun (W : World) (h : NodV w cs x W) => node_Encode _ _ x W h.nin h.lim
  have hE' := fun (W : World) (h : NodV (w.alloc (.cells cs.toArray 29)) cs' y W) => node_Encode _ _ y W h.nin h.lim
  have hSm := fun (W : World) (h : NodV w cs x W) (h' : NodV (w.alloc (.cells cs.toArray 29)) cs' y W) => same_is _ _ _ _ x y W h.nin h'.nin h.lim h'.lim
  have hit : ∀ W, NodV (w.alloc (.cells cs.toArray 29)) cs' y W → Blk W (w.heap.size + 1) 29 cs'.toArray ∧ W.rangeAt (w.heap.size + 1) 0 cs' := fun W h => by rw [← hs0]; exact ⟨h.it, h.range⟩
  replace hU := Lib.hid hU
  replace hV := Lib.hid hV
  replace hcl := Lib.hid hcl
  replace hcl' := Lib.hid hcl'
  replace hSm := Lib.hid hSm
  replace hit := Lib.hid hit
  clear hv hv' hone hone' hs0 hmv
  cases hr : Nd.right Nd.dec x with
  | false =>
    rw [hr] at hE
    simp only [Bool.false_eq_true, if_false] at hE
    replace hr := Lib.hid hr
    generalize (if Nd.right Nd.dec y = true then Nd.enc y else []) = L2 at hE'
    generalize (if Nd.right Nd.dec y = true then (0 : Int) else 50) = k2 at hE'
    clear hSm
    replace hE := Lib.hid hE
    replace hE' := Lib.hid hE'
    go_enter Try.func5, Try.ntmps5
    go_wp2_with (first
      | (refine wpList_load_row rfl 29 _ rfl w.heap.size rfl _ _ _ _ hV.out.it Try.underlying29 rfl (by rw [hcs.out]; exact info_node) ?_)
      | fail)
    refine (hE.out _ hV.out).mono ?_
    rintro e w2 ⟨A2, n2, c2, rfl, hN2⟩
    have hV2 := Lib.hid (hV.out.step hN2.2.2)
    have hU2 := Lib.hid (hU.out.step hN2.2.2)
    have hby2 := Lib.hid hN2.bytes
    clear hE hN2 hV hU
    go_wp2_with (first
      | (refine wpList_load_row rfl 29 _ rfl (w.heap.size + 1) rfl _ _ _ _ (hit.out _ hU2.out).1 Try.underlying29 rfl (by rw [hcs'.out]; exact info_node) ?_)
      | fail)
    refine (hE'.out _ hU2.out).mono ?_
    rintro e w3 ⟨A3, n3, c3, rfl, hN3⟩
    have hI := UnlI.step ⟨hV2.out.step hN3.2.2, hU2.out.step hN3.2.2, hby2.out.step hN3.2.2, hN3.bytes⟩ ((Below.refl w3.heap.size w3).drew)
    clear hE' hV2 hU2 hN3 hby2
    replace hI := Lib.hid hI
    go_wp2_with fail
    refine wp_region_held_drew (S := (UnlI w (w.alloc (.cells cs.toArray 29)) cs cs' x y A2 n2 c2 [] A3 n3 c3 L2)) (by kernel_rfl) (by exact hI.out) (fun hS => ?_)
    (refine hOne (i := 0) rfl (by kernel_rfl) (fun K hK => ?_))
    rw [if_pos (by rfl)]
    go_simp
    refine (law05_alive _).mono ?_
    rintro e w4 ⟨rfl, hb4⟩
    have hI4 := hI.out.step hb4
    clear hb4 hI
    (refine hK.out _ _ (by exact hI4) (fun hS => ?_); clear hK K; try simp only [Act.put, List.setIfInBounds_toArray, List.set_cons_zero, List.set_cons_succ])
    (refine hTake (i := 1) (v := ?v1) rfl (by kernel_rfl) (by kernel_rfl) (by kernel_rfl) (fun _ _ _ h => h) (Or.inl ⟨by rfl, ?y1⟩) hS ?r1; (case y1 => (intro W hW; (go_simp); (try with_reducible rfl); done)); try simp only [Act.put, List.setIfInBounds_toArray, List.set_cons_zero, List.set_cons_succ])
    (refine hTake (i := 2) (v := ?v2) rfl (by kernel_rfl) (by kernel_rfl) (by kernel_rfl) (fun _ _ _ h => h) (Or.inl ⟨by rfl, ?y2⟩) hS ?r2; (case y2 => (intro W hW; (go_simp); (try with_reducible rfl); done)); try simp only [Act.put, List.setIfInBounds_toArray, List.set_cons_zero, List.set_cons_succ])
    (refine hTake (i := 3) (v := ?v3) rfl (by kernel_rfl) (by kernel_rfl) (by kernel_rfl) (fun _ _ _ h => h) (Or.inl ⟨by rfl, ?y3⟩) hS ?r3; (case y3 => (intro W hW; (go_simp); (try with_reducible rfl); done)); try simp only [Act.put, List.setIfInBounds_toArray, List.set_cons_zero, List.set_cons_succ])
    (refine hTake (i := 4) (v := ?v4) rfl (by kernel_rfl) (by kernel_rfl) (by kernel_rfl) (fun _ _ _ h => h) (Or.inl ⟨by rfl, ?y4⟩) hS ?r4; (case y4 => (intro W hW; (go_simp); (try with_reducible rfl); done)); try simp only [Act.put, List.setIfInBounds_toArray, List.set_cons_zero, List.set_cons_succ])
    (refine hTake (i := 5) (v := undef) rfl (by kernel_rfl) (by kernel_rfl) (by kernel_rfl) (fun _ _ _ h => h) (Or.inr ⟨by rfl, rfl⟩) hS ?_; try simp only [Act.put, List.setIfInBounds_toArray, List.set_cons_zero, List.set_cons_succ])
    (refine hTake (i := 6) (v := undef) rfl (by kernel_rfl) (by kernel_rfl) (by kernel_rfl) (fun _ _ _ h => h) (Or.inr ⟨by rfl, rfl⟩) hS ?_; try simp only [Act.put, List.setIfInBounds_toArray, List.set_cons_zero, List.set_cons_succ])
    (refine hTake (i := 7) (v := ?v5) rfl (by kernel_rfl) (by kernel_rfl) (by kernel_rfl) (fun _ _ _ h => h) (Or.inl ⟨by rfl, ?y5⟩) hS ?r5; (case y5 => (intro W hW; (go_simp); (try with_reducible rfl); done)); try simp only [Act.put, List.setIfInBounds_toArray, List.set_cons_zero, List.set_cons_succ])
    (refine hTake (i := 8) (v := ?v6) rfl (by kernel_rfl) (by kernel_rfl) (by kernel_rfl) (fun _ _ _ h => h) (Or.inl ⟨by rfl, ?y6⟩) hS ?r6; (case y6 => (intro W hW; (go_simp); (try with_reducible rfl); done)); try simp only [Act.put, List.setIfInBounds_toArray, List.set_cons_zero, List.set_cons_succ])
    (refine hTake (i := 9) (v := undef) rfl (by kernel_rfl) (by kernel_rfl) (by kernel_rfl) (fun _ _ _ h => h) (Or.inr ⟨by rfl, rfl⟩) hS ?_; try simp only [Act.put, List.setIfInBounds_toArray, List.set_cons_zero, List.set_cons_succ])
    (refine hTake (i := 10) (v := undef) rfl (by kernel_rfl) (by kernel_rfl) (by kernel_rfl) (fun _ _ _ h => h) (Or.inr ⟨by rfl, rfl⟩) hS ?_; try simp only [Act.put, List.setIfInBounds_toArray, List.set_cons_zero, List.set_cons_succ])
    (refine hTake (i := 11) (v := undef) rfl (by kernel_rfl) (by kernel_rfl) (by kernel_rfl) (fun _ _ _ h => h) (Or.inr ⟨by rfl, rfl⟩) hS ?_; try simp only [Act.put, List.setIfInBounds_toArray, List.set_cons_zero, List.set_cons_succ])
    (refine hTake (i := 12) (v := undef) rfl (by kernel_rfl) (by kernel_rfl) (by kernel_rfl) (fun _ _ _ h => h) (Or.inr ⟨by rfl, rfl⟩) hS ?_; try simp only [Act.put, List.setIfInBounds_toArray, List.set_cons_zero, List.set_cons_succ])
    (refine hTake (i := 13) (v := undef) rfl (by kernel_rfl) (by kernel_rfl) (by kernel_rfl) (fun _ _ _ h => h) (Or.inr ⟨by rfl, rfl⟩) hS ?_; try simp only [Act.put, List.setIfInBounds_toArray, List.set_cons_zero, List.set_cons_succ])
    (refine hTake (i := 14) (v := undef) rfl (by kernel_rfl) (by kernel_rfl) (by kernel_rfl) (fun _ _ _ h => h) (Or.inr ⟨by rfl, rfl⟩) hS ?_; try simp only [Act.put, List.setIfInBounds_toArray, List.set_cons_zero, List.set_cons_succ])
    (refine hTake (i := 15) (v := undef) rfl (by kernel_rfl) (by kernel_rfl) (by kernel_rfl) (fun _ _ _ h => h) (Or.inr ⟨by rfl, rfl⟩) hS ?_; try simp only [Act.put, List.setIfInBounds_toArray, List.set_cons_zero, List.set_cons_succ])
    (refine hTake (i := 16) (v := undef) rfl (by kernel_rfl) (by kernel_rfl) (by kernel_rfl) (fun _ _ _ h => h) (Or.inr ⟨by rfl, rfl⟩) hS ?_; try simp only [Act.put, List.setIfInBounds_toArray, List.set_cons_zero, List.set_cons_succ])
    (refine hTake (i := 17) (v := undef) rfl (by kernel_rfl) (by kernel_rfl) (by kernel_rfl) (fun _ _ _ h => h) (Or.inr ⟨by rfl, rfl⟩) hS ?_; try simp only [Act.put, List.setIfInBounds_toArray, List.set_cons_zero, List.set_cons_succ])
    (refine hTake (i := 18) (v := ?v7) rfl (by kernel_rfl) (by kernel_rfl) (by kernel_rfl) (fun _ _ _ h => h) (Or.inl ⟨by rfl, ?y7⟩) hS ?r7; (case y7 => (intro W hW; (go_simp); (try with_reducible rfl); done)); try simp only [Act.put, List.setIfInBounds_toArray, List.set_cons_zero, List.set_cons_succ])
    (refine hTake (i := 19) (v := ?v8) rfl (by kernel_rfl) (by kernel_rfl) (by kernel_rfl) (fun _ _ _ h => h) (Or.inl ⟨by rfl, ?y8⟩) hS ?r8; (case y8 => (intro W hW; (go_simp); (try with_reducible rfl); done)); try simp only [Act.put, List.setIfInBounds_toArray, List.set_cons_zero, List.set_cons_succ])
    (refine hTake (i := 20) (v := ?v9) rfl (by kernel_rfl) (by kernel_rfl) (by kernel_rfl) (fun _ _ _ h => h) (Or.inl ⟨by rfl, ?y9⟩) hS ?r9; (case y9 => (intro W hW; (go_simp); (try with_reducible rfl); done)); try simp only [Act.put, List.setIfInBounds_toArray, List.set_cons_zero, List.set_cons_succ])
    refine wpAnyH_done (by kernel_rfl) ?_ _
    have hbel := Lib.hid hI4.v1.bel
    clear hI4
    go_wp2_with fail
    go_ret
    exact ⟨rfl, hbel.out⟩
  | true =>
    rw [hr] at hE
    simp only [if_true] at hE
    cases hr' : Nd.right Nd.dec y with
    | false =>
      rw [hr'] at hE'
      simp only [Bool.false_eq_true, if_false] at hE'
      replace hr := Lib.hid hr
      replace hr' := Lib.hid hr'
      generalize Nd.enc x = L1 at *
      clear hSm
      replace hE := Lib.hid hE
      replace hE' := Lib.hid hE'
      go_enter Try.func5, Try.ntmps5
      go_wp2_with (first
        | (refine wpList_load_row rfl 29 _ rfl w.heap.size rfl _ _ _ _ hV.out.it Try.underlying29 rfl (by rw [hcs.out]; exact info_node) ?_)
        | fail)
      refine (hE.out _ hV.out).mono ?_
      rintro e w2 ⟨A2, n2, c2, rfl, hN2⟩
      have hV2 := Lib.hid (hV.out.step hN2.2.2)
      have hU2 := Lib.hid (hU.out.step hN2.2.2)
      have hby2 := Lib.hid hN2.bytes
      clear hE hN2 hV hU
      go_wp2_with (first
        | (refine wpList_load_row rfl 29 _ rfl (w.heap.size + 1) rfl _ _ _ _ (hit.out _ hU2.out).1 Try.underlying29 rfl (by rw [hcs'.out]; exact info_node) ?_)
        | fail)
      refine (hE'.out _ hU2.out).mono ?_
      rintro e w3 ⟨A3, n3, c3, rfl, hN3⟩
      have hI := UnlI.step ⟨hV2.out.step hN3.2.2, hU2.out.step hN3.2.2, hby2.out.step hN3.2.2, hN3.bytes⟩ ((Below.refl w3.heap.size w3).drew)
      clear hE' hV2 hU2 hN3 hby2
      replace hI := Lib.hid hI
      go_wp2_with fail
      refine wp_region_held_drew (S := (UnlI w (w.alloc (.cells cs.toArray 29)) cs cs' x y A2 n2 c2 L1 A3 n3 c3 [])) (by kernel_rfl) (by exact hI.out) (fun hS => ?_)
      (refine hOne (i := 0) rfl (by kernel_rfl) (fun K hK => ?_))
      rw [if_pos (by rfl)]
      go_simp
      refine (law05_alive _).mono ?_
      rintro e w4 ⟨rfl, hb4⟩
      have hI4 := hI.out.step hb4
      clear hb4 hI
      (refine hK.out _ _ (by exact hI4) (fun hS => ?_); clear hK K; try simp only [Act.put, List.setIfInBounds_toArray, List.set_cons_zero, List.set_cons_succ])
      (refine hTake (i := 1) (v := ?v10) rfl (by kernel_rfl) (by kernel_rfl) (by kernel_rfl) (fun _ _ _ h => h) (Or.inl ⟨by rfl, ?y10⟩) hS ?r10; (case y10 => (intro W hW; (go_simp); (try with_reducible rfl); done)); try simp only [Act.put, List.setIfInBounds_toArray, List.set_cons_zero, List.set_cons_succ])
      (refine hTake (i := 2) (v := ?v11) rfl (by kernel_rfl) (by kernel_rfl) (by kernel_rfl) (fun _ _ _ h => h) (Or.inl ⟨by rfl, ?y11⟩) hS ?r11; (case y11 => (intro W hW; (go_simp); (try with_reducible rfl); done)); try simp only [Act.put, List.setIfInBounds_toArray, List.set_cons_zero, List.set_cons_succ])
      (refine hTake (i := 3) (v := ?v12) rfl (by kernel_rfl) (by kernel_rfl) (by kernel_rfl) (fun _ _ _ h => h) (Or.inl ⟨by rfl, ?y12⟩) hS ?r12; (case y12 => (intro W hW; (go_simp); (try with_reducible rfl); done)); try simp only [Act.put, List.setIfInBounds_toArray, List.set_cons_zero, List.set_cons_succ])
      (refine hTake (i := 4) (v := ?v13) rfl (by kernel_rfl) (by kernel_rfl) (by kernel_rfl) (fun _ _ _ h => h) (Or.inl ⟨by rfl, ?y13⟩) hS ?r13; (case y13 => (intro W hW; (go_simp); (try with_reducible rfl); done)); try simp only [Act.put, List.setIfInBounds_toArray, List.set_cons_zero, List.set_cons_succ])
      (refine hTake (i := 5) (v := ?v14) rfl (by kernel_rfl) (by kernel_rfl) (by kernel_rfl) (fun _ _ _ h => h) (Or.inl ⟨by rfl, ?y14⟩) hS ?r14; (case y14 => (intro W hW; (go_simp); (try with_reducible rfl); done)); try simp only [Act.put, List.setIfInBounds_toArray, List.set_cons_zero, List.set_cons_succ])
      (refine hTake (i := 6) (v := ?v15) rfl (by kernel_rfl) (by kernel_rfl) (by kernel_rfl) (fun _ _ _ h => h) (Or.inl ⟨by rfl, ?y15⟩) hS ?r15; (case y15 => (intro W hW; (go_simp); (try with_reducible rfl); done)); try simp only [Act.put, List.setIfInBounds_toArray, List.set_cons_zero, List.set_cons_succ])
      (refine hTake (i := 7) (v := ?v16) rfl (by kernel_rfl) (by kernel_rfl) (by kernel_rfl) (fun _ _ _ h => h) (Or.inl ⟨by rfl, ?y16⟩) hS ?r16; (case y16 => (intro W hW; (go_simp); (try with_reducible rfl); done)); try simp only [Act.put, List.setIfInBounds_toArray, List.set_cons_zero, List.set_cons_succ])
      (refine hTake (i := 8) (v := ?v17) rfl (by kernel_rfl) (by kernel_rfl) (by kernel_rfl) (fun _ _ _ h => h) (Or.inl ⟨by rfl, ?y17⟩) hS ?r17; (case y17 => (intro W hW; (go_simp); (try with_reducible rfl); done)); try simp only [Act.put, List.setIfInBounds_toArray, List.set_cons_zero, List.set_cons_succ])
      (refine hTake (i := 9) (v := undef) rfl (by kernel_rfl) (by kernel_rfl) (by kernel_rfl) (fun _ _ _ h => h) (Or.inr ⟨by rfl, rfl⟩) hS ?_; try simp only [Act.put, List.setIfInBounds_toArray, List.set_cons_zero, List.set_cons_succ])
      (refine hTake (i := 10) (v := undef) rfl (by kernel_rfl) (by kernel_rfl) (by kernel_rfl) (fun _ _ _ h => h) (Or.inr ⟨by rfl, rfl⟩) hS ?_; try simp only [Act.put, List.setIfInBounds_toArray, List.set_cons_zero, List.set_cons_succ])
      (refine hTake (i := 11) (v := undef) rfl (by kernel_rfl) (by kernel_rfl) (by kernel_rfl) (fun _ _ _ h => h) (Or.inr ⟨by rfl, rfl⟩) hS ?_; try simp only [Act.put, List.setIfInBounds_toArray, List.set_cons_zero, List.set_cons_succ])
      (refine hTake (i := 12) (v := undef) rfl (by kernel_rfl) (by kernel_rfl) (by kernel_rfl) (fun _ _ _ h => h) (Or.inr ⟨by rfl, rfl⟩) hS ?_; try simp only [Act.put, List.setIfInBounds_toArray, List.set_cons_zero, List.set_cons_succ])
      (refine hTake (i := 13) (v := undef) rfl (by kernel_rfl) (by kernel_rfl) (by kernel_rfl) (fun _ _ _ h => h) (Or.inr ⟨by rfl, rfl⟩) hS ?_; try simp only [Act.put, List.setIfInBounds_toArray, List.set_cons_zero, List.set_cons_succ])
      (refine hTake (i := 14) (v := undef) rfl (by kernel_rfl) (by kernel_rfl) (by kernel_rfl) (fun _ _ _ h => h) (Or.inr ⟨by rfl, rfl⟩) hS ?_; try simp only [Act.put, List.setIfInBounds_toArray, List.set_cons_zero, List.set_cons_succ])
      (refine hTake (i := 15) (v := undef) rfl (by kernel_rfl) (by kernel_rfl) (by kernel_rfl) (fun _ _ _ h => h) (Or.inr ⟨by rfl, rfl⟩) hS ?_; try simp only [Act.put, List.setIfInBounds_toArray, List.set_cons_zero, List.set_cons_succ])
      (refine hTake (i := 16) (v := undef) rfl (by kernel_rfl) (by kernel_rfl) (by kernel_rfl) (fun _ _ _ h => h) (Or.inr ⟨by rfl, rfl⟩) hS ?_; try simp only [Act.put, List.setIfInBounds_toArray, List.set_cons_zero, List.set_cons_succ])
      (refine hTake (i := 17) (v := undef) rfl (by kernel_rfl) (by kernel_rfl) (by kernel_rfl) (fun _ _ _ h => h) (Or.inr ⟨by rfl, rfl⟩) hS ?_; try simp only [Act.put, List.setIfInBounds_toArray, List.set_cons_zero, List.set_cons_succ])
      (refine hTake (i := 18) (v := ?v18) rfl (by kernel_rfl) (by kernel_rfl) (by kernel_rfl) (fun _ _ _ h => h) (Or.inl ⟨by rfl, ?y18⟩) hS ?r18; (case y18 => (intro W hW; (go_simp); (try with_reducible rfl); done)); try simp only [Act.put, List.setIfInBounds_toArray, List.set_cons_zero, List.set_cons_succ])
      (refine hTake (i := 19) (v := ?v19) rfl (by kernel_rfl) (by kernel_rfl) (by kernel_rfl) (fun _ _ _ h => h) (Or.inl ⟨by rfl, ?y19⟩) hS ?r19; (case y19 => (intro W hW; (go_simp); (try with_reducible rfl); done)); try simp only [Act.put, List.setIfInBounds_toArray, List.set_cons_zero, List.set_cons_succ])
      (refine hTake (i := 20) (v := ?v20) rfl (by kernel_rfl) (by kernel_rfl) (by kernel_rfl) (fun _ _ _ h => h) (Or.inl ⟨by rfl, ?y20⟩) hS ?r20; (case y20 => (intro W hW; (go_simp); (try with_reducible rfl); done)); try simp only [Act.put, List.setIfInBounds_toArray, List.set_cons_zero, List.set_cons_succ])
      refine wpAnyH_done (by kernel_rfl) ?_ _
      have hbel := Lib.hid hI4.v1.bel
      clear hI4
      go_wp2_with fail
      go_ret
      exact ⟨rfl, hbel.out⟩
    | true =>
      rw [hr'] at hE'
      simp only [if_true] at hE'
      have hinj := Nd.enc_inj hwf.out hwf'.out hr hr'
      replace hr := Lib.hid hr
      replace hr' := Lib.hid hr'
      generalize Nd.enc x = L1 at *
      generalize Nd.enc y = L2 at *
      by_cases hL : L1 = L2
      · have hB := Lib.hid (hinj.1 hL)
        subst hL
        clear hinj
        replace hE := Lib.hid hE
        replace hE' := Lib.hid hE'
        go_enter Try.func5, Try.ntmps5
        go_wp2_with (first
          | (refine wpList_load_row rfl 29 _ rfl w.heap.size rfl _ _ _ _ hV.out.it Try.underlying29 rfl (by rw [hcs.out]; exact info_node) ?_)
          | fail)
        refine (hE.out _ hV.out).mono ?_
        rintro e w2 ⟨A2, n2, c2, rfl, hN2⟩
        have hV2 := Lib.hid (hV.out.step hN2.2.2)
        have hU2 := Lib.hid (hU.out.step hN2.2.2)
        have hby2 := Lib.hid hN2.bytes
        clear hE hN2 hV hU
        go_wp2_with (first
          | (refine wpList_load_row rfl 29 _ rfl (w.heap.size + 1) rfl _ _ _ _ (hit.out _ hU2.out).1 Try.underlying29 rfl (by rw [hcs'.out]; exact info_node) ?_)
          | fail)
        refine (hE'.out _ hU2.out).mono ?_
        rintro e w3 ⟨A3, n3, c3, rfl, hN3⟩
        have hI := UnlI.step ⟨hV2.out.step hN3.2.2, hU2.out.step hN3.2.2, hby2.out.step hN3.2.2, hN3.bytes⟩ ((Below.refl w3.heap.size w3).drew)
        clear hE' hV2 hU2 hN3 hby2
        replace hI := Lib.hid hI
        go_wp2_with fail
        refine wp_region_held_drew (S := (UnlI w (w.alloc (.cells cs.toArray 29)) cs cs' x y A2 n2 c2 L1 A3 n3 c3 L1)) (by kernel_rfl) (by exact hI.out) (fun hS => ?_)
        (refine hOne (i := 0) rfl (by kernel_rfl) (fun K hK => ?_))
        rw [if_pos (by rfl)]
        go_simp
        refine (law05_alive _).mono ?_
        rintro e w4 ⟨rfl, hb4⟩
        have hI4 := hI.out.step hb4
        clear hb4 hI
        (refine hK.out _ _ (by exact hI4) (fun hS => ?_); clear hK K; try simp only [Act.put, List.setIfInBounds_toArray, List.set_cons_zero, List.set_cons_succ])
        (refine hTake (i := 1) (v := ?v21) rfl (by kernel_rfl) (by kernel_rfl) (by kernel_rfl) (fun _ _ _ h => h) (Or.inl ⟨by rfl, ?y21⟩) hS ?r21; (case y21 => (intro W hW; (go_simp); (try with_reducible rfl); done)); try simp only [Act.put, List.setIfInBounds_toArray, List.set_cons_zero, List.set_cons_succ])
        (refine hTake (i := 2) (v := ?v22) rfl (by kernel_rfl) (by kernel_rfl) (by kernel_rfl) (fun _ _ _ h => h) (Or.inl ⟨by rfl, ?y22⟩) hS ?r22; (case y22 => (intro W hW; (go_simp); (try with_reducible rfl); done)); try simp only [Act.put, List.setIfInBounds_toArray, List.set_cons_zero, List.set_cons_succ])
        (refine hTake (i := 3) (v := ?v23) rfl (by kernel_rfl) (by kernel_rfl) (by kernel_rfl) (fun _ _ _ h => h) (Or.inl ⟨by rfl, ?y23⟩) hS ?r23; (case y23 => (intro W hW; (go_simp); (try with_reducible rfl); done)); try simp only [Act.put, List.setIfInBounds_toArray, List.set_cons_zero, List.set_cons_succ])
        (refine hTake (i := 4) (v := ?v24) rfl (by kernel_rfl) (by kernel_rfl) (by kernel_rfl) (fun _ _ _ h => h) (Or.inl ⟨by rfl, ?y24⟩) hS ?r24; (case y24 => (intro W hW; (go_simp); (try with_reducible rfl); done)); try simp only [Act.put, List.setIfInBounds_toArray, List.set_cons_zero, List.set_cons_succ])
        (refine hTake (i := 5) (v := ?v25) rfl (by kernel_rfl) (by kernel_rfl) (by kernel_rfl) (fun _ _ _ h => h) (Or.inl ⟨by rfl, ?y25⟩) hS ?r25; (case y25 => (intro W hW; (go_simp); (try with_reducible rfl); done)); try simp only [Act.put, List.setIfInBounds_toArray, List.set_cons_zero, List.set_cons_succ])
        (refine hTake (i := 6) (v := ?v26) rfl (by kernel_rfl) (by kernel_rfl) (by kernel_rfl) (fun _ _ _ h => h) (Or.inl ⟨by rfl, ?y26⟩) hS ?r26; (case y26 => (intro W hW; (go_simp); (try with_reducible rfl); done)); try simp only [Act.put, List.setIfInBounds_toArray, List.set_cons_zero, List.set_cons_succ])
        (refine hTake (i := 7) (v := ?v27) rfl (by kernel_rfl) (by kernel_rfl) (by kernel_rfl) (fun _ _ _ h => h) (Or.inl ⟨by rfl, ?y27⟩) hS ?r27; (case y27 => (intro W hW; (go_simp); (try with_reducible rfl); done)); try simp only [Act.put, List.setIfInBounds_toArray, List.set_cons_zero, List.set_cons_succ])
        (refine hTake (i := 8) (v := ?v28) rfl (by kernel_rfl) (by kernel_rfl) (by kernel_rfl) (fun _ _ _ h => h) (Or.inl ⟨by rfl, ?y28⟩) hS ?r28; (case y28 => (intro W hW; (go_simp); (try with_reducible rfl); done)); try simp only [Act.put, List.setIfInBounds_toArray, List.set_cons_zero, List.set_cons_succ])
        (refine hTake (i := 9) (v := ?v29) rfl (by kernel_rfl) (by kernel_rfl) (by kernel_rfl) (fun _ _ _ h => h) (Or.inl ⟨by rfl, ?y29⟩) hS ?r29; (case y29 => (intro W hW; (go_simp); (try with_reducible rfl); done)); try simp only [Act.put, List.setIfInBounds_toArray, List.set_cons_zero, List.set_cons_succ])
        (refine hTake (i := 10) (v := ?v30) rfl (by kernel_rfl) (by kernel_rfl) (by kernel_rfl) (fun _ _ _ h => h) (Or.inl ⟨by rfl, ?y30⟩) hS ?r30; (case y30 => (intro W hW; ((have g := hW.b1.toStr (P := Try.prog) Try.underlying22 Try.underlying5 9 Try.underlying9; go_simp)); (try with_reducible rfl); done)); try simp only [Act.put, List.setIfInBounds_toArray, List.set_cons_zero, List.set_cons_succ])
        (refine hTake (i := 11) (v := ?v31) rfl (by kernel_rfl) (by kernel_rfl) (by kernel_rfl) (fun _ _ _ h => h) (Or.inl ⟨by rfl, ?y31⟩) hS ?r31; (case y31 => (intro W hW; (go_simp); (try with_reducible rfl); done)); try simp only [Act.put, List.setIfInBounds_toArray, List.set_cons_zero, List.set_cons_succ])
        (refine hTake (i := 12) (v := ?v32) rfl (by kernel_rfl) (by kernel_rfl) (by kernel_rfl) (fun _ _ _ h => h) (Or.inl ⟨by rfl, ?y32⟩) hS ?r32; (case y32 => (intro W hW; ((have g := hW.b2.toStr (P := Try.prog) Try.underlying22 Try.underlying5 9 Try.underlying9; go_simp)); (try with_reducible rfl); done)); try simp only [Act.put, List.setIfInBounds_toArray, List.set_cons_zero, List.set_cons_succ])
        (refine hTake (i := 13) (v := ?v33) rfl (by kernel_rfl) (by kernel_rfl) (by kernel_rfl) (fun _ _ _ h => h) (Or.inl ⟨by rfl, ?y33⟩) hS ?r33; (case y33 => (intro W hW; (go_simp); (try with_reducible rfl); done)); try simp only [Act.put, List.setIfInBounds_toArray, List.set_cons_zero, List.set_cons_succ])
        (refine hTake (i := 14) rfl (by kernel_rfl) (by kernel_rfl) (by kernel_rfl) (fun _ _ _ h => h) (yieldsIf_load_mid (by rfl) _ _ rfl _ _ rfl cs _ (fun W hW => (by exact hW.v1.range)) Try.underlying29 rfl (by rw [hcl.out]; exact info_node)) hS ?_; try simp only [Act.put, List.setIfInBounds_toArray, List.set_cons_zero, List.set_cons_succ])
        (refine hTake (i := 15) rfl (by kernel_rfl) (by kernel_rfl) (by kernel_rfl) (fun _ _ _ h => h) (yieldsIf_load_mid (by rfl) _ _ rfl _ _ rfl cs' _ (fun W hW => (by exact (hit.out _ hW.v2).2)) Try.underlying29 rfl (by rw [hcl'.out]; exact info_node)) hS ?_; try simp only [Act.put, List.setIfInBounds_toArray, List.set_cons_zero, List.set_cons_succ])
        (refine hOne (i := 16) rfl (by kernel_rfl) (fun K hK => ?_))
        rw [if_pos (by rfl)]
        go_simp
        refine (hSm.out _ hI4.v1 hI4.v2 true ⟨fun _ => hB.out, fun _ => rfl⟩).mono ?_
        rintro e w5 ⟨rfl, hb5⟩
        have hI5 := hI4.step hb5
        clear hb5 hI4
        (refine hK.out _ _ (by exact hI5) (fun hS => ?_); clear hK K; try simp only [Act.put, List.setIfInBounds_toArray, List.set_cons_zero, List.set_cons_succ])
        (refine hTake (i := 17) (v := ?v34) rfl (by kernel_rfl) (by kernel_rfl) (by kernel_rfl) (fun _ _ _ h => h) (Or.inl ⟨by rfl, ?y34⟩) hS ?r34; (case y34 => (intro W hW; (go_simp); (try with_reducible rfl); done)); try simp only [Act.put, List.setIfInBounds_toArray, List.set_cons_zero, List.set_cons_succ])
        (refine hTake (i := 18) (v := ?v35) rfl (by kernel_rfl) (by kernel_rfl) (by kernel_rfl) (fun _ _ _ h => h) (Or.inl ⟨by rfl, ?y35⟩) hS ?r35; (case y35 => (intro W hW; (go_simp); (try with_reducible rfl); done)); try simp only [Act.put, List.setIfInBounds_toArray, List.set_cons_zero, List.set_cons_succ])
        (refine hTake (i := 19) (v := ?v36) rfl (by kernel_rfl) (by kernel_rfl) (by kernel_rfl) (fun _ _ _ h => h) (Or.inl ⟨by rfl, ?y36⟩) hS ?r36; (case y36 => (intro W hW; (go_simp); (try with_reducible rfl); done)); try simp only [Act.put, List.setIfInBounds_toArray, List.set_cons_zero, List.set_cons_succ])
        (refine hTake (i := 20) (v := ?v37) rfl (by kernel_rfl) (by kernel_rfl) (by kernel_rfl) (fun _ _ _ h => h) (Or.inl ⟨by rfl, ?y37⟩) hS ?r37; (case y37 => (intro W hW; (go_simp); (try with_reducible rfl); done)); try simp only [Act.put, List.setIfInBounds_toArray, List.set_cons_zero, List.set_cons_succ])
        refine wpAnyH_done (by kernel_rfl) ?_ _
        have hbel := Lib.hid hI5.v1.bel
        clear hI5
        go_wp2_with fail
        go_ret
        exact ⟨rfl, hbel.out⟩
      · have hB := Lib.hid (show ¬ x = y from fun h => hL (hinj.2 h))
        have hne := str_ne hL
        clear hinj
        replace hL := Lib.hid hL
        replace hE := Lib.hid hE
        replace hE' := Lib.hid hE'
        go_enter Try.func5, Try.ntmps5
        go_wp2_with (first
          | (refine wpList_load_row rfl 29 _ rfl w.heap.size rfl _ _ _ _ hV.out.it Try.underlying29 rfl (by rw [hcs.out]; exact info_node) ?_)
          | fail)
        refine (hE.out _ hV.out).mono ?_
        rintro e w2 ⟨A2, n2, c2, rfl, hN2⟩
        have hV2 := Lib.hid (hV.out.step hN2.2.2)
        have hU2 := Lib.hid (hU.out.step hN2.2.2)
        have hby2 := Lib.hid hN2.bytes
        clear hE hN2 hV hU
        go_wp2_with (first
          | (refine wpList_load_row rfl 29 _ rfl (w.heap.size + 1) rfl _ _ _ _ (hit.out _ hU2.out).1 Try.underlying29 rfl (by rw [hcs'.out]; exact info_node) ?_)
          | fail)
        refine (hE'.out _ hU2.out).mono ?_
        rintro e w3 ⟨A3, n3, c3, rfl, hN3⟩
        have hI := UnlI.step ⟨hV2.out.step hN3.2.2, hU2.out.step hN3.2.2, hby2.out.step hN3.2.2, hN3.bytes⟩ ((Below.refl w3.heap.size w3).drew)
        clear hE' hV2 hU2 hN3 hby2
        replace hI := Lib.hid hI
        go_wp2_with fail
        refine wp_region_held_drew (S := (UnlI w (w.alloc (.cells cs.toArray 29)) cs cs' x y A2 n2 c2 L1 A3 n3 c3 L2)) (by kernel_rfl) (by exact hI.out) (fun hS => ?_)
        (refine hOne (i := 0) rfl (by kernel_rfl) (fun K hK => ?_))
        rw [if_pos (by rfl)]
        go_simp
        refine (law05_alive _).mono ?_
        rintro e w4 ⟨rfl, hb4⟩
        have hI4 := hI.out.step hb4
        clear hb4 hI
        (refine hK.out _ _ (by exact hI4) (fun hS => ?_); clear hK K; try simp only [Act.put, List.setIfInBounds_toArray, List.set_cons_zero, List.set_cons_succ])
        (refine hTake (i := 1) (v := ?v38) rfl (by kernel_rfl) (by kernel_rfl) (by kernel_rfl) (fun _ _ _ h => h) (Or.inl ⟨by rfl, ?y38⟩) hS ?r38; (case y38 => (intro W hW; (go_simp); (try with_reducible rfl); done)); try simp only [Act.put, List.setIfInBounds_toArray, List.set_cons_zero, List.set_cons_succ])
        (refine hTake (i := 2) (v := ?v39) rfl (by kernel_rfl) (by kernel_rfl) (by kernel_rfl) (fun _ _ _ h => h) (Or.inl ⟨by rfl, ?y39⟩) hS ?r39; (case y39 => (intro W hW; (go_simp); (try with_reducible rfl); done)); try simp only [Act.put, List.setIfInBounds_toArray, List.set_cons_zero, List.set_cons_succ])
        (refine hTake (i := 3) (v := ?v40) rfl (by kernel_rfl) (by kernel_rfl) (by kernel_rfl) (fun _ _ _ h => h) (Or.inl ⟨by rfl, ?y40⟩) hS ?r40; (case y40 => (intro W hW; (go_simp); (try with_reducible rfl); done)); try simp only [Act.put, List.setIfInBounds_toArray, List.set_cons_zero, List.set_cons_succ])
        (refine hTake (i := 4) (v := ?v41) rfl (by kernel_rfl) (by kernel_rfl) (by kernel_rfl) (fun _ _ _ h => h) (Or.inl ⟨by rfl, ?y41⟩) hS ?r41; (case y41 => (intro W hW; (go_simp); (try with_reducible rfl); done)); try simp only [Act.put, List.setIfInBounds_toArray, List.set_cons_zero, List.set_cons_succ])
        (refine hTake (i := 5) (v := ?v42) rfl (by kernel_rfl) (by kernel_rfl) (by kernel_rfl) (fun _ _ _ h => h) (Or.inl ⟨by rfl, ?y42⟩) hS ?r42; (case y42 => (intro W hW; (go_simp); (try with_reducible rfl); done)); try simp only [Act.put, List.setIfInBounds_toArray, List.set_cons_zero, List.set_cons_succ])
        (refine hTake (i := 6) (v := ?v43) rfl (by kernel_rfl) (by kernel_rfl) (by kernel_rfl) (fun _ _ _ h => h) (Or.inl ⟨by rfl, ?y43⟩) hS ?r43; (case y43 => (intro W hW; (go_simp); (try with_reducible rfl); done)); try simp only [Act.put, List.setIfInBounds_toArray, List.set_cons_zero, List.set_cons_succ])
        (refine hTake (i := 7) (v := ?v44) rfl (by kernel_rfl) (by kernel_rfl) (by kernel_rfl) (fun _ _ _ h => h) (Or.inl ⟨by rfl, ?y44⟩) hS ?r44; (case y44 => (intro W hW; (go_simp); (try with_reducible rfl); done)); try simp only [Act.put, List.setIfInBounds_toArray, List.set_cons_zero, List.set_cons_succ])
        (refine hTake (i := 8) (v := ?v45) rfl (by kernel_rfl) (by kernel_rfl) (by kernel_rfl) (fun _ _ _ h => h) (Or.inl ⟨by rfl, ?y45⟩) hS ?r45; (case y45 => (intro W hW; (go_simp); (try with_reducible rfl); done)); try simp only [Act.put, List.setIfInBounds_toArray, List.set_cons_zero, List.set_cons_succ])
        (refine hTake (i := 9) (v := ?v46) rfl (by kernel_rfl) (by kernel_rfl) (by kernel_rfl) (fun _ _ _ h => h) (Or.inl ⟨by rfl, ?y46⟩) hS ?r46; (case y46 => (intro W hW; (go_simp); (try with_reducible rfl); done)); try simp only [Act.put, List.setIfInBounds_toArray, List.set_cons_zero, List.set_cons_succ])
        (refine hTake (i := 10) (v := ?v47) rfl (by kernel_rfl) (by kernel_rfl) (by kernel_rfl) (fun _ _ _ h => h) (Or.inl ⟨by rfl, ?y47⟩) hS ?r47; (case y47 => (intro W hW; ((have g := hW.b1.toStr (P := Try.prog) Try.underlying22 Try.underlying5 9 Try.underlying9; go_simp)); (try with_reducible rfl); done)); try simp only [Act.put, List.setIfInBounds_toArray, List.set_cons_zero, List.set_cons_succ])
        (refine hTake (i := 11) (v := ?v48) rfl (by kernel_rfl) (by kernel_rfl) (by kernel_rfl) (fun _ _ _ h => h) (Or.inl ⟨by rfl, ?y48⟩) hS ?r48; (case y48 => (intro W hW; (go_simp); (try with_reducible rfl); done)); try simp only [Act.put, List.setIfInBounds_toArray, List.set_cons_zero, List.set_cons_succ])
        (refine hTake (i := 12) (v := ?v49) rfl (by kernel_rfl) (by kernel_rfl) (by kernel_rfl) (fun _ _ _ h => h) (Or.inl ⟨by rfl, ?y49⟩) hS ?r49; (case y49 => (intro W hW; ((have g := hW.b2.toStr (P := Try.prog) Try.underlying22 Try.underlying5 9 Try.underlying9; go_simp)); (try with_reducible rfl); done)); try simp only [Act.put, List.setIfInBounds_toArray, List.set_cons_zero, List.set_cons_succ])
        (refine hTake (i := 13) (v := ?v50) rfl (by kernel_rfl) (by kernel_rfl) (by kernel_rfl) (fun _ _ _ h => h) (Or.inl ⟨by rfl, ?y50⟩) hS ?r50; (case y50 => (intro W hW; (go_simp); (try with_reducible rfl); done)); try simp only [Act.put, List.setIfInBounds_toArray, List.set_cons_zero, List.set_cons_succ])
        (refine hTake (i := 14) rfl (by kernel_rfl) (by kernel_rfl) (by kernel_rfl) (fun _ _ _ h => h) (yieldsIf_load_mid (by rfl) _ _ rfl _ _ rfl cs _ (fun W hW => (by exact hW.v1.range)) Try.underlying29 rfl (by rw [hcl.out]; exact info_node)) hS ?_; try simp only [Act.put, List.setIfInBounds_toArray, List.set_cons_zero, List.set_cons_succ])
        (refine hTake (i := 15) rfl (by kernel_rfl) (by kernel_rfl) (by kernel_rfl) (fun _ _ _ h => h) (yieldsIf_load_mid (by rfl) _ _ rfl _ _ rfl cs' _ (fun W hW => (by exact (hit.out _ hW.v2).2)) Try.underlying29 rfl (by rw [hcl'.out]; exact info_node)) hS ?_; try simp only [Act.put, List.setIfInBounds_toArray, List.set_cons_zero, List.set_cons_succ])
        (refine hOne (i := 16) rfl (by kernel_rfl) (fun K hK => ?_))
        rw [if_pos (by rfl)]
        go_simp
        refine (hSm.out _ hI4.v1 hI4.v2 false ⟨fun h => (Bool.noConfusion h), fun h => absurd h hB.out⟩).mono ?_
        rintro e w5 ⟨rfl, hb5⟩
        have hI5 := hI4.step hb5
        clear hb5 hI4
        (refine hK.out _ _ (by exact hI5) (fun hS => ?_); clear hK K; try simp only [Act.put, List.setIfInBounds_toArray, List.set_cons_zero, List.set_cons_succ])
        (refine hTake (i := 17) (v := ?v51) rfl (by kernel_rfl) (by kernel_rfl) (by kernel_rfl) (fun _ _ _ h => h) (Or.inl ⟨by rfl, ?y51⟩) hS ?r51; (case y51 => (intro W hW; (go_simp); (try with_reducible rfl); done)); try simp only [Act.put, List.setIfInBounds_toArray, List.set_cons_zero, List.set_cons_succ])
        (refine hTake (i := 18) (v := ?v52) rfl (by kernel_rfl) (by kernel_rfl) (by kernel_rfl) (fun _ _ _ h => h) (Or.inl ⟨by rfl, ?y52⟩) hS ?r52; (case y52 => (intro W hW; (go_simp); (try with_reducible rfl); done)); try simp only [Act.put, List.setIfInBounds_toArray, List.set_cons_zero, List.set_cons_succ])
        (refine hTake (i := 19) (v := ?v53) rfl (by kernel_rfl) (by kernel_rfl) (by kernel_rfl) (fun _ _ _ h => h) (Or.inl ⟨by rfl, ?y53⟩) hS ?r53; (case y53 => (intro W hW; (go_simp); (try with_reducible rfl); done)); try simp only [Act.put, List.setIfInBounds_toArray, List.set_cons_zero, List.set_cons_succ])
        (refine hTake (i := 20) (v := ?v54) rfl (by kernel_rfl) (by kernel_rfl) (by kernel_rfl) (fun _ _ _ h => h) (Or.inl ⟨by rfl, ?y54⟩) hS ?r54; (case y54 => (intro W hW; (go_simp); (try with_reducible rfl); done)); try simp only [Act.put, List.setIfInBounds_toArray, List.set_cons_zero, List.set_cons_succ])
        refine wpAnyH_done (by kernel_rfl) ?_ _
        have hbel := Lib.hid hI5.v1.bel
        clear hI5
        go_wp2_with fail
        go_ret
        exact ⟨ret_bool (by simp [hL.out]), hbel.out⟩
end Go.Proofs.YtahaaeenbahknaaRRRR

/-
  Package node: Refer of less than 32 bytes.
-/
namespace Go.Proofs.YtahaaeenbahknaaRRRR
open Go.RowKit

/-- a call that answers a reference -/
def RfrQ (w : World) (r : Nd.Rf) (e : Ending) (w' : World) : Prop := ∃ A m c, e = .returned (.agg (refRow r.kind r.dig A m c)) ∧ r.dig.length = 32 ∧ NewB w w' A m c r.inl
set_option maxHeartbeats 1000000 in
set_option maxRecDepth 100000 in
theorem node_Refer_short (A : Option Addr) (n c : Nat) (l : List UInt8) (w : World) (h : Bytes w w.heap.size A n c l) (hl : l.length < 32) :
    Calls Try.prog 13 #[.slice A n c] w (RfrQ w ⟨1, Nd.z32, l⟩) := by
  have hlen := h.len
  subst hlen
  have hs0 : (w.alloc (.cells refZ 26)).heap.size = w.heap.size + 1 := by simp
  have ho : (w.alloc (.cells refZ 26)).ownsRow (w.heap.size + 1) 5 1 (.slice none 0 0) 0 (bv []) := World.ownsRow_nil _ _ _ _
  have h1 := h.alloc (Nat.le_refl _) (.cells refZ 26)
  have hbe : Below w.heap.size w (w.alloc (.cells refZ 26)) := (Below.refl _ _).alloc (Nat.le_refl _) _
  have hb0 := Blk.new w 26 refZ
  have hl' : (l.length : Int) < 32 := by omega
  replace hbe := Lib.hid hbe
  replace hs0 := Lib.hid hs0
  replace hb0 := Lib.hid hb0
  go_enter Try.func13, Try.ntmps13
  go_wp2_with (first
    | (at_builtin; refine wpList_append_u8 rfl _ _ rfl (w.heap.size + 1) _ 0 [] rfl ho w.heap.size _ _ _ l rfl h1 (by omega) (by simp) ?_; intro A1 c1 w1 hown1 hb1; have hr1 := hb0.out.below hb1 (by omega); replace hb1 := Lib.hid hb1; replace hr1 := Lib.hid hr1)
    | (refine wpList_store_row rfl 26 _ _ rfl w.heap.size (refRow 1 Nd.z32 A1 l.length c1) rfl rfl _ _ hr1.out (by rw [refRow_size rfl]; exact info_ref) (by rw [refRow_size rfl]; rfl) (refRow_one _ _ _ _ _) ?_)
    | fail)
  refine bodyPost_ret (v := .agg (refRow 1 Nd.z32 A1 l.length c1)) (results_cell_row rfl _ _ w.heap.size _ (refRow 1 Nd.z32 A1 l.length c1) _ _ rfl (hr1.out.row _) Try.underlying26 rfl (by rw [refRow_size rfl]; exact info_ref)) rfl ?_
  rw [List.nil_append, Nat.zero_add] at hown1
  have hfar : (w1.setRow w.heap.size (refRow 1 Nd.z32 A1 l.length c1)).ownsRow (w.heap.size + 1) 5 1 (.slice A1 l.length c1) l.length (bv l) := by
    refine hown1.kept (row := some w.heap.size) ⟨rfl, rfl, rfl, by simp, fun k hk hne => setRow_other _ _ k _ (fun e => hne (by rw [e]))⟩ ?_
    cases e : (Value.slice A1 l.length c1).ownBlock with
    | none => exact .inl rfl
    | some q =>
      refine .inr fun e2 => ?_
      have := (hown1.lt _ e).1
      injection e2 with e2
      omega
  refine ⟨A1, l.length, c1, rfl, rfl, rfl, ⟨hfar.1, hfar.2.imp id fun ⟨g', cap, cur, hv, hg, r⟩ => ⟨g', cap, cur, hv, by omega, r⟩⟩, below_row (hbe.out.trans (hb1.out.mono (by omega))) (Nat.le_refl _) _⟩
end Go.Proofs.YtahaaeenbahknaaRRRR
