/-
  Package node: Encode.
-/
import Derived.Test.YtahaaeenbahknaaRRRRNo6
import Derived.Test.YtahaaeenbahknaaRRRRLi2
import Derived.Great.BuildSlice
namespace Go.Proofs.YtahaaeenbahknaaRRRR
open Go.RowKit

/-- bytes mid-block and a code -/
def PostOe (w : World) (l : List UInt8) (k : Int) (e : Ending) (w' : World) : Prop := ∃ A m c, e = .returned (.tuple #[.slice A m c, .int .i64 k]) ∧ NewO w w' A m c l
theorem NodIn.wf {S : Nat → Prop} {w : World} {v : Value} {x : Nd.No} (h : NodIn S w v x) : Nd.wf x := by
  obtain ⟨Ap, np, cp, Av, nv, cv, Ac, nc, cc, Ak, nk, kk, vs, rfl, hcd, _, _, _, _, _, _, _, hall⟩ := h
  intro r hr
  rcases List.mem_cons.1 hr with rfl | hr
  · exact hcd
  · obtain ⟨i, hi, rfl⟩ := List.mem_iff_getElem.1 hr
    obtain ⟨v, _, A, n, c, _, hd, _⟩ := hall.2 i _ (List.getElem?_eq_getElem hi)
    exact hd
/-- '[]api.Item{x, y}' -/
theorem wp_build_two {o : Oper} {a : Act} {w : World} {K : Act → World → Prop} {Q : Exit → Act → World → Prop} (parts : Array (Nat × Operand)) (ho : o.op = .buildSlice 43 2 parts)
    (x y z x' y' z' : Value) (hp : parts.toList.map (fun (i, x) => (i, a.eval x)) = [(0, .agg #[x, y, z]), (1, .agg #[x', y', z'])])
    (h : K (a.put o.dst (.slice (some ⟨w.heap.size, 0, none⟩) 2 2)) (w.alloc (.cells #[x, y, z, x', y', z'] 46))) : o.wp Try.prog a w K Q := by
  obtain ⟨i0, hi, hz0, hz1, hz2⟩ := info_parts info_item
  refine wp_buildSlice 43 46 2 parts ho #[x, y, z, x', y', z'] i0 itemZ Try.underlying43 hi hz0 (by rw [hz1]; decide) (by rw [hz1]; decide) ?_ h
  rw [Array.toList_map, hp, hz1]
  have hc0 : ((Array.range (2 * 3)).map (itemZ.cells[· % itemZ.cells.size]!)).size = 6 := by simp
  generalize (Array.range (2 * 3)).map (itemZ.cells[· % itemZ.cells.size]!) = cs0 at *
  unfold Instr.fill
  rw [show (some (0 * 3, 3) : Option (Nat × Nat)) = some (0, 3) from rfl]
  simp only
  rw [if_neg (by
    show ¬ ((decide (3 ≠ 3) || decide (0 + 3 > cs0.size)) = true)
    rw [hc0]; simp), fold_set (.agg #[x, y, z]) [x, y, z] rfl 0 cs0 (by rw [hc0]; simp)]
  unfold Instr.fill
  rw [show (some (1 * 3, 3) : Option (Nat × Nat)) = some (3, 3) from rfl]
  simp only
  have hl : cs0.toList.length = 6 := by rw [Array.length_toList]; exact hc0
  have hs1 : (cs0.toList.take 0 ++ [x, y, z] ++ cs0.toList.drop (0 + [x, y, z].length)).toArray.size = 6 := by
    simp [hl]
  rw [if_neg (by
    show ¬ ((decide (3 ≠ 3) || decide (3 + 3 > (cs0.toList.take 0 ++ [x, y, z] ++ cs0.toList.drop (0 + [x, y, z].length)).toArray.size)) = true)
    rw [hs1]; simp), fold_set (.agg #[x', y', z']) [x', y', z'] rfl 3 _ (by rw [hs1]; simp)]
  unfold Instr.fill
  obtain ⟨l⟩ := cs0
  match l, hl with
  | [_, _, _, _, _, _], _ => rfl
/-- two items laid side by side -/
theorem items_two {w w4 : World} {x y z x' y' z' : Value} {i i' : Ns.It 8} (hw : w.heap.size ≤ w4.heap.size) (h1 : Sits (fun q => w.heap.size ≤ q) w4 8 (.agg #[x, y, z]) i) (h2 : Sits (fun q => w.heap.size ≤ q) w4 8 (.agg #[x', y', z']) i') :
    ∃ vs, InS (fun q => w.heap.size ≤ q) (w4.alloc (.cells #[x, y, z, x', y', z'] 46)) 3 (some ⟨w4.heap.size, 0, none⟩) 2 (flat vs) ∧ All2 (Sits (fun q => w.heap.size ≤ q) (w4.alloc (.cells #[x, y, z, x', y', z'] 46)) 8) vs [i, i'] := by
  refine ⟨[.agg #[x, y, z], .agg #[x', y', z']], ⟨rfl, fun _ => ⟨w4.heap.size, 0, rfl, hw, by simp, fun j u hu => ?_⟩⟩, rfl, fun j t ht => ?_⟩
  · rw [Nat.zero_add, (Blk.new w4 46 #[x, y, z, x', y', z']).cell j, ← Array.getElem?_toList]
    exact hu
  · have hmv : ∀ q, w.heap.size ≤ q → q < w4.heap.size → w.heap.size ≤ q ∧ (w4.alloc (.cells #[x, y, z, x', y', z'] 46)).heap[q]? = w4.heap[q]? := fun q a b => ⟨a, Below.heap_alloc w4 _ q b⟩
    match j, ht with
    | 0, ht => cases ht; exact ⟨_, rfl, h1.move _ _ _ hmv (by simp)⟩
    | 1, ht => cases ht; exact ⟨_, rfl, h2.move _ _ _ hmv (by simp)⟩
/-- the items are laid -/
structure EncT (w : World) (A : Option Addr) (m c : Nat) (xs : List (Ns.It 8)) (W : World) : Prop where
  len : m = xs.length
  le : m ≤ c
  lim : c ≤ maxLen
  its : ∃ vs, InS (fun q => w.heap.size ≤ q) W 3 A m (flat vs) ∧ All2 (Sits (fun q => w.heap.size ≤ q) W 8) vs xs
  bel : Below w.heap.size w W
/-- a reference of a list, in memory -/
theorem refs_in {S : Nat → Prop} {w : World} {n : Nat} {A : Option Addr} {vs : List Value} {rs : List Nd.Rf} (hin : InS S w 34 A n (flat vs)) (hall : All2 (RefIn S w) vs rs) (hn : n = rs.length) (i : Nat) (hi : i < rs.length) :
    ∃ (g o : Nat) (A' : Option Addr) (n' c' : Nat), A = some ⟨g, o, none⟩ ∧ g < w.heap.size ∧ w.rangeAt g (o + i * 34) (refCells rs[i].kind rs[i].dig A' n' c') ∧ rs[i].dig.length = 32 ∧ RefIn (fun q => q < w.heap.size) w (.agg (refRow rs[i].kind rs[i].dig A' n' c')) rs[i] := by
  obtain ⟨g, o, A', n', c', h1, _, h2, h3, h4, h5⟩ := refs_at hin hall hn i hi
  refine ⟨g, o, A', n', c', h1, h2, h3, h4, A', n', c', rfl, h4, h5.len, h5.cap, h5.lim, h5.reads.1, fun hp => ?_⟩
  obtain ⟨g', o', e, hg, hc⟩ := h5.reads.2 hp
  exact ⟨g', o', e, hg, hg, hc⟩
theorem encT_of {w W : World} {A : Option Addr} {m c : Nat} {vs : List Value} {xs : List (Ns.It 8)} (h : ItL (fun _ => False) (w.heap.size + 1) W 8 A m c vs xs) (hb : Below w.heap.size w W) : EncT w A m c xs W :=
  have hO := Own.of_row h.own
  ⟨h.len, hO.cap, hO.lim, ⟨vs, (InS.of_own hO).move (fun q h1 h2 => ⟨by omega, rfl⟩) (Nat.le_refl _), h.all.imp fun v x hx => hx.move _ _ _ (fun q h1 h2 => ⟨by rcases h1.1 with h | h; exact h.elim; omega, rfl⟩) (Nat.le_refl _)⟩, hb⟩
set_option maxHeartbeats 4000000 in
set_option maxRecDepth 100000 in
theorem node_Encode (S : Nat → Prop) (v : Value) (x : Nd.No) (w : World) (hv : NodIn S w v x) (hS : ∀ q, S q → q < w.heap.size) :
    Calls Try.prog 8 #[v] w (PostOe w (if Nd.right Nd.dec x = true then Nd.enc x else []) (if Nd.right Nd.dec x = true then 0 else 50)) := by
  have hwf := hv.wf
  have hv0 := hv
  obtain ⟨Ap, np, cp, Av, nv, cv, Ac, nc, cc, Ak, nk, kk, vs, rfl, hcd, ⟨hp1, hp2, hp3, hp4⟩, ⟨hv1, hv2, hv3, hv4⟩, ⟨hc1, hc2, hc3, hc4⟩, hnk, hkk, hkm, hin, hall⟩ := hv
  rw [show (nodCells x.kind Ap np cp Av nv cv x.child.kind x.child.dig Ac nc cc Ak nk kk).toArray = nodRow x.kind Ap np cp Av nv cv x.child.kind x.child.dig Ac nc cc Ak nk kk from rfl] at *
  have hF : NodF w x.kind Ap np cp Av nv cv x.child.kind x.child.dig Ac nc cc Ak nk kk (w.alloc (.cells (nodRow x.kind Ap np cp Av nv cv x.child.kind x.child.dig Ac nc cc Ak nk kk) 29)) := NodF.of (Blk.new w _ _) hcd ((Below.refl _ _).alloc (Nat.le_refl _) _)
  have hrgt := node_Right S _ x (w.alloc (.cells (nodRow x.kind Ap np cp Av nv cv x.child.kind x.child.dig Ac nc cc Ak nk kk) 29)) (hv0.move (fun q h1 h2 => ⟨h1, Below.heap_alloc w _ q h2⟩) (by simp)) (fun q h => by have := hS q h; simp; omega) (fun r _ _ => node_Decode r.inl)
  have hRs : (nodRow x.kind Ap np cp Av nv cv x.child.kind x.child.dig Ac nc cc Ak nk kk).size = 38 := nodRow_size hcd
  have hpB : Bytes w w.heap.size Ap np cp x.path := ⟨hp1, hp2, hp3, hp4.reads fun g _ h => h⟩
  have hvB : Bytes w w.heap.size Av nv cv x.value := ⟨hv1, hv2, hv3, hv4.reads fun g _ h => h⟩
  have hcR : RefIn S w (.agg (refRow x.child.kind x.child.dig Ac nc cc)) x.child := ⟨Ac, nc, cc, rfl, hcd, hc1, hc2, hc3, hc4⟩
  have hblk := hF.blk
  clear hv0 hp1 hp2 hp3 hp4 hv1 hv2 hv3 hv4 hc1 hc2 hc3 hc4
  replace hF := Lib.hid hF
  replace hpB := Lib.hid hpB
  replace hvB := Lib.hid hvB
  replace hcR := Lib.hid hcR
  replace hnk := Lib.hid hnk
  replace hin := Lib.hid hin
  replace hall := Lib.hid hall
  have hSh := Lib.hid hS
  clear hS
  replace hwf := Lib.hid hwf
  replace hcd := Lib.hid hcd
  cases hR : Nd.right Nd.dec x with
  | false =>
    rw [hR] at hrgt
    replace hR := Lib.hid hR
    generalize nodRow x.kind Ap np cp Av nv cv x.child.kind x.child.dig Ac nc cc Ak nk kk = R at *
    go_enter Try.func8, Try.ntmps8
    go_wp2_with (first
      | (refine wpList_load_row rfl 29 _ rfl w.heap.size rfl _ _ _ _ hblk Try.underlying29 rfl (by rw [hRs]; exact info_node) ?_)
      | fail)
    refine hrgt.mono ?_
    rintro e w1 ⟨rfl, hb1⟩
    have hb := Lib.hid (hF.out.bel.trans (hb1.mono hF.out.bel.size))
    clear hrgt hb1
    go_wp2_with fail
    go_ret2
    exact ⟨none, 0, 0, rfl, rfl, Own.of_row (World.ownsRow_nil _ _ _ _), hb.out⟩
  | true =>
    rw [hR] at hrgt
    have hfe := Lib.hid (Nd.fit_enc hwf.out hR)
    have hkind := Nd.right_kind hR
    replace hR := Lib.hid hR
    simp only [if_true]
    have hstep : ∀ w1, Below (w.alloc (.cells (nodRow x.kind Ap np cp Av nv cv x.child.kind x.child.dig Ac nc cc Ak nk kk) 29)).heap.size (w.alloc (.cells (nodRow x.kind Ap np cp Av nv cv x.child.kind x.child.dig Ac nc cc Ak nk kk) 29)) w1 → NodF w x.kind Ap np cp Av nv cv x.child.kind x.child.dig Ac nc cc Ak nk kk w1 := fun w1 hb => hF.out.step hcd.out hb
    replace hstep := Lib.hid hstep
    go_enter Try.func8, Try.ntmps8
    go_wp2_with (first
      | (refine wpList_load_row rfl 29 _ rfl w.heap.size rfl _ _ _ _ hblk Try.underlying29 rfl (by rw [hRs]; exact info_node) ?_)
      | fail)
    refine hrgt.mono ?_
    rintro e w1 ⟨rfl, hb1⟩
    have hF1 := hstep.out w1 hb1
    clear hrgt hblk hF hb1 hstep
    have c0 := hF1.c0
    have c1 := hF1.c1
    have c2 := hF1.c2
    have c37 := hF1.c37
    have hch := hF1.ch
    replace hF1 := Lib.hid hF1
    rcases hkind with hk | hk | hk
    · obtain ⟨hpl, hpr, _, hvl, _, _⟩ := Nd.right_leaf hR.out hk
      have hits : Nd.items x = [Ns.tx ((Nib.pack x.path true).getD []), Ns.tx x.value] := by unfold Nd.items; rw [if_pos hk]
      have hple := Nd.pack_le x.path true hpl hpr
      have hpk := nib_Pack x.path true Ap np cp w.heap.size w1 (hpB.out.below hF1.out.bel) hF1.out.bel.size (by omega)
      generalize (Nib.pack x.path true).getD [] = pl at *
      generalize Nib.packE x.path = pE at *
      rw [hk] at c0
      replace hits := Lib.hid hits
      replace hk := Lib.hid hk
      replace hpr := Lib.hid hpr
      go_wp2_with fail
      refine hpk.mono ?_
      rintro e w2 ⟨A1, m1, c1', rfl, hN1⟩
      have hF2 := hF1.out.step hcd.out hN1.2.2
      clear hpk hF1 c0 c1 c2 c37 hch
      have k2 : w2.cell? ⟨w.heap.size, 2, none⟩ = some (.slice Av nv cv) := hF2.c2
      have hbs := hF2.bel.size
      have hbl := hF2.blk.lt
      have htx1 := nest_Text A1 m1 c1' pl w2.drew (hN1.bytes.drew) (by omega)
      have htx2 : ∀ w3, Below w2.drew.heap.size w2.drew w3 → Calls Try.prog 20 #[.slice Av nv cv] w3 (TextQ x.value w3) := fun w3 hb => nest_Text Av nv cv x.value w3 (((hvB.out.below hF2.bel).more hbs).drew.step hb) (by omega)
      have hbw2 : Below w.heap.size w w2.drew := hF2.bel.drew
      replace htx1 := Lib.hid htx1
      replace htx2 := Lib.hid htx2
      replace hF2 := Lib.hid hF2
      replace hN1 := Lib.hid hN1
      replace hbw2 := Lib.hid hbw2
      go_wp2_with fail
      refine wp_region_held_drew (S := (fun W => W.cell? ⟨w.heap.size, 2, none⟩ = some (.slice Av nv cv))) (by kernel_rfl) (by exact k2) (fun hS => ?_)
      (refine hTake (i := 0) (v := ?v1) rfl (by kernel_rfl) (by kernel_rfl) (by kernel_rfl) (fun _ _ _ h => h) (Or.inl ⟨by rfl, ?y1⟩) hS ?r1; (case y1 => (intro W hW; (go_simp); (try with_reducible rfl); done)); try simp only [Act.put, List.setIfInBounds_toArray, List.set_cons_zero, List.set_cons_succ])
      (refine hTake (i := 2) (v := ?v2) rfl (by kernel_rfl) (by kernel_rfl) (by kernel_rfl) (fun _ _ _ h => h) (Or.inl ⟨by rfl, ?y2⟩) hS ?r2; (case y2 => (intro W hW; (go_simp); (try with_reducible rfl); done)); try simp only [Act.put, List.setIfInBounds_toArray, List.set_cons_zero, List.set_cons_succ])
      (refine hTake (i := 3) (v := ?v3) rfl (by kernel_rfl) (by kernel_rfl) (by kernel_rfl) (fun _ _ _ h => h) (Or.inl ⟨by rfl, ?y3⟩) hS ?r3; (case y3 => (intro W hW; ((have g := hW; go_simp)); (try with_reducible rfl); done)); try simp only [Act.put, List.setIfInBounds_toArray, List.set_cons_zero, List.set_cons_succ])
      (refine hOne (i := 1) rfl (by kernel_rfl) (fun K hK => ?_))
      rw [if_pos (by rfl)]
      go_simp
      refine htx1.out.mono ?_
      rintro e w3 ⟨A3, m3, c3, rfl, hN3⟩
      have k3 : w3.cell? ⟨w.heap.size, 2, none⟩ = some (.slice Av nv cv) := (hN3.2.2.cell (p := ⟨w.heap.size, 2, none⟩) hbl).trans k2
      have hcl2 := htx2.out w3 hN3.2.2
      have hbw3 := hbw2.out.trans (hN3.2.2.mono hbw2.out.size)
      clear htx1 htx2
      replace hN3 := Lib.hid hN3
      replace hbw3 := Lib.hid hbw3
      replace hcl2 := Lib.hid hcl2
      unfold txV
      (refine hK.out _ _ (by exact k3) (fun hS => ?_); clear hK K; try simp only [Act.put, List.setIfInBounds_toArray, List.set_cons_zero, List.set_cons_succ])
      (refine hOne (i := 4) rfl (by kernel_rfl) (fun K hK => ?_))
      rw [if_pos (by rfl)]
      go_simp
      refine hcl2.out.mono ?_
      rintro e w4 ⟨A4, m4, c4, rfl, hN4⟩
      have k4 : w4.cell? ⟨w.heap.size, 2, none⟩ = some (.slice Av nv cv) := (hN4.2.2.cell (p := ⟨w.heap.size, 2, none⟩) (Nat.lt_of_lt_of_le hbl (show w2.heap.size ≤ w3.heap.size from hN3.out.2.2.size))).trans k3
      have hbw4 := hbw3.out.trans (hN4.2.2.mono hbw3.out.size)
      have hbl4 : w.heap.size < w4.heap.size := Nat.lt_of_lt_of_le hbl (Nat.le_trans (show w2.heap.size ≤ w3.heap.size from hN3.out.2.2.size) hN4.2.2.size)
      have hs3 : Sits (fun q => w.heap.size ≤ q) w4 8 (.agg #[.bool false, .slice A3 m3 c3, .slice none 0 0]) (Ns.tx pl) := hN3.out.sits.move _ _ _ (fun q h1 h2 => ⟨Nat.le_trans hbw2.out.size h1, hN4.2.2.block q h2⟩) hN4.2.2.size
      have hs4 : Sits (fun q => w.heap.size ≤ q) w4 8 (.agg #[.bool false, .slice A4 m4 c4, .slice none 0 0]) (Ns.tx x.value) := hN4.sits.move _ _ _ (fun q h1 h2 => ⟨Nat.le_trans hbw3.out.size h1, rfl⟩) (Nat.le_refl _)
      have hT : EncT w (some ⟨w4.heap.size, 0, none⟩) 2 2 (Nd.items x) (w4.alloc (.cells #[.bool false, .slice A3 m3 c3, .slice none 0 0, .bool false, .slice A4 m4 c4, .slice none 0 0] 46)) :=
        ⟨by rw [hits.out]; rfl, Nat.le_refl _, by unfold maxLen; omega, by rw [hits.out]; exact items_two hbw4.size hs3 hs4, hbw4.alloc hbw4.size _⟩
      clear hcl2 hs3 hs4 hN4
      replace hT := Lib.hid hT
      replace hbw4 := Lib.hid hbw4
      unfold txV
      (refine hK.out _ _ (by exact k4) (fun hS => ?_); clear hK K; try simp only [Act.put, List.setIfInBounds_toArray, List.set_cons_zero, List.set_cons_succ])
      (refine hOne (i := 5) rfl (by kernel_rfl) (fun K hK => ?_))
      rw [if_pos (by rfl)]
      refine wp_build_two _ rfl (.bool false) (.slice A3 m3 c3) (.slice none 0 0) (.bool false) (.slice A4 m4 c4) (.slice none 0 0) rfl ?_
      (refine hK.out _ _ (by exact (World.cell?_alloc_lt w4 _ _ hbl4).trans k4) (fun hS => ?_); clear hK K; try simp only [Act.put, List.setIfInBounds_toArray, List.set_cons_zero, List.set_cons_succ])
      (refine hTake (i := 6) (v := ?v4) rfl (by kernel_rfl) (by kernel_rfl) (by kernel_rfl) (fun _ _ _ h => h) (Or.inl ⟨by rfl, ?y4⟩) hS ?r4; (case y4 => (intro W hW; (go_simp); (try with_reducible rfl); done)); try simp only [Act.put, List.setIfInBounds_toArray, List.set_cons_zero, List.set_cons_succ])
      refine wpAnyH_done (by kernel_rfl) ?_ _
      go_upto_region 17 with fail
      refine code_at (EncT w (some ⟨w4.heap.size, 0, none⟩) 2 2 (Nd.items x)) hT.out ?_
      generalize w4.heap.size = g4 at *
      clear hT
      intro w5 hT
      replace hT := Lib.hid hT
      have hT1 := hT.out.bel.size
      obtain ⟨vs5, hin5, hall5⟩ := hT.out.its
      have hlst := nest_List 8 (fun q => w.heap.size ≤ q ∧ q < w5.heap.size) _ _ _ vs5 (Nd.items x) w5 (fun q h => h.2) hT.out.len hT.out.le hT.out.lim (hin5.move (fun q h1 h2 => ⟨⟨h1, h2⟩, rfl⟩) (Nat.le_refl _)) (hall5.imp fun v x hx => hx.move _ _ _ (fun q h1 h2 => ⟨⟨h1, h2⟩, rfl⟩) (Nat.le_refl _)) (by have := hT.out.len; have := (Nd.fit_items hwf.out hR.out).2; omega)
      clear hin5 hall5
      go_wp2_with fail
      refine hlst.mono ?_
      rintro e w6 ⟨v6, rfl, hs6, hb6⟩
      have hen := nest_Encode_any (fun q => q < w6.heap.size) v6 (.inr (Nd.items x)) w6 (hs6.move _ _ _ (fun q h1 h2 => ⟨h2, rfl⟩) (Nat.le_refl _)) (fun q h => h) hfe.out.1 (by have := hfe.out.2; unfold Nd.enc at this; omega)
      have hbw6 := Lib.hid (hT.out.bel.trans (hb6.mono hT1))
      clear hlst hs6 hb6
      go_wp2_with fail
      refine hen.mono ?_
      rintro e w7 ⟨A7, m7, c7, rfl, hN7⟩
      clear hen
      have hbw7 := hbw6.out.trans (hN7.2.2.mono hbw6.out.size)
      replace hN7 := Lib.hid hN7
      replace hbw7 := Lib.hid hbw7
      go_wp2_with fail
      go_ret2
      exact ⟨A7, m7, c7, rfl, hN7.out.1, (Own.of_row hN7.out.2.1).less hbw6.out.size, hbw7.out⟩
    · obtain ⟨hpl, hpr, _, _, _, hrr, _⟩ := Nd.right_ext hR.out hk
      have hits : Nd.items x = [Ns.tx ((Nib.pack x.path false).getD []), Nd.itOf x.child] := by unfold Nd.items; rw [if_neg (by omega), if_pos hk]
      have hple := Nd.pack_le x.path false hpl hpr
      have hpk := nib_Pack x.path false Ap np cp w.heap.size w1 (hpB.out.below hF1.out.bel) hF1.out.bel.size (by omega)
      generalize (Nib.pack x.path false).getD [] = pl at *
      generalize Nib.packE x.path = pE at *
      rw [hk] at c0
      replace hits := Lib.hid hits
      replace hk := Lib.hid hk
      replace hpr := Lib.hid hpr
      go_wp2_with fail
      refine hpk.mono ?_
      rintro e w2 ⟨A1, m1, c1', rfl, hN1⟩
      have hF2 := hF1.out.step hcd.out hN1.2.2
      clear hpk hF1 c0 c1 c2 c37 hch
      have k2 : w2.rangeAt w.heap.size 3 (refCells x.child.kind x.child.dig Ac nc cc) := hF2.ch
      have hbs := hF2.bel.size
      have hbl := hF2.blk.lt
      have htx1 := nest_Text A1 m1 c1' pl w2.drew (hN1.bytes.drew) (by omega)
      have htx2 : ∀ w3, Below w2.drew.heap.size w2.drew w3 → Calls Try.prog 21 #[.agg (refRow x.child.kind x.child.dig Ac nc cc)] w3 (ItmQ x.child w3) := fun w3 hb => node_item S _ x.child w3 (hcR.out.move (fun q h1 h2 => ⟨h1, (hb.block q (show q < w2.heap.size by omega)).trans (hF2.bel.block q h2)⟩) (Nat.le_trans hbs hb.size)) (fun q h => by have := hSh.out q h; have : w2.heap.size ≤ w3.heap.size := hb.size; omega) hrr
      have hbw2 : Below w.heap.size w w2.drew := hF2.bel.drew
      replace htx1 := Lib.hid htx1
      replace htx2 := Lib.hid htx2
      replace hF2 := Lib.hid hF2
      replace hN1 := Lib.hid hN1
      replace hbw2 := Lib.hid hbw2
      go_wp2_with fail
      refine wp_region_held_drew (S := (fun W => W.rangeAt w.heap.size 3 (refCells x.child.kind x.child.dig Ac nc cc))) (by kernel_rfl) (by exact k2) (fun hS => ?_)
      (refine hTake (i := 0) (v := ?v5) rfl (by kernel_rfl) (by kernel_rfl) (by kernel_rfl) (fun _ _ _ h => h) (Or.inl ⟨by rfl, ?y5⟩) hS ?r5; (case y5 => (intro W hW; (go_simp); (try with_reducible rfl); done)); try simp only [Act.put, List.setIfInBounds_toArray, List.set_cons_zero, List.set_cons_succ])
      (refine hTake (i := 2) (v := ?v6) rfl (by kernel_rfl) (by kernel_rfl) (by kernel_rfl) (fun _ _ _ h => h) (Or.inl ⟨by rfl, ?y6⟩) hS ?r6; (case y6 => (intro W hW; (go_simp); (try with_reducible rfl); done)); try simp only [Act.put, List.setIfInBounds_toArray, List.set_cons_zero, List.set_cons_succ])
      (refine hTake (i := 3) rfl (by kernel_rfl) (by kernel_rfl) (by kernel_rfl) (fun _ _ _ h => h) (yieldsIf_load_mid (by rfl) _ _ rfl _ _ rfl (refCells x.child.kind x.child.dig Ac nc cc) _ (fun W hW => (by exact hW)) Try.underlying26 rfl (by rw [refCells_length hcd.out]; exact info_ref)) hS ?_; try simp only [Act.put, List.setIfInBounds_toArray, List.set_cons_zero, List.set_cons_succ])
      (refine hOne (i := 1) rfl (by kernel_rfl) (fun K hK => ?_))
      rw [if_pos (by rfl)]
      go_simp
      refine htx1.out.mono ?_
      rintro e w3 ⟨A3, m3, c3, rfl, hN3⟩
      have k3 : w3.rangeAt w.heap.size 3 (refCells x.child.kind x.child.dig Ac nc cc) := fun j u hu => (hN3.2.2.cell (p := ⟨w.heap.size, 3 + j, none⟩) hbl).trans (k2 j u hu)
      have hcl2 := htx2.out w3 hN3.2.2
      have hbw3 := hbw2.out.trans (hN3.2.2.mono hbw2.out.size)
      clear htx1 htx2
      replace hN3 := Lib.hid hN3
      replace hbw3 := Lib.hid hbw3
      replace hcl2 := Lib.hid hcl2
      unfold txV
      (refine hK.out _ _ (by exact k3) (fun hS => ?_); clear hK K; try simp only [Act.put, List.setIfInBounds_toArray, List.set_cons_zero, List.set_cons_succ])
      (refine hOne (i := 4) rfl (by kernel_rfl) (fun K hK => ?_))
      rw [if_pos (by rfl)]
      go_simp
      refine hcl2.out.mono ?_
      rintro e w4 ⟨v4, rfl, hs4', hb4⟩
      obtain ⟨p4, q4, z4, rfl, -, hone4⟩ := hs4'.cells
      have k4 : w4.rangeAt w.heap.size 3 (refCells x.child.kind x.child.dig Ac nc cc) := fun j u hu => (hb4.cell (p := ⟨w.heap.size, 3 + j, none⟩) (Nat.lt_of_lt_of_le hbl (show w2.heap.size ≤ w3.heap.size from hN3.out.2.2.size))).trans (k3 j u hu)
      have hbw4 := hbw3.out.trans (hb4.mono hbw3.out.size)
      have hbl4 : w.heap.size < w4.heap.size := Nat.lt_of_lt_of_le hbl (Nat.le_trans (show w2.heap.size ≤ w3.heap.size from hN3.out.2.2.size) hb4.size)
      have hs3 : Sits (fun q => w.heap.size ≤ q) w4 8 (.agg #[.bool false, .slice A3 m3 c3, .slice none 0 0]) (Ns.tx pl) := hN3.out.sits.move _ _ _ (fun q h1 h2 => ⟨Nat.le_trans hbw2.out.size h1, hb4.block q h2⟩) hb4.size
      have hs4 : Sits (fun q => w.heap.size ≤ q) w4 8 (.agg #[p4, q4, z4]) (Nd.itOf x.child) := hs4'.move _ _ _ (fun q h1 h2 => ⟨Nat.le_trans hbw3.out.size h1, rfl⟩) (Nat.le_refl _)
      have hT : EncT w (some ⟨w4.heap.size, 0, none⟩) 2 2 (Nd.items x) (w4.alloc (.cells #[.bool false, .slice A3 m3 c3, .slice none 0 0, p4, q4, z4] 46)) :=
        ⟨by rw [hits.out]; rfl, Nat.le_refl _, by unfold maxLen; omega, by rw [hits.out]; exact items_two hbw4.size hs3 hs4, hbw4.alloc hbw4.size _⟩
      clear hcl2 hs3 hs4 hs4' hb4
      replace hT := Lib.hid hT
      replace hbw4 := Lib.hid hbw4
      (refine hK.out _ _ (by exact k4) (fun hS => ?_); clear hK K; try simp only [Act.put, List.setIfInBounds_toArray, List.set_cons_zero, List.set_cons_succ])
      (refine hOne (i := 5) rfl (by kernel_rfl) (fun K hK => ?_))
      rw [if_pos (by rfl)]
      refine wp_build_two _ rfl (.bool false) (.slice A3 m3 c3) (.slice none 0 0) p4 q4 z4 rfl ?_
      (refine hK.out _ _ (by exact fun j u hu => (World.cell?_alloc_lt w4 _ _ hbl4).trans (k4 j u hu)) (fun hS => ?_); clear hK K; try simp only [Act.put, List.setIfInBounds_toArray, List.set_cons_zero, List.set_cons_succ])
      (refine hTake (i := 6) (v := ?v7) rfl (by kernel_rfl) (by kernel_rfl) (by kernel_rfl) (fun _ _ _ h => h) (Or.inl ⟨by rfl, ?y7⟩) hS ?r7; (case y7 => (intro W hW; (go_simp); (try with_reducible rfl); done)); try simp only [Act.put, List.setIfInBounds_toArray, List.set_cons_zero, List.set_cons_succ])
      refine wpAnyH_done (by kernel_rfl) ?_ _
      go_upto_region 17 with fail
      refine code_at (EncT w (some ⟨w4.heap.size, 0, none⟩) 2 2 (Nd.items x)) hT.out ?_
      generalize w4.heap.size = g4 at *
      clear hT
      intro w5 hT
      replace hT := Lib.hid hT
      have hT1 := hT.out.bel.size
      obtain ⟨vs5, hin5, hall5⟩ := hT.out.its
      have hlst := nest_List 8 (fun q => w.heap.size ≤ q ∧ q < w5.heap.size) _ _ _ vs5 (Nd.items x) w5 (fun q h => h.2) hT.out.len hT.out.le hT.out.lim (hin5.move (fun q h1 h2 => ⟨⟨h1, h2⟩, rfl⟩) (Nat.le_refl _)) (hall5.imp fun v x hx => hx.move _ _ _ (fun q h1 h2 => ⟨⟨h1, h2⟩, rfl⟩) (Nat.le_refl _)) (by have := hT.out.len; have := (Nd.fit_items hwf.out hR.out).2; omega)
      clear hin5 hall5
      go_wp2_with fail
      refine hlst.mono ?_
      rintro e w6 ⟨v6, rfl, hs6, hb6⟩
      have hen := nest_Encode_any (fun q => q < w6.heap.size) v6 (.inr (Nd.items x)) w6 (hs6.move _ _ _ (fun q h1 h2 => ⟨h2, rfl⟩) (Nat.le_refl _)) (fun q h => h) hfe.out.1 (by have := hfe.out.2; unfold Nd.enc at this; omega)
      have hbw6 := Lib.hid (hT.out.bel.trans (hb6.mono hT1))
      clear hlst hs6 hb6
      go_wp2_with fail
      refine hen.mono ?_
      rintro e w7 ⟨A7, m7, c7, rfl, hN7⟩
      clear hen
      have hbw7 := hbw6.out.trans (hN7.2.2.mono hbw6.out.size)
      replace hN7 := Lib.hid hN7
      replace hbw7 := Lib.hid hbw7
      go_wp2_with fail
      go_ret2
      exact ⟨A7, m7, c7, rfl, hN7.out.1, (Own.of_row hN7.out.2.1).less hbw6.out.size, hbw7.out⟩
    · obtain ⟨_, hvl, _, hk16, hrr⟩ := Nd.right_branch hR.out hk
      have hits : Nd.items x = x.kids.map Nd.itOf ++ [Ns.tx x.value] := by unfold Nd.items; rw [if_neg (by omega), if_neg (by omega)]
      have hst : ∀ j (h : j < x.kids.length), (x.kids.take (j + 1)).map Nd.itOf = (x.kids.take j).map Nd.itOf ++ [Nd.itOf x.kids[j]] := by
        intro j h
        rw [List.take_succ_eq_append_getElem h, List.map_append]; rfl
      have h16 : nk = 16 := by rw [hnk.out]; exact hk16
      subst h16
      rw [hk] at c0
      have hsz1 := hF1.out.bel.size
      have hlt1 := hF1.out.blk.lt
      have hstart : ItL (fun _ => False) (w.heap.size + 1) w1 8 none 0 0 [] ((x.kids.take 0).map Nd.itOf) := ItL.start
      replace hits := Lib.hid hits
      replace hst := Lib.hid hst
      replace hk := Lib.hid hk
      replace hk16 := Lib.hid hk16
      replace hrr := Lib.hid hrr
      replace hstart := Lib.hid hstart
      go_wp2_with fail
      clear c0 c1 c2 c37 hch
      go_loopw [4, 21] (fun l i wr => ∃ (k : Nat) (A' : Option Addr) (c' : Nat) (vs' : List Value), k ≤ 16 ∧ i = .int .i64 k ∧ l = .slice A' k c' ∧ ItL (fun _ => False) (w.heap.size + 1) wr 8 A' k c' vs' ((x.kids.take k).map Nd.itOf) ∧ NodF w x.kind Ap np cp Av nv cv x.child.kind x.child.dig Ac nc cc Ak 16 kk wr) (fun _ i _ => 16 - (intOf i).toNat)
      case atStart => exact ⟨0, none, 0, [], by omega, rfl, rfl, hstart.out, hF1.out⟩
      case round =>
        clear hF1 hstart hsz1 hlt1
        obtain ⟨k, A', c', vs', hk', rfl, rfl, hL, hFr⟩ := hrel
        have hbs := hFr.bel.size
        have hbl := hFr.blk.lt
        by_cases hlt : k < 16
        · have hlt' : (k : Int) < 16 := by omega
          have hkl : k < x.kids.length := by rw [hk16.out]; exact hlt
          have hmv : ∀ q, S q → q < w.heap.size → S q ∧ wr.heap[q]? = w.heap[q]? := fun q h1 h2 => ⟨h1, hFr.bel.block q h2⟩
          obtain ⟨g, o, Ar, nr, cr, rfl, hg, hrg, hdl, hri⟩ := refs_in (hin.out.move hmv hbs) (hall.out.imp fun v x hx => hx.move hmv hbs) hnk.out k hkl
          have hrk := hrr.out x.kids[k] (List.getElem_mem hkl)
          have hst1 := Lib.hid (hst.out k hkl)
          generalize x.kids[k] = r at *
          have hcall : ∀ w2, Below wr.heap.size wr w2 → Calls Try.prog 21 #[.agg (refRow r.kind r.dig Ar nr cr)] w2 (ItmQ r w2) := fun w2 hb => node_item (fun q => q < wr.heap.size) _ r w2 (hri.move (fun q h1 h2 => ⟨h1, hb.block q h2⟩) hb.size) (fun q h => by have := hb.size; omega) hrk
          have hrs := ref_stored (wr := wr) (refRow r.kind r.dig Ar nr cr)
          generalize r.kind = rk at *
          generalize r.dig = rd at *
          clear hri hrk hmv
          replace hcall := Lib.hid hcall
          replace hrs := Lib.hid hrs
          replace hL := Lib.hid hL
          replace hFr := Lib.hid hFr
          replace hdl := Lib.hid hdl
          go_wp2_with (first
            | (refine wpList_load_mid rfl 26 _ rfl g (o + k * 34) rfl (refCells rk rd Ar nr cr) _ hrg Try.underlying26 rfl (by rw [refCells_length hdl.out]; exact info_ref) ?_)
            | (refine wpList_load_row rfl 26 _ rfl wr.heap.size rfl _ _ _ _ hI2.out.it Try.underlying26 rfl (by rw [refRow_size hdl.out]; exact info_ref) ?_)
            | (refine wpList_store_row rfl 26 _ _ rfl wr.heap.size (refRow rk rd Ar nr cr) rfl rfl _ _ (Blk.new wr 26 refZ) (by rw [refRow_size hdl.out]; exact info_ref) (by rw [refRow_size hdl.out]; rfl) (refRow_one _ _ _ _ _) ?_; refine list_at (RefS wr _) hrs.out ?_; intro w2 hI2; replace hI2 := Lib.hid hI2)
            | fail)
          refine (hcall.out w2 hI2.out.bel).mono ?_
          rintro e w3 ⟨v3, rfl, hs3, hb3⟩
          obtain ⟨p3, q3, z3, rfl, -, hone3⟩ := hs3.cells
          have hb3r := hI2.out.bel.trans (hb3.mono hI2.out.bel.size)
          have hs3' := hb3r.size
          have how := hL.out.own.lt
          have hL4 := (hL.out.below hb3r).below ((Below.refl _ _).alloc (Nat.le_refl _) (.cells #[p3, q3, z3] 46))
          have hF4 := (hFr.out.step hcd.out hb3r).step hcd.out ((Below.refl _ _).alloc (Nat.le_refl _) (.cells #[p3, q3, z3] 46))
          have hsv : Sits (Apart (fun _ => False) (w.heap.size + 1) (.slice A' k c')) (w3.alloc (.cells #[p3, q3, z3] 46)) 8 (.agg #[p3, q3, z3]) (Nd.itOf r) :=
            hs3.move _ _ _ (fun q h1 h2 => ⟨⟨.inr (by have := hI2.out.bel.size; omega), fun e => by have := (how _ e).2; have := hI2.out.bel.size; omega⟩, Below.heap_alloc w3 _ q h2⟩) (by simp)
          have hgx := Blk.new w3 46 #[p3, q3, z3]
          have hs4 : (w3.alloc (.cells #[p3, q3, z3] 46)).heap.size = w3.heap.size + 1 := by simp
          clear hcall hs3 hb3 hb3r
          replace how := Lib.hid how
          replace hL4 := Lib.hid hL4
          replace hF4 := Lib.hid hF4
          replace hsv := Lib.hid hsv
          replace hs4 := Lib.hid hs4
          go_wp2_with (at_builtin; refine wpList_append_it (v := .agg #[p3, q3, z3]) rfl _ _ rfl hL4.out (fun _ h => h.elim) (by have := hs4.out; omega) rfl rfl (by have := hs4.out; omega) hgx hsv.out (by omega) ?_; intro A5 c5 w5 hL5 hg5)
          have hlow : ∀ q, q ≤ w.heap.size → some q ≠ (Value.slice A' k c').ownBlock := fun q h e => by have := (how.out q e.symm).1; omega
          have hF5 : NodF w x.kind Ap np cp Av nv cv x.child.kind x.child.dig Ac nc cc (some ⟨g, o, none⟩) 16 kk w5 := NodF.of ((hg5.block _ (by have := hs4.out; omega) (hlow _ (Nat.le_refl _))).trans hF4.out.blk) hcd.out (hF4.out.bel.trans ⟨hg5.os, hg5.tape, hg5.output, hg5.size, fun q hq => hg5.block q (by have := hs4.out; omega) (hlow q (by omega))⟩)
          refine ⟨⟨k + 1, A5, c5, _, by omega, by go_num, rfl, by rw [hst1.out]; exact hL5, hF5⟩, ?_⟩
          simp [intOf]; omega
        · obtain rfl : k = 16 := by omega
          have hlt' : ¬ ((16 : Nat) : Int) < 16 := by omega
          have c2 := hFr.c2
          have htk : x.kids.take 16 = x.kids := List.take_of_length_le (by rw [hk16.out]; omega)
          rw [htk] at hL
          have htx := nest_Text Av nv cv x.value wr ((hvB.out.below hFr.bel).more hbs) (by omega)
          have how := hL.own.lt
          replace htx := Lib.hid htx
          replace hL := Lib.hid hL
          replace hFr := Lib.hid hFr
          replace how := Lib.hid how
          clear htk
          go_wp2_with fail
          refine htx.out.mono ?_
          rintro e w3 ⟨A3, m3, c3, rfl, hN3⟩
          have hL4 := (hL.out.below hN3.2.2).below ((Below.refl _ _).alloc (Nat.le_refl _) (.cells #[.bool false, .slice A3 m3 c3, .slice none 0 0] 46))
          have hb4 := (hFr.out.bel.trans (hN3.2.2.mono hbs)).alloc (Nat.le_trans hbs hN3.2.2.size) (.cells #[.bool false, .slice A3 m3 c3, .slice none 0 0] 46)
          have hs3' := hN3.2.2.size
          have hsv : Sits (Apart (fun _ => False) (w.heap.size + 1) (.slice A' 16 c')) (w3.alloc (.cells #[.bool false, .slice A3 m3 c3, .slice none 0 0] 46)) 8 (.agg #[.bool false, .slice A3 m3 c3, .slice none 0 0]) (Ns.tx x.value) :=
            hN3.sits.move _ _ _ (fun q h1 h2 => ⟨⟨.inr (by omega), fun e => by have := (how.out _ e).2; omega⟩, Below.heap_alloc w3 _ q h2⟩) (by simp)
          have hgx := Blk.new w3 46 #[.bool false, .slice A3 m3 c3, .slice none 0 0]
          have hs4 : (w3.alloc (.cells #[.bool false, .slice A3 m3 c3, .slice none 0 0] 46)).heap.size = w3.heap.size + 1 := by simp
          clear htx hN3
          replace hL4 := Lib.hid hL4
          replace hb4 := Lib.hid hb4
          replace hsv := Lib.hid hsv
          replace hs4 := Lib.hid hs4
          unfold txV
          go_upto_region 17 with (at_builtin; refine wpList_append_it (v := .agg #[.bool false, .slice A3 m3 c3, .slice none 0 0]) rfl _ _ rfl hL4.out (fun _ h => h.elim) (by have := hs4.out; omega) rfl rfl (by have := hs4.out; omega) hgx hsv.out (by omega) ?_; intro A5 c5 w4 hL5 hg5; replace hL5 := Lib.hid hL5; replace hg5 := Lib.hid hg5)
          have hlow : ∀ q, q ≤ w.heap.size → some q ≠ (Value.slice A' 16 c').ownBlock := fun q h e => by have := (how.out q e.symm).1; omega
          have hT := encT_of hL5.out (hb4.out.trans ⟨hg5.out.os, hg5.out.tape, hg5.out.output, hg5.out.size, fun q hq => hg5.out.block q (by have := hs4.out; omega) (hlow q (by omega))⟩)
          rw [← hits.out] at hT
          refine code_at (EncT w A5 17 c5 (Nd.items x)) hT ?_
          clear hT
          intro w5 hT
          replace hT := Lib.hid hT
          have hT1 := hT.out.bel.size
          obtain ⟨vs5, hin5, hall5⟩ := hT.out.its
          have hlst := nest_List 8 (fun q => w.heap.size ≤ q ∧ q < w5.heap.size) _ _ _ vs5 (Nd.items x) w5 (fun q h => h.2) hT.out.len hT.out.le hT.out.lim (hin5.move (fun q h1 h2 => ⟨⟨h1, h2⟩, rfl⟩) (Nat.le_refl _)) (hall5.imp fun v x hx => hx.move _ _ _ (fun q h1 h2 => ⟨⟨h1, h2⟩, rfl⟩) (Nat.le_refl _)) (by have := hT.out.len; have := (Nd.fit_items hwf.out hR.out).2; omega)
          clear hin5 hall5
          go_wp2_with fail
          refine hlst.mono ?_
          rintro e w6 ⟨v6, rfl, hs6, hb6⟩
          have hen := nest_Encode_any (fun q => q < w6.heap.size) v6 (.inr (Nd.items x)) w6 (hs6.move _ _ _ (fun q h1 h2 => ⟨h2, rfl⟩) (Nat.le_refl _)) (fun q h => h) hfe.out.1 (by have := hfe.out.2; unfold Nd.enc at this; omega)
          have hbw6 := Lib.hid (hT.out.bel.trans (hb6.mono hT1))
          clear hlst hs6 hb6
          go_wp2_with fail
          refine hen.mono ?_
          rintro e w7 ⟨A7, m7, c7, rfl, hN7⟩
          clear hen
          have hbw7 := hbw6.out.trans (hN7.2.2.mono hbw6.out.size)
          replace hN7 := Lib.hid hN7
          replace hbw7 := Lib.hid hbw7
          go_wp2_with fail
          go_ret2
          exact ⟨A7, m7, c7, rfl, hN7.out.1, (Own.of_row hN7.out.2.1).less hbw6.out.size, hbw7.out⟩
end Go.Proofs.YtahaaeenbahknaaRRRR
