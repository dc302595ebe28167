/-
  Texts of a proof, one behind the other: No7, No8, No9, Wrap, OpN, Law05, Law05a, OpW, Cp1, Cp2, RnP, Rn1, Nib4, RNib, RNib2, RNib3.
-/
import Derived.Test.YteknhmhmepnfjaaNodeEncodesA3
import Derived.Great.BuildSlice
import Derived.ProofKit
import Derived.OpenShut
import Derived.JoinedCond
import Derived.SizedLaws
import Derived.Deep.Slices
import Derived.BigQuiet
import Derived.Lib.MinMax
import Derived.Deep.QuietTactic
import Derived.StillTailTactics
/-
  Package node: Encode.
-/
namespace Go.Proofs.Yteknhmhmepnfjaa
open Go.RowKit

/-- bytes mid-block and a code -/
def PostOe (w : World) (l : List UInt8) (k : Int) (e : Ending) (w' : World) : Prop := ∃ A m c, e = .returned (.tuple #[.slice A m c, .int .i64 k]) ∧ NewO w w' A m c l
theorem NodIn.wf {S : Nat → Prop} {w : World} {v : Value} {x : Nd.No} (h : NodIn S w v x) : Nd.wf x := by
  obtain ⟨Ap, np, cp, Av, nv, cv, Ac, nc, cc, Ak, nk, kk, vs, rfl, hcd, _, _, _, _, _, _, _, hall⟩ := h
  intro r hr
  rcases List.mem_cons.1 hr with rfl | hr
  · exact hcd
  · obtain ⟨i, hi, rfl⟩ := List.mem_iff_getElem.1 hr
    obtain ⟨v, _, A, n, c, _, hd, _⟩ := hall.2 i _ (List.getElem?_eq_getElem hi)
    exact hd
/-- '[]api.Item{x, y}' -/
theorem wp_build_two {o : Oper} {a : Act} {w : World} {K : Act → World → Prop} {Q : Exit → Act → World → Prop} (parts : Array (Nat × Operand)) (ho : o.op = .buildSlice 45 2 parts)
    (x y z x' y' z' : Value) (hp : parts.toList.map (fun (i, x) => (i, a.eval x)) = [(0, .agg #[x, y, z]), (1, .agg #[x', y', z'])])
    (h : K (a.put o.dst (.slice (some ⟨w.heap.size, 0, none⟩) 2 2)) (w.alloc (.cells #[x, y, z, x', y', z'] 48))) : o.wp Try.prog a w K Q := by
  obtain ⟨i0, hi, hz0, hz1, hz2⟩ := info_parts info_item
  refine wp_buildSlice 45 48 2 parts ho #[x, y, z, x', y', z'] i0 itemZ Try.underlying45 hi hz0 (by rw [hz1]; decide) (by rw [hz1]; decide) ?_ h
  rw [Array.toList_map, hp, hz1]
  have hc0 : ((Array.range (2 * 3)).map (itemZ.cells[· % itemZ.cells.size]!)).size = 6 := by simp
  generalize (Array.range (2 * 3)).map (itemZ.cells[· % itemZ.cells.size]!) = cs0 at *
  unfold Instr.fill
  rw [show (some (0 * 3, 3) : Option (Nat × Nat)) = some (0, 3) from rfl]
  simp only
  rw [if_neg (by
    show ¬ ((decide (3 ≠ 3) || decide (0 + 3 > cs0.size)) = true)
    rw [hc0]; simp), fold_set (.agg #[x, y, z]) [x, y, z] rfl 0 cs0 (by rw [hc0]; simp)]
  unfold Instr.fill
  rw [show (some (1 * 3, 3) : Option (Nat × Nat)) = some (3, 3) from rfl]
  simp only
  have hl : cs0.toList.length = 6 := by rw [Array.length_toList]; exact hc0
  have hs1 : (cs0.toList.take 0 ++ [x, y, z] ++ cs0.toList.drop (0 + [x, y, z].length)).toArray.size = 6 := by
    simp [hl]
  rw [if_neg (by
    show ¬ ((decide (3 ≠ 3) || decide (3 + 3 > (cs0.toList.take 0 ++ [x, y, z] ++ cs0.toList.drop (0 + [x, y, z].length)).toArray.size)) = true)
    rw [hs1]; simp), fold_set (.agg #[x', y', z']) [x', y', z'] rfl 3 _ (by rw [hs1]; simp)]
  unfold Instr.fill
  obtain ⟨l⟩ := cs0
  match l, hl with
  | [_, _, _, _, _, _], _ => rfl
/-- two items laid side by side -/
theorem items_two {w w4 : World} {x y z x' y' z' : Value} {i i' : Ns.It 8} (hw : w.heap.size ≤ w4.heap.size) (h1 : Sits (fun q => w.heap.size ≤ q) w4 8 (.agg #[x, y, z]) i) (h2 : Sits (fun q => w.heap.size ≤ q) w4 8 (.agg #[x', y', z']) i') :
    ∃ vs, InS (fun q => w.heap.size ≤ q) (w4.alloc (.cells #[x, y, z, x', y', z'] 48)) 3 (some ⟨w4.heap.size, 0, none⟩) 2 (flat vs) ∧ All2 (Sits (fun q => w.heap.size ≤ q) (w4.alloc (.cells #[x, y, z, x', y', z'] 48)) 8) vs [i, i'] := by
  refine ⟨[.agg #[x, y, z], .agg #[x', y', z']], ⟨rfl, fun _ => ⟨w4.heap.size, 0, rfl, hw, by simp, fun j u hu => ?_⟩⟩, rfl, fun j t ht => ?_⟩
  · rw [Nat.zero_add, (Blk.new w4 48 #[x, y, z, x', y', z']).cell j, ← Array.getElem?_toList]
    exact hu
  · have hmv : ∀ q, w.heap.size ≤ q → q < w4.heap.size → w.heap.size ≤ q ∧ (w4.alloc (.cells #[x, y, z, x', y', z'] 48)).heap[q]? = w4.heap[q]? := fun q a b => ⟨a, Below.heap_alloc w4 _ q b⟩
    match j, ht with
    | 0, ht => cases ht; exact ⟨_, rfl, h1.move _ _ _ hmv (by simp)⟩
    | 1, ht => cases ht; exact ⟨_, rfl, h2.move _ _ _ hmv (by simp)⟩
/-- the items are laid -/
structure EncT (w : World) (A : Option Addr) (m c : Nat) (xs : List (Ns.It 8)) (W : World) : Prop where
  len : m = xs.length
  le : m ≤ c
  lim : c ≤ maxLen
  its : ∃ vs, InS (fun q => w.heap.size ≤ q) W 3 A m (flat vs) ∧ All2 (Sits (fun q => w.heap.size ≤ q) W 8) vs xs
  bel : Below w.heap.size w W
/-- a reference of a list, in memory -/
theorem refs_in {S : Nat → Prop} {w : World} {n : Nat} {A : Option Addr} {vs : List Value} {rs : List Nd.Rf} (hin : InS S w 34 A n (flat vs)) (hall : All2 (RefIn S w) vs rs) (hn : n = rs.length) (i : Nat) (hi : i < rs.length) :
    ∃ (g o : Nat) (A' : Option Addr) (n' c' : Nat), A = some ⟨g, o, none⟩ ∧ g < w.heap.size ∧ w.rangeAt g (o + i * 34) (refCells rs[i].kind rs[i].dig A' n' c') ∧ rs[i].dig.length = 32 ∧ RefIn (fun q => q < w.heap.size) w (.agg (refRow rs[i].kind rs[i].dig A' n' c')) rs[i] := by
  obtain ⟨g, o, A', n', c', h1, _, h2, h3, h4, h5⟩ := refs_at hin hall hn i hi
  refine ⟨g, o, A', n', c', h1, h2, h3, h4, A', n', c', rfl, h4, h5.len, h5.cap, h5.lim, h5.reads.1, fun hp => ?_⟩
  obtain ⟨g', o', e, hg, hc⟩ := h5.reads.2 hp
  exact ⟨g', o', e, hg, hg, hc⟩
theorem encT_of {w W : World} {A : Option Addr} {m c : Nat} {vs : List Value} {xs : List (Ns.It 8)} (h : ItL (fun _ => False) (w.heap.size + 1) W 8 A m c vs xs) (hb : Below w.heap.size w W) : EncT w A m c xs W :=
  have hO := Own.of_row h.own
  ⟨h.len, hO.cap, hO.lim, ⟨vs, (InS.of_own hO).move (fun q h1 h2 => ⟨by omega, rfl⟩) (Nat.le_refl _), h.all.imp fun v x hx => hx.move _ _ _ (fun q h1 h2 => ⟨by rcases h1.1 with h | h; exact h.elim; omega, rfl⟩) (Nat.le_refl _)⟩, hb⟩
set_option maxHeartbeats 4000000 in
set_option maxRecDepth 100000 in
theorem node_Encode (S : Nat → Prop) (v : Value) (x : Nd.No) (w : World) (hv : NodIn S w v x) (hS : ∀ q, S q → q < w.heap.size) :
    Calls Try.prog 11 #[v] w (PostOe w (if Nd.right Nd.dec x = true then Nd.enc x else []) (if Nd.right Nd.dec x = true then 0 else 50)) := by
  have hwf := hv.wf
  have hv0 := hv
  obtain ⟨Ap, np, cp, Av, nv, cv, Ac, nc, cc, Ak, nk, kk, vs, rfl, hcd, ⟨hp1, hp2, hp3, hp4⟩, ⟨hv1, hv2, hv3, hv4⟩, ⟨hc1, hc2, hc3, hc4⟩, hnk, hkk, hkm, hin, hall⟩ := hv
  rw [show (nodCells x.kind Ap np cp Av nv cv x.child.kind x.child.dig Ac nc cc Ak nk kk).toArray = nodRow x.kind Ap np cp Av nv cv x.child.kind x.child.dig Ac nc cc Ak nk kk from rfl] at *
  have hF : NodF w x.kind Ap np cp Av nv cv x.child.kind x.child.dig Ac nc cc Ak nk kk (w.alloc (.cells (nodRow x.kind Ap np cp Av nv cv x.child.kind x.child.dig Ac nc cc Ak nk kk) 29)) := NodF.of (Blk.new w _ _) hcd ((Below.refl _ _).alloc (Nat.le_refl _) _)
  have hrgt := node_Right S _ x (w.alloc (.cells (nodRow x.kind Ap np cp Av nv cv x.child.kind x.child.dig Ac nc cc Ak nk kk) 29)) (hv0.move (fun q h1 h2 => ⟨h1, Below.heap_alloc w _ q h2⟩) (by simp)) (fun q h => by have := hS q h; simp; omega) (fun r _ _ => node_Decode r.inl)
  have hRs : (nodRow x.kind Ap np cp Av nv cv x.child.kind x.child.dig Ac nc cc Ak nk kk).size = 38 := nodRow_size hcd
  have hpB : Bytes w w.heap.size Ap np cp x.path := ⟨hp1, hp2, hp3, hp4.reads fun g _ h => h⟩
  have hvB : Bytes w w.heap.size Av nv cv x.value := ⟨hv1, hv2, hv3, hv4.reads fun g _ h => h⟩
  have hcR : RefIn S w (.agg (refRow x.child.kind x.child.dig Ac nc cc)) x.child := ⟨Ac, nc, cc, rfl, hcd, hc1, hc2, hc3, hc4⟩
  have hblk := hF.blk
  clear hv0 hp1 hp2 hp3 hp4 hv1 hv2 hv3 hv4 hc1 hc2 hc3 hc4
  replace hF := Lib.hid hF
  replace hpB := Lib.hid hpB
  replace hvB := Lib.hid hvB
  replace hcR := Lib.hid hcR
  replace hnk := Lib.hid hnk
  replace hin := Lib.hid hin
  replace hall := Lib.hid hall
  have hSh := Lib.hid hS
  clear hS
  replace hwf := Lib.hid hwf
  replace hcd := Lib.hid hcd
  cases hR : Nd.right Nd.dec x with
  | false =>
    rw [hR] at hrgt
    replace hR := Lib.hid hR
    generalize nodRow x.kind Ap np cp Av nv cv x.child.kind x.child.dig Ac nc cc Ak nk kk = R at *
    go_enter Try.func11, Try.ntmps11
    go_wp2_with (first
      | (refine wpList_load_row rfl 29 _ rfl w.heap.size rfl _ _ _ _ hblk Try.underlying29 rfl (by rw [hRs]; exact info_node) ?_)
      | fail)
    refine hrgt.mono ?_
    rintro e w1 ⟨rfl, hb1⟩
    have hb := Lib.hid (hF.out.bel.trans (hb1.mono hF.out.bel.size))
    clear hrgt hb1
    go_wp2_with fail
    go_ret2
    exact ⟨none, 0, 0, rfl, rfl, Own.of_row (World.ownsRow_nil _ _ _ _), hb.out⟩
  | true =>
    rw [hR] at hrgt
    have hfe := Lib.hid (Nd.fit_enc hwf.out hR)
    have hkind := Nd.right_kind hR
    replace hR := Lib.hid hR
    simp only [if_true]
    have hstep : ∀ w1, Below (w.alloc (.cells (nodRow x.kind Ap np cp Av nv cv x.child.kind x.child.dig Ac nc cc Ak nk kk) 29)).heap.size (w.alloc (.cells (nodRow x.kind Ap np cp Av nv cv x.child.kind x.child.dig Ac nc cc Ak nk kk) 29)) w1 → NodF w x.kind Ap np cp Av nv cv x.child.kind x.child.dig Ac nc cc Ak nk kk w1 := fun w1 hb => hF.out.step hcd.out hb
    replace hstep := Lib.hid hstep
    go_enter Try.func11, Try.ntmps11
    go_wp2_with (first
      | (refine wpList_load_row rfl 29 _ rfl w.heap.size rfl _ _ _ _ hblk Try.underlying29 rfl (by rw [hRs]; exact info_node) ?_)
      | fail)
    refine hrgt.mono ?_
    rintro e w1 ⟨rfl, hb1⟩
    have hF1 := hstep.out w1 hb1
    clear hrgt hblk hF hb1 hstep
    have c0 := hF1.c0
    have c1 := hF1.c1
    have c2 := hF1.c2
    have c37 := hF1.c37
    have hch := hF1.ch
    replace hF1 := Lib.hid hF1
    rcases hkind with hk | hk | hk
    · obtain ⟨hpl, hpr, _, hvl, _, _⟩ := Nd.right_leaf hR.out hk
      have hits : Nd.items x = [Ns.tx ((Nib.pack x.path true).getD []), Ns.tx x.value] := by unfold Nd.items; rw [if_pos hk]
      have hple := Nd.pack_le x.path true hpl hpr
      have hpk := nib_Pack x.path true Ap np cp w.heap.size w1 (hpB.out.below hF1.out.bel) hF1.out.bel.size (by omega)
      generalize (Nib.pack x.path true).getD [] = pl at *
      generalize Nib.packE x.path = pE at *
      rw [hk] at c0
      replace hits := Lib.hid hits
      replace hk := Lib.hid hk
      replace hpr := Lib.hid hpr
      go_wp2_with fail
      refine hpk.mono ?_
      rintro e w2 ⟨A1, m1, c1', rfl, hN1⟩
      have hF2 := hF1.out.step hcd.out hN1.2.2
      clear hpk hF1 c0 c1 c2 c37 hch
      have k2 : w2.cell? ⟨w.heap.size, 2, none⟩ = some (.slice Av nv cv) := hF2.c2
      have hbs := hF2.bel.size
      have hbl := hF2.blk.lt
      have htx1 := nest_Text A1 m1 c1' pl w2.drew (hN1.bytes.drew) (by omega)
      have htx2 : ∀ w3, Below w2.drew.heap.size w2.drew w3 → Calls Try.prog 26 #[.slice Av nv cv] w3 (TextQ x.value w3) := fun w3 hb => nest_Text Av nv cv x.value w3 (((hvB.out.below hF2.bel).more hbs).drew.step hb) (by omega)
      have hbw2 : Below w.heap.size w w2.drew := hF2.bel.drew
      replace htx1 := Lib.hid htx1
      replace htx2 := Lib.hid htx2
      replace hF2 := Lib.hid hF2
      replace hN1 := Lib.hid hN1
      replace hbw2 := Lib.hid hbw2
      go_wp2_with fail
      refine wp_region_held_drew (S := (fun W => W.cell? ⟨w.heap.size, 2, none⟩ = some (.slice Av nv cv))) (by kernel_rfl) (by exact k2) (fun hS => ?_)
      (refine hTake (i := 0) (v := ?v1) rfl (by kernel_rfl) (by kernel_rfl) (by kernel_rfl) (fun _ _ _ h => h) (Or.inl ⟨by rfl, ?y1⟩) hS ?r1; (case y1 => (intro W hW; (go_simp); (try with_reducible rfl); done)); try simp only [Act.put, List.setIfInBounds_toArray, List.set_cons_zero, List.set_cons_succ])
      (refine hTake (i := 2) (v := ?v2) rfl (by kernel_rfl) (by kernel_rfl) (by kernel_rfl) (fun _ _ _ h => h) (Or.inl ⟨by rfl, ?y2⟩) hS ?r2; (case y2 => (intro W hW; (go_simp); (try with_reducible rfl); done)); try simp only [Act.put, List.setIfInBounds_toArray, List.set_cons_zero, List.set_cons_succ])
      (refine hTake (i := 3) (v := ?v3) rfl (by kernel_rfl) (by kernel_rfl) (by kernel_rfl) (fun _ _ _ h => h) (Or.inl ⟨by rfl, ?y3⟩) hS ?r3; (case y3 => (intro W hW; ((have g := hW; go_simp)); (try with_reducible rfl); done)); try simp only [Act.put, List.setIfInBounds_toArray, List.set_cons_zero, List.set_cons_succ])
      (refine hOne (i := 1) rfl (by kernel_rfl) (fun K hK => ?_))
      rw [if_pos (by rfl)]
      go_simp
      refine htx1.out.mono ?_
      rintro e w3 ⟨A3, m3, c3, rfl, hN3⟩
      have k3 : w3.cell? ⟨w.heap.size, 2, none⟩ = some (.slice Av nv cv) := (hN3.2.2.cell (p := ⟨w.heap.size, 2, none⟩) hbl).trans k2
      have hcl2 := htx2.out w3 hN3.2.2
      have hbw3 := hbw2.out.trans (hN3.2.2.mono hbw2.out.size)
      clear htx1 htx2
      replace hN3 := Lib.hid hN3
      replace hbw3 := Lib.hid hbw3
      replace hcl2 := Lib.hid hcl2
      unfold txV
      (refine hK.out _ _ (by exact k3) (fun hS => ?_); clear hK K; try simp only [Act.put, List.setIfInBounds_toArray, List.set_cons_zero, List.set_cons_succ])
      (refine hOne (i := 4) rfl (by kernel_rfl) (fun K hK => ?_))
      rw [if_pos (by rfl)]
      go_simp
      refine hcl2.out.mono ?_
      rintro e w4 ⟨A4, m4, c4, rfl, hN4⟩
      have k4 : w4.cell? ⟨w.heap.size, 2, none⟩ = some (.slice Av nv cv) := (hN4.2.2.cell (p := ⟨w.heap.size, 2, none⟩) (Nat.lt_of_lt_of_le hbl (show w2.heap.size ≤ w3.heap.size from hN3.out.2.2.size))).trans k3
      have hbw4 := hbw3.out.trans (hN4.2.2.mono hbw3.out.size)
      have hbl4 : w.heap.size < w4.heap.size := Nat.lt_of_lt_of_le hbl (Nat.le_trans (show w2.heap.size ≤ w3.heap.size from hN3.out.2.2.size) hN4.2.2.size)
      have hs3 : Sits (fun q => w.heap.size ≤ q) w4 8 (.agg #[.bool false, .slice A3 m3 c3, .slice none 0 0]) (Ns.tx pl) := hN3.out.sits.move _ _ _ (fun q h1 h2 => ⟨Nat.le_trans hbw2.out.size h1, hN4.2.2.block q h2⟩) hN4.2.2.size
      have hs4 : Sits (fun q => w.heap.size ≤ q) w4 8 (.agg #[.bool false, .slice A4 m4 c4, .slice none 0 0]) (Ns.tx x.value) := hN4.sits.move _ _ _ (fun q h1 h2 => ⟨Nat.le_trans hbw3.out.size h1, rfl⟩) (Nat.le_refl _)
      have hT : EncT w (some ⟨w4.heap.size, 0, none⟩) 2 2 (Nd.items x) (w4.alloc (.cells #[.bool false, .slice A3 m3 c3, .slice none 0 0, .bool false, .slice A4 m4 c4, .slice none 0 0] 48)) :=
        ⟨by rw [hits.out]; rfl, Nat.le_refl _, by unfold maxLen; omega, by rw [hits.out]; exact items_two hbw4.size hs3 hs4, hbw4.alloc hbw4.size _⟩
      clear hcl2 hs3 hs4 hN4
      replace hT := Lib.hid hT
      replace hbw4 := Lib.hid hbw4
      unfold txV
      (refine hK.out _ _ (by exact k4) (fun hS => ?_); clear hK K; try simp only [Act.put, List.setIfInBounds_toArray, List.set_cons_zero, List.set_cons_succ])
      (refine hOne (i := 5) rfl (by kernel_rfl) (fun K hK => ?_))
      rw [if_pos (by rfl)]
      refine wp_build_two _ rfl (.bool false) (.slice A3 m3 c3) (.slice none 0 0) (.bool false) (.slice A4 m4 c4) (.slice none 0 0) rfl ?_
      (refine hK.out _ _ (by exact (World.cell?_alloc_lt w4 _ _ hbl4).trans k4) (fun hS => ?_); clear hK K; try simp only [Act.put, List.setIfInBounds_toArray, List.set_cons_zero, List.set_cons_succ])
      (refine hTake (i := 6) (v := ?v4) rfl (by kernel_rfl) (by kernel_rfl) (by kernel_rfl) (fun _ _ _ h => h) (Or.inl ⟨by rfl, ?y4⟩) hS ?r4; (case y4 => (intro W hW; (go_simp); (try with_reducible rfl); done)); try simp only [Act.put, List.setIfInBounds_toArray, List.set_cons_zero, List.set_cons_succ])
      refine wpAnyH_done (by kernel_rfl) ?_ _
      go_upto_region 17 with fail
      refine code_at (EncT w (some ⟨w4.heap.size, 0, none⟩) 2 2 (Nd.items x)) hT.out ?_
      generalize w4.heap.size = g4 at *
      clear hT
      intro w5 hT
      replace hT := Lib.hid hT
      have hT1 := hT.out.bel.size
      obtain ⟨vs5, hin5, hall5⟩ := hT.out.its
      have hlst := nest_List 8 (fun q => w.heap.size ≤ q ∧ q < w5.heap.size) _ _ _ vs5 (Nd.items x) w5 (fun q h => h.2) hT.out.len hT.out.le hT.out.lim (hin5.move (fun q h1 h2 => ⟨⟨h1, h2⟩, rfl⟩) (Nat.le_refl _)) (hall5.imp fun v x hx => hx.move _ _ _ (fun q h1 h2 => ⟨⟨h1, h2⟩, rfl⟩) (Nat.le_refl _)) (by have := hT.out.len; have := (Nd.fit_items hwf.out hR.out).2; omega)
      clear hin5 hall5
      go_wp2_with fail
      refine hlst.mono ?_
      rintro e w6 ⟨v6, rfl, hs6, hb6⟩
      have hen := nest_Encode_any (fun q => q < w6.heap.size) v6 (.inr (Nd.items x)) w6 (hs6.move _ _ _ (fun q h1 h2 => ⟨h2, rfl⟩) (Nat.le_refl _)) (fun q h => h) hfe.out.1 (by have := hfe.out.2; unfold Nd.enc at this; omega)
      have hbw6 := Lib.hid (hT.out.bel.trans (hb6.mono hT1))
      clear hlst hs6 hb6
      go_wp2_with fail
      refine hen.mono ?_
      rintro e w7 ⟨A7, m7, c7, rfl, hN7⟩
      clear hen
      have hbw7 := hbw6.out.trans (hN7.2.2.mono hbw6.out.size)
      replace hN7 := Lib.hid hN7
      replace hbw7 := Lib.hid hbw7
      go_wp2_with fail
      go_ret2
      exact ⟨A7, m7, c7, rfl, hN7.out.1, (Own.of_row hN7.out.2.1).less hbw6.out.size, hbw7.out⟩
    · obtain ⟨hpl, hpr, _, _, _, hrr, _⟩ := Nd.right_ext hR.out hk
      have hits : Nd.items x = [Ns.tx ((Nib.pack x.path false).getD []), Nd.itOf x.child] := by unfold Nd.items; rw [if_neg (by omega), if_pos hk]
      have hple := Nd.pack_le x.path false hpl hpr
      have hpk := nib_Pack x.path false Ap np cp w.heap.size w1 (hpB.out.below hF1.out.bel) hF1.out.bel.size (by omega)
      generalize (Nib.pack x.path false).getD [] = pl at *
      generalize Nib.packE x.path = pE at *
      rw [hk] at c0
      replace hits := Lib.hid hits
      replace hk := Lib.hid hk
      replace hpr := Lib.hid hpr
      go_wp2_with fail
      refine hpk.mono ?_
      rintro e w2 ⟨A1, m1, c1', rfl, hN1⟩
      have hF2 := hF1.out.step hcd.out hN1.2.2
      clear hpk hF1 c0 c1 c2 c37 hch
      have k2 : w2.rangeAt w.heap.size 3 (refCells x.child.kind x.child.dig Ac nc cc) := hF2.ch
      have hbs := hF2.bel.size
      have hbl := hF2.blk.lt
      have htx1 := nest_Text A1 m1 c1' pl w2.drew (hN1.bytes.drew) (by omega)
      have htx2 : ∀ w3, Below w2.drew.heap.size w2.drew w3 → Calls Try.prog 27 #[.agg (refRow x.child.kind x.child.dig Ac nc cc)] w3 (ItmQ x.child w3) := fun w3 hb => node_item S _ x.child w3 (hcR.out.move (fun q h1 h2 => ⟨h1, (hb.block q (show q < w2.heap.size by omega)).trans (hF2.bel.block q h2)⟩) (Nat.le_trans hbs hb.size)) (fun q h => by have := hSh.out q h; have : w2.heap.size ≤ w3.heap.size := hb.size; omega) hrr
      have hbw2 : Below w.heap.size w w2.drew := hF2.bel.drew
      replace htx1 := Lib.hid htx1
      replace htx2 := Lib.hid htx2
      replace hF2 := Lib.hid hF2
      replace hN1 := Lib.hid hN1
      replace hbw2 := Lib.hid hbw2
      go_wp2_with fail
      refine wp_region_held_drew (S := (fun W => W.rangeAt w.heap.size 3 (refCells x.child.kind x.child.dig Ac nc cc))) (by kernel_rfl) (by exact k2) (fun hS => ?_)
      (refine hTake (i := 0) (v := ?v5) rfl (by kernel_rfl) (by kernel_rfl) (by kernel_rfl) (fun _ _ _ h => h) (Or.inl ⟨by rfl, ?y5⟩) hS ?r5; (case y5 => (intro W hW; (go_simp); (try with_reducible rfl); done)); try simp only [Act.put, List.setIfInBounds_toArray, List.set_cons_zero, List.set_cons_succ])
      (refine hTake (i := 2) (v := ?v6) rfl (by kernel_rfl) (by kernel_rfl) (by kernel_rfl) (fun _ _ _ h => h) (Or.inl ⟨by rfl, ?y6⟩) hS ?r6; (case y6 => (intro W hW; (go_simp); (try with_reducible rfl); done)); try simp only [Act.put, List.setIfInBounds_toArray, List.set_cons_zero, List.set_cons_succ])
      (refine hTake (i := 3) rfl (by kernel_rfl) (by kernel_rfl) (by kernel_rfl) (fun _ _ _ h => h) (yieldsIf_load_mid (by rfl) _ _ rfl _ _ rfl (refCells x.child.kind x.child.dig Ac nc cc) _ (fun W hW => (by exact hW)) Try.underlying26 rfl (by rw [refCells_length hcd.out]; exact info_ref)) hS ?_; try simp only [Act.put, List.setIfInBounds_toArray, List.set_cons_zero, List.set_cons_succ])
      (refine hOne (i := 1) rfl (by kernel_rfl) (fun K hK => ?_))
      rw [if_pos (by rfl)]
      go_simp
      refine htx1.out.mono ?_
      rintro e w3 ⟨A3, m3, c3, rfl, hN3⟩
      have k3 : w3.rangeAt w.heap.size 3 (refCells x.child.kind x.child.dig Ac nc cc) := fun j u hu => (hN3.2.2.cell (p := ⟨w.heap.size, 3 + j, none⟩) hbl).trans (k2 j u hu)
      have hcl2 := htx2.out w3 hN3.2.2
      have hbw3 := hbw2.out.trans (hN3.2.2.mono hbw2.out.size)
      clear htx1 htx2
      replace hN3 := Lib.hid hN3
      replace hbw3 := Lib.hid hbw3
      replace hcl2 := Lib.hid hcl2
      unfold txV
      (refine hK.out _ _ (by exact k3) (fun hS => ?_); clear hK K; try simp only [Act.put, List.setIfInBounds_toArray, List.set_cons_zero, List.set_cons_succ])
      (refine hOne (i := 4) rfl (by kernel_rfl) (fun K hK => ?_))
      rw [if_pos (by rfl)]
      go_simp
      refine hcl2.out.mono ?_
      rintro e w4 ⟨v4, rfl, hs4', hb4⟩
      obtain ⟨p4, q4, z4, rfl, -, hone4⟩ := hs4'.cells
      have k4 : w4.rangeAt w.heap.size 3 (refCells x.child.kind x.child.dig Ac nc cc) := fun j u hu => (hb4.cell (p := ⟨w.heap.size, 3 + j, none⟩) (Nat.lt_of_lt_of_le hbl (show w2.heap.size ≤ w3.heap.size from hN3.out.2.2.size))).trans (k3 j u hu)
      have hbw4 := hbw3.out.trans (hb4.mono hbw3.out.size)
      have hbl4 : w.heap.size < w4.heap.size := Nat.lt_of_lt_of_le hbl (Nat.le_trans (show w2.heap.size ≤ w3.heap.size from hN3.out.2.2.size) hb4.size)
      have hs3 : Sits (fun q => w.heap.size ≤ q) w4 8 (.agg #[.bool false, .slice A3 m3 c3, .slice none 0 0]) (Ns.tx pl) := hN3.out.sits.move _ _ _ (fun q h1 h2 => ⟨Nat.le_trans hbw2.out.size h1, hb4.block q h2⟩) hb4.size
      have hs4 : Sits (fun q => w.heap.size ≤ q) w4 8 (.agg #[p4, q4, z4]) (Nd.itOf x.child) := hs4'.move _ _ _ (fun q h1 h2 => ⟨Nat.le_trans hbw3.out.size h1, rfl⟩) (Nat.le_refl _)
      have hT : EncT w (some ⟨w4.heap.size, 0, none⟩) 2 2 (Nd.items x) (w4.alloc (.cells #[.bool false, .slice A3 m3 c3, .slice none 0 0, p4, q4, z4] 48)) :=
        ⟨by rw [hits.out]; rfl, Nat.le_refl _, by unfold maxLen; omega, by rw [hits.out]; exact items_two hbw4.size hs3 hs4, hbw4.alloc hbw4.size _⟩
      clear hcl2 hs3 hs4 hs4' hb4
      replace hT := Lib.hid hT
      replace hbw4 := Lib.hid hbw4
      (refine hK.out _ _ (by exact k4) (fun hS => ?_); clear hK K; try simp only [Act.put, List.setIfInBounds_toArray, List.set_cons_zero, List.set_cons_succ])
      (refine hOne (i := 5) rfl (by kernel_rfl) (fun K hK => ?_))
      rw [if_pos (by rfl)]
      refine wp_build_two _ rfl (.bool false) (.slice A3 m3 c3) (.slice none 0 0) p4 q4 z4 rfl ?_
      (refine hK.out _ _ (by exact fun j u hu => (World.cell?_alloc_lt w4 _ _ hbl4).trans (k4 j u hu)) (fun hS => ?_); clear hK K; try simp only [Act.put, List.setIfInBounds_toArray, List.set_cons_zero, List.set_cons_succ])
      (refine hTake (i := 6) (v := ?v7) rfl (by kernel_rfl) (by kernel_rfl) (by kernel_rfl) (fun _ _ _ h => h) (Or.inl ⟨by rfl, ?y7⟩) hS ?r7; (case y7 => (intro W hW; (go_simp); (try with_reducible rfl); done)); try simp only [Act.put, List.setIfInBounds_toArray, List.set_cons_zero, List.set_cons_succ])
      refine wpAnyH_done (by kernel_rfl) ?_ _
      go_upto_region 17 with fail
      refine code_at (EncT w (some ⟨w4.heap.size, 0, none⟩) 2 2 (Nd.items x)) hT.out ?_
      generalize w4.heap.size = g4 at *
      clear hT
      intro w5 hT
      replace hT := Lib.hid hT
      have hT1 := hT.out.bel.size
      obtain ⟨vs5, hin5, hall5⟩ := hT.out.its
      have hlst := nest_List 8 (fun q => w.heap.size ≤ q ∧ q < w5.heap.size) _ _ _ vs5 (Nd.items x) w5 (fun q h => h.2) hT.out.len hT.out.le hT.out.lim (hin5.move (fun q h1 h2 => ⟨⟨h1, h2⟩, rfl⟩) (Nat.le_refl _)) (hall5.imp fun v x hx => hx.move _ _ _ (fun q h1 h2 => ⟨⟨h1, h2⟩, rfl⟩) (Nat.le_refl _)) (by have := hT.out.len; have := (Nd.fit_items hwf.out hR.out).2; omega)
      clear hin5 hall5
      go_wp2_with fail
      refine hlst.mono ?_
      rintro e w6 ⟨v6, rfl, hs6, hb6⟩
      have hen := nest_Encode_any (fun q => q < w6.heap.size) v6 (.inr (Nd.items x)) w6 (hs6.move _ _ _ (fun q h1 h2 => ⟨h2, rfl⟩) (Nat.le_refl _)) (fun q h => h) hfe.out.1 (by have := hfe.out.2; unfold Nd.enc at this; omega)
      have hbw6 := Lib.hid (hT.out.bel.trans (hb6.mono hT1))
      clear hlst hs6 hb6
      go_wp2_with fail
      refine hen.mono ?_
      rintro e w7 ⟨A7, m7, c7, rfl, hN7⟩
      clear hen
      have hbw7 := hbw6.out.trans (hN7.2.2.mono hbw6.out.size)
      replace hN7 := Lib.hid hN7
      replace hbw7 := Lib.hid hbw7
      go_wp2_with fail
      go_ret2
      exact ⟨A7, m7, c7, rfl, hN7.out.1, (Own.of_row hN7.out.2.1).less hbw6.out.size, hbw7.out⟩
    · obtain ⟨_, hvl, _, hk16, hrr⟩ := Nd.right_branch hR.out hk
      have hits : Nd.items x = x.kids.map Nd.itOf ++ [Ns.tx x.value] := by unfold Nd.items; rw [if_neg (by omega), if_neg (by omega)]
      have hst : ∀ j (h : j < x.kids.length), (x.kids.take (j + 1)).map Nd.itOf = (x.kids.take j).map Nd.itOf ++ [Nd.itOf x.kids[j]] := by
        intro j h
        rw [List.take_succ_eq_append_getElem h, List.map_append]; rfl
      have h16 : nk = 16 := by rw [hnk.out]; exact hk16
      subst h16
      rw [hk] at c0
      have hsz1 := hF1.out.bel.size
      have hlt1 := hF1.out.blk.lt
      have hstart : ItL (fun _ => False) (w.heap.size + 1) w1 8 none 0 0 [] ((x.kids.take 0).map Nd.itOf) := ItL.start
      replace hits := Lib.hid hits
      replace hst := Lib.hid hst
      replace hk := Lib.hid hk
      replace hk16 := Lib.hid hk16
      replace hrr := Lib.hid hrr
      replace hstart := Lib.hid hstart
      go_wp2_with fail
      clear c0 c1 c2 c37 hch
      go_loopw [4, 21] (fun l i wr => ∃ (k : Nat) (A' : Option Addr) (c' : Nat) (vs' : List Value), k ≤ 16 ∧ i = .int .i64 k ∧ l = .slice A' k c' ∧ ItL (fun _ => False) (w.heap.size + 1) wr 8 A' k c' vs' ((x.kids.take k).map Nd.itOf) ∧ NodF w x.kind Ap np cp Av nv cv x.child.kind x.child.dig Ac nc cc Ak 16 kk wr) (fun _ i _ => 16 - (intOf i).toNat)
      case atStart => exact ⟨0, none, 0, [], by omega, rfl, rfl, hstart.out, hF1.out⟩
      case round =>
        clear hF1 hstart hsz1 hlt1
        obtain ⟨k, A', c', vs', hk', rfl, rfl, hL, hFr⟩ := hrel
        have hbs := hFr.bel.size
        have hbl := hFr.blk.lt
        by_cases hlt : k < 16
        · have hlt' : (k : Int) < 16 := by omega
          have hkl : k < x.kids.length := by rw [hk16.out]; exact hlt
          have hmv : ∀ q, S q → q < w.heap.size → S q ∧ wr.heap[q]? = w.heap[q]? := fun q h1 h2 => ⟨h1, hFr.bel.block q h2⟩
          obtain ⟨g, o, Ar, nr, cr, rfl, hg, hrg, hdl, hri⟩ := refs_in (hin.out.move hmv hbs) (hall.out.imp fun v x hx => hx.move hmv hbs) hnk.out k hkl
          have hrk := hrr.out x.kids[k] (List.getElem_mem hkl)
          have hst1 := Lib.hid (hst.out k hkl)
          generalize x.kids[k] = r at *
          have hcall : ∀ w2, Below wr.heap.size wr w2 → Calls Try.prog 27 #[.agg (refRow r.kind r.dig Ar nr cr)] w2 (ItmQ r w2) := fun w2 hb => node_item (fun q => q < wr.heap.size) _ r w2 (hri.move (fun q h1 h2 => ⟨h1, hb.block q h2⟩) hb.size) (fun q h => by have := hb.size; omega) hrk
          have hrs := ref_stored (wr := wr) (refRow r.kind r.dig Ar nr cr)
          generalize r.kind = rk at *
          generalize r.dig = rd at *
          clear hri hrk hmv
          replace hcall := Lib.hid hcall
          replace hrs := Lib.hid hrs
          replace hL := Lib.hid hL
          replace hFr := Lib.hid hFr
          replace hdl := Lib.hid hdl
          go_wp2_with (first
            | (refine wpList_load_mid rfl 26 _ rfl g (o + k * 34) rfl (refCells rk rd Ar nr cr) _ hrg Try.underlying26 rfl (by rw [refCells_length hdl.out]; exact info_ref) ?_)
            | (refine wpList_load_row rfl 26 _ rfl wr.heap.size rfl _ _ _ _ hI2.out.it Try.underlying26 rfl (by rw [refRow_size hdl.out]; exact info_ref) ?_)
            | (refine wpList_store_row rfl 26 _ _ rfl wr.heap.size (refRow rk rd Ar nr cr) rfl rfl _ _ (Blk.new wr 26 refZ) (by rw [refRow_size hdl.out]; exact info_ref) (by rw [refRow_size hdl.out]; rfl) (refRow_one _ _ _ _ _) ?_; refine list_at (RefS wr _) hrs.out ?_; intro w2 hI2; replace hI2 := Lib.hid hI2)
            | fail)
          refine (hcall.out w2 hI2.out.bel).mono ?_
          rintro e w3 ⟨v3, rfl, hs3, hb3⟩
          obtain ⟨p3, q3, z3, rfl, -, hone3⟩ := hs3.cells
          have hb3r := hI2.out.bel.trans (hb3.mono hI2.out.bel.size)
          have hs3' := hb3r.size
          have how := hL.out.own.lt
          have hL4 := (hL.out.below hb3r).below ((Below.refl _ _).alloc (Nat.le_refl _) (.cells #[p3, q3, z3] 48))
          have hF4 := (hFr.out.step hcd.out hb3r).step hcd.out ((Below.refl _ _).alloc (Nat.le_refl _) (.cells #[p3, q3, z3] 48))
          have hsv : Sits (Apart (fun _ => False) (w.heap.size + 1) (.slice A' k c')) (w3.alloc (.cells #[p3, q3, z3] 48)) 8 (.agg #[p3, q3, z3]) (Nd.itOf r) :=
            hs3.move _ _ _ (fun q h1 h2 => ⟨⟨.inr (by have := hI2.out.bel.size; omega), fun e => by have := (how _ e).2; have := hI2.out.bel.size; omega⟩, Below.heap_alloc w3 _ q h2⟩) (by simp)
          have hgx := Blk.new w3 48 #[p3, q3, z3]
          have hs4 : (w3.alloc (.cells #[p3, q3, z3] 48)).heap.size = w3.heap.size + 1 := by simp
          clear hcall hs3 hb3 hb3r
          replace how := Lib.hid how
          replace hL4 := Lib.hid hL4
          replace hF4 := Lib.hid hF4
          replace hsv := Lib.hid hsv
          replace hs4 := Lib.hid hs4
          go_wp2_with (at_builtin; refine wpList_append_it (v := .agg #[p3, q3, z3]) rfl _ _ rfl hL4.out (fun _ h => h.elim) (by have := hs4.out; omega) rfl rfl (by have := hs4.out; omega) hgx hsv.out (by omega) ?_; intro A5 c5 w5 hL5 hg5)
          have hlow : ∀ q, q ≤ w.heap.size → some q ≠ (Value.slice A' k c').ownBlock := fun q h e => by have := (how.out q e.symm).1; omega
          have hF5 : NodF w x.kind Ap np cp Av nv cv x.child.kind x.child.dig Ac nc cc (some ⟨g, o, none⟩) 16 kk w5 := NodF.of ((hg5.block _ (by have := hs4.out; omega) (hlow _ (Nat.le_refl _))).trans hF4.out.blk) hcd.out (hF4.out.bel.trans ⟨hg5.os, hg5.tape, hg5.output, hg5.size, fun q hq => hg5.block q (by have := hs4.out; omega) (hlow q (by omega))⟩)
          refine ⟨⟨k + 1, A5, c5, _, by omega, by go_num, rfl, by rw [hst1.out]; exact hL5, hF5⟩, ?_⟩
          simp [intOf]; omega
        · obtain rfl : k = 16 := by omega
          have hlt' : ¬ ((16 : Nat) : Int) < 16 := by omega
          have c2 := hFr.c2
          have htk : x.kids.take 16 = x.kids := List.take_of_length_le (by rw [hk16.out]; omega)
          rw [htk] at hL
          have htx := nest_Text Av nv cv x.value wr ((hvB.out.below hFr.bel).more hbs) (by omega)
          have how := hL.own.lt
          replace htx := Lib.hid htx
          replace hL := Lib.hid hL
          replace hFr := Lib.hid hFr
          replace how := Lib.hid how
          clear htk
          go_wp2_with fail
          refine htx.out.mono ?_
          rintro e w3 ⟨A3, m3, c3, rfl, hN3⟩
          have hL4 := (hL.out.below hN3.2.2).below ((Below.refl _ _).alloc (Nat.le_refl _) (.cells #[.bool false, .slice A3 m3 c3, .slice none 0 0] 48))
          have hb4 := (hFr.out.bel.trans (hN3.2.2.mono hbs)).alloc (Nat.le_trans hbs hN3.2.2.size) (.cells #[.bool false, .slice A3 m3 c3, .slice none 0 0] 48)
          have hs3' := hN3.2.2.size
          have hsv : Sits (Apart (fun _ => False) (w.heap.size + 1) (.slice A' 16 c')) (w3.alloc (.cells #[.bool false, .slice A3 m3 c3, .slice none 0 0] 48)) 8 (.agg #[.bool false, .slice A3 m3 c3, .slice none 0 0]) (Ns.tx x.value) :=
            hN3.sits.move _ _ _ (fun q h1 h2 => ⟨⟨.inr (by omega), fun e => by have := (how.out _ e).2; omega⟩, Below.heap_alloc w3 _ q h2⟩) (by simp)
          have hgx := Blk.new w3 48 #[.bool false, .slice A3 m3 c3, .slice none 0 0]
          have hs4 : (w3.alloc (.cells #[.bool false, .slice A3 m3 c3, .slice none 0 0] 48)).heap.size = w3.heap.size + 1 := by simp
          clear htx hN3
          replace hL4 := Lib.hid hL4
          replace hb4 := Lib.hid hb4
          replace hsv := Lib.hid hsv
          replace hs4 := Lib.hid hs4
          unfold txV
          go_upto_region 17 with (at_builtin; refine wpList_append_it (v := .agg #[.bool false, .slice A3 m3 c3, .slice none 0 0]) rfl _ _ rfl hL4.out (fun _ h => h.elim) (by have := hs4.out; omega) rfl rfl (by have := hs4.out; omega) hgx hsv.out (by omega) ?_; intro A5 c5 w4 hL5 hg5; replace hL5 := Lib.hid hL5; replace hg5 := Lib.hid hg5)
          have hlow : ∀ q, q ≤ w.heap.size → some q ≠ (Value.slice A' 16 c').ownBlock := fun q h e => by have := (how.out q e.symm).1; omega
          have hT := encT_of hL5.out (hb4.out.trans ⟨hg5.out.os, hg5.out.tape, hg5.out.output, hg5.out.size, fun q hq => hg5.out.block q (by have := hs4.out; omega) (hlow q (by omega))⟩)
          rw [← hits.out] at hT
          refine code_at (EncT w A5 17 c5 (Nd.items x)) hT ?_
          clear hT
          intro w5 hT
          replace hT := Lib.hid hT
          have hT1 := hT.out.bel.size
          obtain ⟨vs5, hin5, hall5⟩ := hT.out.its
          have hlst := nest_List 8 (fun q => w.heap.size ≤ q ∧ q < w5.heap.size) _ _ _ vs5 (Nd.items x) w5 (fun q h => h.2) hT.out.len hT.out.le hT.out.lim (hin5.move (fun q h1 h2 => ⟨⟨h1, h2⟩, rfl⟩) (Nat.le_refl _)) (hall5.imp fun v x hx => hx.move _ _ _ (fun q h1 h2 => ⟨⟨h1, h2⟩, rfl⟩) (Nat.le_refl _)) (by have := hT.out.len; have := (Nd.fit_items hwf.out hR.out).2; omega)
          clear hin5 hall5
          go_wp2_with fail
          refine hlst.mono ?_
          rintro e w6 ⟨v6, rfl, hs6, hb6⟩
          have hen := nest_Encode_any (fun q => q < w6.heap.size) v6 (.inr (Nd.items x)) w6 (hs6.move _ _ _ (fun q h1 h2 => ⟨h2, rfl⟩) (Nat.le_refl _)) (fun q h => h) hfe.out.1 (by have := hfe.out.2; unfold Nd.enc at this; omega)
          have hbw6 := Lib.hid (hT.out.bel.trans (hb6.mono hT1))
          clear hlst hs6 hb6
          go_wp2_with fail
          refine hen.mono ?_
          rintro e w7 ⟨A7, m7, c7, rfl, hN7⟩
          clear hen
          have hbw7 := hbw6.out.trans (hN7.2.2.mono hbw6.out.size)
          replace hN7 := Lib.hid hN7
          replace hbw7 := Lib.hid hbw7
          go_wp2_with fail
          go_ret2
          exact ⟨A7, m7, c7, rfl, hN7.out.1, (Own.of_row hN7.out.2.1).less hbw6.out.size, hbw7.out⟩
end Go.Proofs.Yteknhmhmepnfjaa

/-
  The reference of chapter 5: SameRef.
-/
namespace Go.Proofs.Yteknhmhmepnfjaa
open Go.RowKit

theorem rf_eq {k k' : Int} {d d' b b' : List UInt8} : ((⟨k, d, b⟩ : Nd.Rf) = ⟨k', d', b'⟩) ↔ k = k' ∧ d = d' ∧ b = b' := by
  constructor
  · intro h; injection h with h1 h2 h3; exact ⟨h1, h2, h3⟩
  · rintro ⟨rfl, rfl, rfl⟩; rfl
open Classical in
set_option maxHeartbeats 2000000 in
set_option maxRecDepth 100000 in
theorem ref_SameRef (k k' : Int) (d d' b b' : List UInt8) (A A' : Option Addr) (n n' c c' : Nat) (w : World) (hd : d.length = 32) (hd' : d'.length = 32) (h : Bytes w w.heap.size A n c b) (h' : Bytes w w.heap.size A' n' c' b') :
    Calls Try.prog 24 #[.agg (refRow k d A n c), .agg (refRow k' d' A' n' c')] w fun e w' => e = .returned (.bool (decide ((⟨k, d, b⟩ : Nd.Rf) = ⟨k', d', b'⟩))) ∧ Below w.heap.size w w' := by
  have hX : decide ((⟨k, d, b⟩ : Nd.Rf) = ⟨k', d', b'⟩) = decide (k = k' ∧ d = d' ∧ b = b') := by rw [Bool.eq_iff_iff]; simp [rf_eq]
  generalize decide ((⟨k, d, b⟩ : Nd.Rf) = ⟨k', d', b'⟩) = X at *
  have hb1 : Blk ((w.alloc (.cells (refRow k d A n c) 26)).alloc (.cells (refRow k' d' A' n' c') 26)) w.heap.size 26 (refRow k d A n c) := (Blk.new w _ _).alloc _
  have hb2 : Blk ((w.alloc (.cells (refRow k d A n c) 26)).alloc (.cells (refRow k' d' A' n' c') 26)) (w.heap.size + 1) 26 (refRow k' d' A' n' c') := Blk.new' (by simp)
  have hbe := ((Below.refl w.heap.size w).alloc (Nat.le_refl _) (.cells (refRow k d A n c) 26)).alloc (by simp) (.cells (refRow k' d' A' n' c') 26)
  have h1 := (h.below hbe).toStr (P := Try.prog) Try.underlying22 Try.underlying5 9 Try.underlying9
  have h2 := (h'.below hbe).toStr (P := Try.prog) Try.underlying22 Try.underlying5 9 Try.underlying9
  have g0 := (hb1.cell 0).trans refRow_zero
  have g0' := (hb2.cell 0).trans refRow_zero
  have g33 := (hb1.cell 33).trans (refRow_last hd)
  have g33' := (hb2.cell 33).trans (refRow_last hd')
  have hrg := hb1.dig
  have hrg' := hb2.dig
  have heq : ∀ w0 : World, (binOp .eql 24 (.agg (bv d).toArray) (.agg (bv d').toArray)).run Try.prog w0 = .ok (.bool (decide (d = d'))) w0 := run_eql_dig d d' hd hd'
  generalize refRow k d A n c = R at *
  generalize refRow k' d' A' n' c' = R' at *
  have hdl := Lib.hid hd
  have hdl' := Lib.hid hd'
  clear h h' hb1 hb2 hd hd'
  replace hbe := Lib.hid hbe
  replace hX := Lib.hid hX
  go_enter Try.func24, Try.ntmps24
  by_cases hk : k = k'
  · subst hk
    by_cases hdd : d = d'
    · simp only [decide_eq_true hdd] at heq
      replace hdd := Lib.hid hdd
      go_wp2_with (first
        | (refine wpList_mid_g (by rfl) 24 _ rfl w.heap.size 1 rfl (bv d) _ hrg Try.underlying24 rfl (by rw [bv_length, hdl.out]; exact info_digest) ?_)
        | (refine wpList_mid_g (by rfl) 24 _ rfl (w.heap.size + 1) 1 rfl (bv d') _ hrg' Try.underlying24 rfl (by rw [bv_length, hdl'.out]; exact info_digest) ?_)
        | fail)
      go_ret
      exact ⟨ret_bool (by rw [hX.out, Bool.eq_iff_iff]; simp [hdd.out, ByteArray.ext_iff]), hbe.out⟩
    · simp only [decide_eq_false hdd] at heq
      replace hdd := Lib.hid hdd
      go_wp2_with (first
        | (refine wpList_mid_g (by rfl) 24 _ rfl w.heap.size 1 rfl (bv d) _ hrg Try.underlying24 rfl (by rw [bv_length, hdl.out]; exact info_digest) ?_)
        | (refine wpList_mid_g (by rfl) 24 _ rfl (w.heap.size + 1) 1 rfl (bv d') _ hrg' Try.underlying24 rfl (by rw [bv_length, hdl'.out]; exact info_digest) ?_)
        | fail)
      go_ret
      exact ⟨ret_bool (by rw [hX.out, Bool.eq_iff_iff]; simp [hdd.out]), hbe.out⟩
  · go_wp2_with fail
    go_ret
    exact ⟨ret_bool (by rw [hX.out, Bool.eq_iff_iff]; simp [hk]), hbe.out⟩
end Go.Proofs.Yteknhmhmepnfjaa

/-
  The reference of chapter 5: Same.
-/
namespace Go.Proofs.Yteknhmhmepnfjaa
open Go.RowKit

theorem no_eq {x y : Nd.No} : x = y ↔ x.child = y.child ∧ x.kind = y.kind ∧ x.path = y.path ∧ x.value = y.value ∧ x.kids = y.kids := by
  constructor
  · rintro rfl; exact ⟨rfl, rfl, rfl, rfl, rfl⟩
  · obtain ⟨a, b, c, d, e⟩ := x
    obtain ⟨a', b', c', d', e'⟩ := y
    rintro ⟨h1, h2, h3, h4, h5⟩
    simp only at h1 h2 h3 h4 h5
    rw [h1, h2, h3, h4, h5]
/-- what the round reads -/
structure SamI (g1 g2 : Nat) (s1 s2 : Value) (b1 b2 o1 o2 : Nat) (l1 l2 : List Value) (W : World) : Prop where
  c1 : W.cell? ⟨g1, 37, none⟩ = some s1
  c2 : W.cell? ⟨g2, 37, none⟩ = some s2
  r1 : W.rangeAt b1 o1 l1
  r2 : W.rangeAt b2 o2 l2
theorem SamI.step {g1 g2 : Nat} {s1 s2 : Value} {b1 b2 o1 o2 : Nat} {l1 l2 : List Value} {W W' : World} (h : SamI g1 g2 s1 s2 b1 b2 o1 o2 l1 l2 W) (hb : Below W.heap.size W W') (h1 : g1 < W.heap.size) (h2 : g2 < W.heap.size) (h3 : b1 < W.heap.size) (h4 : b2 < W.heap.size) : SamI g1 g2 s1 s2 b1 b2 o1 o2 l1 l2 W' :=
  ⟨(hb.cell (p := ⟨g1, 37, none⟩) h1).trans h.c1, (hb.cell (p := ⟨g2, 37, none⟩) h2).trans h.c2, fun j u hu => (hb.cell (p := ⟨b1, o1 + j, none⟩) h3).trans (h.r1 j u hu), fun j u hu => (hb.cell (p := ⟨b2, o2 + j, none⟩) h4).trans (h.r2 j u hu)⟩
theorem str_ne {a b : List UInt8} (h : ¬ a = b) : ¬ (({ data := a.toArray } : ByteArray) = { data := b.toArray }) := by
  intro e
  apply h
  have := congrArg ByteArray.data e
  simpa using this
open Classical in
set_option maxHeartbeats 2000000 in
set_option maxRecDepth 100000 in
theorem ref_Same (S S' : Nat → Prop) (v v' : Value) (x y : Nd.No) (w : World) (hx : NodIn S w v x) (hy : NodIn S' w v' y) (hS : ∀ q, S q → q < w.heap.size) (hS' : ∀ q, S' q → q < w.heap.size) :
    Calls Try.prog 10 #[v, v'] w fun e w' => e = .returned (.bool (decide (x = y))) ∧ Below w.heap.size w w' := by
  obtain ⟨Ap, np, cp, Av, nv, cv, Ac, nc, cc, Ak, nk, kk, vs, rfl, hcd, ⟨hp1, hp2, hp3, hp4⟩, ⟨hv1, hv2, hv3, hv4⟩, ⟨hc1, hc2, hc3, hc4⟩, hnk, hkk, hkm, hin, hall⟩ := hx
  obtain ⟨Bp, mp, dp, Bv, mv, dv, Bc, mc, dc, Bk, mk, jk, us, rfl, kcd, ⟨kp1, kp2, kp3, kp4⟩, ⟨kv1, kv2, kv3, kv4⟩, ⟨kc1, kc2, kc3, kc4⟩, knk, kkk, kkm, kin, kall⟩ := hy
  rw [show (nodCells x.kind Ap np cp Av nv cv x.child.kind x.child.dig Ac nc cc Ak nk kk).toArray = nodRow x.kind Ap np cp Av nv cv x.child.kind x.child.dig Ac nc cc Ak nk kk from rfl, show (nodCells y.kind Bp mp dp Bv mv dv y.child.kind y.child.dig Bc mc dc Bk mk jk).toArray = nodRow y.kind Bp mp dp Bv mv dv y.child.kind y.child.dig Bc mc dc Bk mk jk from rfl]
  have hX : decide (x = y) = decide (x.child = y.child ∧ x.kind = y.kind ∧ x.path = y.path ∧ x.value = y.value ∧ x.kids = y.kids) := by rw [Bool.eq_iff_iff]; simp [no_eq]
  generalize decide (x = y) = X at *
  have hF : NodF w x.kind Ap np cp Av nv cv x.child.kind x.child.dig Ac nc cc Ak nk kk ((w.alloc (.cells (nodRow x.kind Ap np cp Av nv cv x.child.kind x.child.dig Ac nc cc Ak nk kk) 29)).alloc (.cells (nodRow y.kind Bp mp dp Bv mv dv y.child.kind y.child.dig Bc mc dc Bk mk jk) 29)) :=
    NodF.of ((Blk.new w _ _).alloc _) hcd (((Below.refl _ _).alloc (Nat.le_refl _) _).alloc (by simp) _)
  have kF : NodF (w.alloc (.cells (nodRow x.kind Ap np cp Av nv cv x.child.kind x.child.dig Ac nc cc Ak nk kk) 29)) y.kind Bp mp dp Bv mv dv y.child.kind y.child.dig Bc mc dc Bk mk jk ((w.alloc (.cells (nodRow x.kind Ap np cp Av nv cv x.child.kind x.child.dig Ac nc cc Ak nk kk) 29)).alloc (.cells (nodRow y.kind Bp mp dp Bv mv dv y.child.kind y.child.dig Bc mc dc Bk mk jk) 29)) :=
    NodF.of (Blk.new _ _ _) kcd ((Below.refl _ _).alloc (Nat.le_refl _) _)
  have hpB : Bytes w w.heap.size Ap np cp x.path := ⟨hp1, hp2, hp3, hp4.reads fun g _ h => h⟩
  have hvB : Bytes w w.heap.size Av nv cv x.value := ⟨hv1, hv2, hv3, hv4.reads fun g _ h => h⟩
  have hcB : Bytes w w.heap.size Ac nc cc x.child.inl := ⟨hc1, hc2, hc3, hc4.reads fun g _ h => h⟩
  have kpB : Bytes w w.heap.size Bp mp dp y.path := ⟨kp1, kp2, kp3, kp4.reads fun g _ h => h⟩
  have kvB : Bytes w w.heap.size Bv mv dv y.value := ⟨kv1, kv2, kv3, kv4.reads fun g _ h => h⟩
  have kcB : Bytes w w.heap.size Bc mc dc y.child.inl := ⟨kc1, kc2, kc3, kc4.reads fun g _ h => h⟩
  clear hp1 hp2 hp3 hp4 hv1 hv2 hv3 hv4 hc1 hc2 hc3 hc4 kp1 kp2 kp3 kp4 kv1 kv2 kv3 kv4 kc1 kc2 kc3 kc4
  have hs0 := hF.bel.size
  have hcall := ref_SameRef x.child.kind y.child.kind x.child.dig y.child.dig x.child.inl y.child.inl Ac Bc nc mc cc dc _ hcd kcd ((hcB.below hF.bel).more hs0) ((kcB.below hF.bel).more hs0)
  rw [show (⟨x.child.kind, x.child.dig, x.child.inl⟩ : Nd.Rf) = x.child from rfl, show (⟨y.child.kind, y.child.dig, y.child.inl⟩ : Nd.Rf) = y.child from rfl] at hcall
  have hch := hF.ch
  have kch := kF.ch
  have hsz0 : (w.alloc (.cells (nodRow x.kind Ap np cp Av nv cv x.child.kind x.child.dig Ac nc cc Ak nk kk) 29)).heap.size = w.heap.size + 1 := by simp
  rw [hsz0] at kch
  have hstep : ∀ w2, Below ((w.alloc (.cells (nodRow x.kind Ap np cp Av nv cv x.child.kind x.child.dig Ac nc cc Ak nk kk) 29)).alloc (.cells (nodRow y.kind Bp mp dp Bv mv dv y.child.kind y.child.dig Bc mc dc Bk mk jk) 29)).heap.size ((w.alloc (.cells (nodRow x.kind Ap np cp Av nv cv x.child.kind x.child.dig Ac nc cc Ak nk kk) 29)).alloc (.cells (nodRow y.kind Bp mp dp Bv mv dv y.child.kind y.child.dig Bc mc dc Bk mk jk) 29)) w2 →
      NodF w x.kind Ap np cp Av nv cv x.child.kind x.child.dig Ac nc cc Ak nk kk w2 ∧ Blk w2 (w.heap.size + 1) 29 (nodRow y.kind Bp mp dp Bv mv dv y.child.kind y.child.dig Bc mc dc Bk mk jk) := fun w2 hb => by
    refine ⟨hF.step hcd hb, ?_⟩
    have := (kF.step kcd hb).blk
    rwa [hsz0] at this
  clear hF kF hsz0 hs0
  replace hstep := Lib.hid hstep
  replace hpB := Lib.hid hpB
  replace hvB := Lib.hid hvB
  replace kpB := Lib.hid kpB
  replace kvB := Lib.hid kvB
  replace hin := Lib.hid hin
  replace hall := Lib.hid hall
  replace kin := Lib.hid kin
  replace kall := Lib.hid kall
  replace hnk := Lib.hid hnk
  replace knk := Lib.hid knk
  replace hX := Lib.hid hX
  replace hcd := Lib.hid hcd
  replace kcd := Lib.hid kcd
  clear hcB kcB hS hS'
  go_enter Try.func10, Try.ntmps10
  go_wp2_with (first
    | (refine wpList_load_mid rfl 26 _ rfl w.heap.size 3 rfl (refCells x.child.kind x.child.dig Ac nc cc) _ hch Try.underlying26 rfl (by rw [refCells_length hcd.out]; exact info_ref) ?_)
    | (refine wpList_load_mid rfl 26 _ rfl (w.heap.size + 1) 3 rfl (refCells y.child.kind y.child.dig Bc mc dc) _ kch Try.underlying26 rfl (by rw [refCells_length kcd.out]; exact info_ref) ?_)
    | fail)
  refine hcall.mono ?_
  rintro e w1 ⟨rfl, hb1⟩
  obtain ⟨hF1, hB1⟩ := hstep.out w1 hb1
  clear hcall hb1 hstep hch kch
  have c0 := hF1.c0
  have c1 := hF1.c1
  have c2 := hF1.c2
  have c37 := hF1.c37
  have k0 : w1.cell? ⟨w.heap.size + 1, 0, none⟩ = some (.int .i64 y.kind) := hB1.cell 0
  have k1 : w1.cell? ⟨w.heap.size + 1, 1, none⟩ = some (.slice Bp mp dp) := hB1.cell 1
  have k2 : w1.cell? ⟨w.heap.size + 1, 2, none⟩ = some (.slice Bv mv dv) := hB1.cell 2
  have k37 : w1.cell? ⟨w.heap.size + 1, 37, none⟩ = some (.slice Bk mk jk) := (hB1.cell 37).trans (nodRow_last kcd.out)
  have t1 := (hpB.out.below hF1.bel).toStr (P := Try.prog) Try.underlying22 Try.underlying5 9 Try.underlying9
  have t2 := (kpB.out.below hF1.bel).toStr (P := Try.prog) Try.underlying22 Try.underlying5 9 Try.underlying9
  have t3 := (hvB.out.below hF1.bel).toStr (P := Try.prog) Try.underlying22 Try.underlying5 9 Try.underlying9
  have t4 := (kvB.out.below hF1.bel).toStr (P := Try.prog) Try.underlying22 Try.underlying5 9 Try.underlying9
  have hbel := Lib.hid hF1.bel
  replace hF1 := Lib.hid hF1
  replace hB1 := Lib.hid hB1
  by_cases hC : ¬ x.child = y.child
  · have hn := Lib.hid (show X = false by rw [hX.out]; simp [hC])
    rw [decide_eq_false hC]
    clear hX
    go_wp2_with fail
    go_ret
    exact ⟨ret_bool hn.out.symm, hbel.out⟩
  replace hC := Classical.not_not.1 hC
  rw [decide_eq_true hC]
  replace hC := Lib.hid hC
  by_cases hK : ¬ x.kind = y.kind
  · have hn := Lib.hid (show X = false by rw [hX.out]; simp [hK])
    clear hX
    go_wp2_with fail
    go_ret
    exact ⟨ret_bool hn.out.symm, hbel.out⟩
  replace hK := Classical.not_not.1 hK
  rw [← hK] at k0
  replace hK := Lib.hid hK
  by_cases hP : ¬ x.path = y.path
  · have hn := Lib.hid (show X = false by rw [hX.out]; simp [hP])
    clear hX
    go_wp2_with fail
    go_ret
    exact ⟨ret_bool hn.out.symm, hbel.out⟩
  replace hP := Classical.not_not.1 hP
  rw [← hP] at t2
  replace hP := Lib.hid hP
  by_cases hV : ¬ x.value = y.value
  · have hn := Lib.hid (show X = false by rw [hX.out]; simp [hV])
    clear hX
    go_wp2_with fail
    go_ret
    exact ⟨ret_bool hn.out.symm, hbel.out⟩
  replace hV := Classical.not_not.1 hV
  rw [← hV] at t4
  replace hV := Lib.hid hV
  by_cases hL : ¬ nk = mk
  · have hn := Lib.hid (show X = false by
      rw [hX.out, decide_eq_false]
      rintro ⟨_, _, _, _, h⟩
      exact hL (by rw [hnk.out, knk.out, h]))
    have hL' : ¬ (nk : Int) = mk := by omega
    clear hX
    go_wp2_with fail
    go_ret
    exact ⟨ret_bool hn.out.symm, hbel.out⟩
  replace hL := Classical.not_not.1 hL
  subst hL
  have hnk63 : (nk : Int) ≤ 9223372036854775807 := by unfold maxLen at hkm; omega
  go_wp2_with fail
  clear c0 c1 c2 c37 k0 k1 k2 k37 t1 t2 t3 t4
  go_loopw [6] (fun i wr => ∃ j : Nat, j ≤ nk ∧ i = .int .i64 j ∧ x.kids.take j = y.kids.take j ∧ NodF w x.kind Ap np cp Av nv cv x.child.kind x.child.dig Ac nc cc Ak nk kk wr ∧ Blk wr (w.heap.size + 1) 29 (nodRow y.kind Bp mp dp Bv mv dv y.child.kind y.child.dig Bc mc dc Bk nk jk)) (fun i _ => nk - (intOf i).toNat)
  case atStart => exact ⟨0, Nat.zero_le _, rfl, rfl, hF1.out, hB1.out⟩
  case round =>
    clear hF1 hB1 hbel
    obtain ⟨j, hj, rfl, hpre, hFr, hBr⟩ := hrel
    have hbs := hFr.bel.size
    have hbl := hBr.lt
    have c37 := hFr.c37
    have k37 : wr.cell? ⟨w.heap.size + 1, 37, none⟩ = some (.slice Bk nk jk) := (hBr.cell 37).trans (nodRow_last kcd.out)
    by_cases hlt : j < nk
    · have hlt' : (j : Int) < nk := by omega
      have hjx : j < x.kids.length := by rw [← hnk.out]; exact hlt
      have hjy : j < y.kids.length := by rw [← knk.out]; exact hlt
      have hmv : ∀ (T : Nat → Prop) q, T q → q < w.heap.size → T q ∧ wr.heap[q]? = w.heap[q]? := fun T q h1 h2 => ⟨h1, hFr.bel.block q h2⟩
      obtain ⟨g1, o1, A1, n1, c1, rfl, hSg1, hg1, hr1, hd1, hby1⟩ := refs_at (hin.out.move (hmv S) hbs) (hall.out.imp fun v x hx => hx.move (hmv S) hbs) hnk.out j hjx
      obtain ⟨g2, o2, A2, n2, c2, rfl, hSg2, hg2, hr2, hd2, hby2⟩ := refs_at (kin.out.move (hmv S') hbs) (kall.out.imp fun v x hx => hx.move (hmv S') hbs) knk.out j hjy
      have hcall := ref_SameRef x.kids[j].kind y.kids[j].kind x.kids[j].dig y.kids[j].dig x.kids[j].inl y.kids[j].inl A1 A2 n1 n2 c1 c2 wr.drew hd1 hd2 hby1.drew hby2.drew
      rw [show (⟨x.kids[j].kind, x.kids[j].dig, x.kids[j].inl⟩ : Nd.Rf) = x.kids[j] from rfl, show (⟨y.kids[j].kind, y.kids[j].dig, y.kids[j].inl⟩ : Nd.Rf) = y.kids[j] from rfl] at hcall
      have htx : x.kids.take (j + 1) = x.kids.take j ++ [x.kids[j]] := List.take_succ_eq_append_getElem hjx
      have hty : y.kids.take (j + 1) = y.kids.take j ++ [y.kids[j]] := List.take_succ_eq_append_getElem hjy
      have hno : ¬ x.kids[j] = y.kids[j] → X = false := fun h => by
        rw [hX.out, decide_eq_false]
        rintro ⟨_, _, _, _, e⟩
        apply h
        have : x.kids[j]? = y.kids[j]? := by rw [e]
        rw [List.getElem?_eq_getElem hjx, List.getElem?_eq_getElem hjy] at this
        injection this
      have hI : SamI w.heap.size (w.heap.size + 1) (.slice (some ⟨g1, o1, none⟩) nk kk) (.slice (some ⟨g2, o2, none⟩) nk jk) g1 g2 (o1 + j * 34) (o2 + j * 34) (refCells x.kids[j].kind x.kids[j].dig A1 n1 c1) (refCells y.kids[j].kind y.kids[j].dig A2 n2 c2) wr := ⟨c37, k37, hr1, hr2⟩
      have hl1 := Lib.hid (refCells_length (k := x.kids[j].kind) (A := A1) (n := n1) (c := c1) hd1)
      have hl2 := Lib.hid (refCells_length (k := y.kids[j].kind) (A := A2) (n := n2) (c := c2) hd2)
      clear hby1 hby2 hr1 hr2 hmv hd1 hd2
      replace hpre := Lib.hid hpre
      replace htx := Lib.hid htx
      replace hty := Lib.hid hty
      replace hno := Lib.hid hno
      replace hI := Lib.hid hI
      replace hFr := Lib.hid hFr
      replace hBr := Lib.hid hBr
      generalize x.kids[j] = rx at *
      generalize y.kids[j] = ry at *
      go_wp2_with fail
      refine wp_region_held_drew (S := (SamI w.heap.size (w.heap.size + 1) (.slice (some ⟨g1, o1, none⟩) nk kk) (.slice (some ⟨g2, o2, none⟩) nk jk) g1 g2 (o1 + j * 34) (o2 + j * 34) (refCells rx.kind rx.dig A1 n1 c1) (refCells ry.kind ry.dig A2 n2 c2))) (by kernel_rfl) (by exact ⟨hI.out.c1, hI.out.c2, hI.out.r1, hI.out.r2⟩) (fun hS => ?_)
      (refine hTake (i := 0) (v := ?v1) rfl (by kernel_rfl) (by kernel_rfl) (by kernel_rfl) (fun _ _ _ h => h) (Or.inl ⟨by rfl, ?y1⟩) hS ?r1; (case y1 => (intro W hW; (go_simp); (try with_reducible rfl); done)); try simp only [Act.put, List.setIfInBounds_toArray, List.set_cons_zero, List.set_cons_succ])
      (refine hTake (i := 1) (v := ?v2) rfl (by kernel_rfl) (by kernel_rfl) (by kernel_rfl) (fun _ _ _ h => h) (Or.inl ⟨by rfl, ?y2⟩) hS ?r2; (case y2 => (intro W hW; ((have g := hW.c1; go_simp)); (try with_reducible rfl); done)); try simp only [Act.put, List.setIfInBounds_toArray, List.set_cons_zero, List.set_cons_succ])
      (refine hTake (i := 2) (v := ?v3) rfl (by kernel_rfl) (by kernel_rfl) (by kernel_rfl) (fun _ _ _ h => h) (Or.inl ⟨by rfl, ?y3⟩) hS ?r3; (case y3 => (intro W hW; (go_simp); (try with_reducible rfl); done)); try simp only [Act.put, List.setIfInBounds_toArray, List.set_cons_zero, List.set_cons_succ])
      (refine hTake (i := 3) (v := ?v4) rfl (by kernel_rfl) (by kernel_rfl) (by kernel_rfl) (fun _ _ _ h => h) (Or.inl ⟨by rfl, ?y4⟩) hS ?r4; (case y4 => (intro W hW; (go_simp); (try with_reducible rfl); done)); try simp only [Act.put, List.setIfInBounds_toArray, List.set_cons_zero, List.set_cons_succ])
      (refine hTake (i := 4) rfl (by kernel_rfl) (by kernel_rfl) (by kernel_rfl) (fun _ _ _ h => h) (yieldsIf_load_mid (by rfl) _ _ rfl _ _ rfl (refCells rx.kind rx.dig A1 n1 c1) _ (fun W hW => (by exact hW.r1)) Try.underlying26 rfl (by rw [hl1.out]; exact info_ref)) hS ?_; try simp only [Act.put, List.setIfInBounds_toArray, List.set_cons_zero, List.set_cons_succ])
      (refine hTake (i := 5) (v := ?v5) rfl (by kernel_rfl) (by kernel_rfl) (by kernel_rfl) (fun _ _ _ h => h) (Or.inl ⟨by rfl, ?y5⟩) hS ?r5; (case y5 => (intro W hW; (go_simp); (try with_reducible rfl); done)); try simp only [Act.put, List.setIfInBounds_toArray, List.set_cons_zero, List.set_cons_succ])
      (refine hTake (i := 6) (v := ?v6) rfl (by kernel_rfl) (by kernel_rfl) (by kernel_rfl) (fun _ _ _ h => h) (Or.inl ⟨by rfl, ?y6⟩) hS ?r6; (case y6 => (intro W hW; ((have g := hW.c2; go_simp)); (try with_reducible rfl); done)); try simp only [Act.put, List.setIfInBounds_toArray, List.set_cons_zero, List.set_cons_succ])
      (refine hTake (i := 7) (v := ?v7) rfl (by kernel_rfl) (by kernel_rfl) (by kernel_rfl) (fun _ _ _ h => h) (Or.inl ⟨by rfl, ?y7⟩) hS ?r7; (case y7 => (intro W hW; (go_simp); (try with_reducible rfl); done)); try simp only [Act.put, List.setIfInBounds_toArray, List.set_cons_zero, List.set_cons_succ])
      (refine hTake (i := 8) (v := ?v8) rfl (by kernel_rfl) (by kernel_rfl) (by kernel_rfl) (fun _ _ _ h => h) (Or.inl ⟨by rfl, ?y8⟩) hS ?r8; (case y8 => (intro W hW; (go_simp); (try with_reducible rfl); done)); try simp only [Act.put, List.setIfInBounds_toArray, List.set_cons_zero, List.set_cons_succ])
      (refine hTake (i := 9) rfl (by kernel_rfl) (by kernel_rfl) (by kernel_rfl) (fun _ _ _ h => h) (yieldsIf_load_mid (by rfl) _ _ rfl _ _ rfl (refCells ry.kind ry.dig A2 n2 c2) _ (fun W hW => (by exact hW.r2)) Try.underlying26 rfl (by rw [hl2.out]; exact info_ref)) hS ?_; try simp only [Act.put, List.setIfInBounds_toArray, List.set_cons_zero, List.set_cons_succ])
      (refine hOne (i := 10) rfl (by kernel_rfl) (fun K hK => ?_))
      rw [if_pos (by rfl)]
      go_simp
      refine hcall.mono ?_
      rintro e w2 ⟨rfl, hb2⟩
      have hI2 := SamI.step hS hb2 (by show w.heap.size < wr.heap.size; omega) hbl hg1 hg2
      have hb2' : Below wr.heap.size wr w2 := ((Below.refl wr.heap.size wr).drew).trans hb2
      have hF2 := hFr.out.step hcd.out hb2'
      have hB2 := hBr.out.below hb2' hbl
      clear hcall hb2 hb2'
      replace hF2 := Lib.hid hF2
      replace hB2 := Lib.hid hB2
      (refine hK.out _ _ (by exact hI2) (fun hS => ?_); clear hK K; try simp only [Act.put, List.setIfInBounds_toArray, List.set_cons_zero, List.set_cons_succ])
      (refine hTake (i := 11) (v := ?v9) rfl (by kernel_rfl) (by kernel_rfl) (by kernel_rfl) (fun _ _ _ h => h) (Or.inl ⟨by rfl, ?y9⟩) hS ?r9; (case y9 => (intro W hW; (go_simp); (try with_reducible rfl); done)); try simp only [Act.put, List.setIfInBounds_toArray, List.set_cons_zero, List.set_cons_succ])
      refine wpAnyH_done (by kernel_rfl) ?_ _
      clear hI2
      by_cases he : ¬ rx = ry
      · have hn := Lib.hid (hno.out he)
        rw [decide_eq_false he]
        clear hno hX
        go_wp2_with fail
        go_ret
        exact ⟨ret_bool hn.out.symm, hF2.out.bel⟩
      · replace he := Classical.not_not.1 he
        rw [decide_eq_true he]
        replace he := Lib.hid he
        go_wp2_with fail
        refine ⟨⟨j + 1, by omega, by go_num, by rw [htx.out, hty.out, hpre.out, he.out], hF2.out, hB2.out⟩, ?_⟩
        simp [intOf]; omega
    · obtain rfl : j = nk := by omega
      have hlt' : ¬ (j : Int) < j := by omega
      have hxk : x.kids.take j = x.kids := List.take_of_length_le (by rw [hnk.out]; exact Nat.le_refl _)
      have hyk : y.kids.take j = y.kids := List.take_of_length_le (by rw [knk.out]; exact Nat.le_refl _)
      have hn := Lib.hid (show X = true by rw [hX.out, decide_eq_true]; exact ⟨hC.out, hK.out, hP.out, hV.out, by rw [← hxk, ← hyk]; exact hpre⟩)
      clear hX hpre hxk hyk
      have hbel := Lib.hid hFr.bel
      replace hFr := Lib.hid hFr
      replace hBr := Lib.hid hBr
      go_wp2_with fail
      go_ret
      exact ⟨ret_bool hn.out.symm, hbel.out⟩
end Go.Proofs.Yteknhmhmepnfjaa

/-
  From a law's contract ('it returns true, and what was there is as it was') to its row: any number of arguments, none of them opened for its own sake.
-/
namespace Go.Proofs.Yteknhmhmepnfjaa
open Go.RowKit Go.WideShapes Go.ChangeShapes Go.ChangeAt Go.WideElems

/-- what a law's walk shows -/
def PostT (w : World) (e : Ending) (w' : World) : Prop := e = .returned (.bool true) ∧ Below w.heap.size w w'

section
variable {H : Type} {enc : TypeId × Value → H} {P : Program}

theorem trodAll_stays (hl : laidOutB P = true) {W W' : World} (hb : Below W.heap.size W W') {sp : Nat → Bool} :
    ∀ (ts : List TypeId) (vs : List Value) (ds : List (DataW H)) (ps : List MemPlace), DataW.TrodAll enc P W 0 (fun _ => true) true ts vs ds ps →
      (∀ t ∈ ts, P.readableRec t = true ∧ t < P.types.size) → (∀ p ∈ ps, p.block < W.heap.size) → (∀ p ∈ ps, sp p.block = true) → DataW.TrodAll enc P W' 0 sp true ts vs ds ps := by
  intro ts
  induction ts with
  | nil =>
    intro vs ds ps h _ _ _
    obtain ⟨rfl, rfl, rfl⟩ := trodAll_nil h
    rfl
  | cons t ts ih =>
    intro vs ds ps h ht hlt hsp
    obtain ⟨v, vs', d, ds', p, q, rfl, rfl, rfl, h0, h1⟩ := trodAll_cons h
    obtain ⟨hr, hrow⟩ := ht t (List.mem_cons_self ..)
    exact trodAll_cons_mk (Trod_stays hl hr hrow h0 (fun x hx => hb.same (hlt x (List.mem_append_left _ hx))) (fun x hx => hsp x (List.mem_append_left _ hx)))
      (ih vs' ds' q h1 (fun t ht' => ht t (List.mem_cons_of_mem _ ht')) (fun x hx => hlt x (List.mem_append_right _ hx)) (fun x hx => hsp x (List.mem_append_right _ hx)))

theorem law_post {f : Func} {s : ChangeSpec} {W W' : World} {args : Array Value} {ds gs : List (DataW H)} {before : List MemPlace} {tb : TypeId}
    (hW : DataW.Whole enc P f.params.toList s.vars false W args.toList ds gs before) (hvars : s.vars = [])
    (hl : laidOutB P = true) (hts' : (f.params.toList.all fun t => P.readableRec t && decide (t < P.types.size)) = true)
    (hbool : P.underlying tb = some .bool) (hres : f.resultTypes = #[tb])
    (hs1 : (s.fn H (ds ++ gs)).results = [.lit (.bool true)]) (hs2 : (s.fn H (ds ++ gs)).args = ds) (hs3 : (s.fn H (ds ++ gs)).vars = [])
    (hb : Below W.heap.size W W') :
    s.post enc P f false true false false W args (.bool true) W' := by
  have hts : ∀ t ∈ f.params.toList, P.readableRec t = true ∧ t < P.types.size := by
    intro t ht
    have := List.all_eq_true.1 hts' t ht
    simpa [Bool.and_eq_true] using this
  have hlt : ∀ p ∈ before, p.block < W.heap.size := fun p hp => hW.lt p hp
  have hW0 := hW
  obtain ⟨p, q, hA, hV, rfl, _, _⟩ := hW
  rw [hvars] at hV
  have hgq : gs = [] ∧ q = [] := by
    cases gs with
    | nil => exact ⟨rfl, by simpa [DataW.TrodVars] using hV⟩
    | cons a b => simp [DataW.TrodVars] at hV
  obtain ⟨rfl, rfl⟩ := hgq
  have hshut : ∀ (b : Nat) (sp : Nat → Bool) (hd : Bool), DataW.TrodAll enc P W' b sp hd f.resultTypes.toList ((Value.bool true).resultList f.resultTypes.size) (s.fn H (ds ++ [])).results [] := by
    intro b sp hd
    rw [hres, hs1]
    exact trodAll_cons_mk (shut_bool hbool _) trodAll_mk0
  have hargs : ∀ sp : Nat → Bool, (∀ x ∈ p ++ [], sp x.block = true) → DataW.TrodAll enc P W' 0 sp true f.params.toList args.toList (s.fn H (ds ++ [])).args p := by
    intro sp hsp
    rw [hs2]
    exact trodAll_stays hl hb _ _ _ _ hA hts (fun x hx => hlt x (by simpa using hx)) (fun x hx => hsp x (by simpa using hx))
  have hvars' : ∀ sp : Nat → Bool, DataW.TrodVars enc P W' sp s.vars (s.fn H (ds ++ [])).vars [] := by
    intro sp
    rw [hvars, hs3]
    rfl
  refine ⟨ds, [], p ++ [], [], p, [], hW0, hshut _ _ _, hargs _ (fun x hx => by simpa using hlt x hx), hvars' _, World.keptBut_mono (fun x hx => ⟨hx, ?_⟩) (hb.frame (· ∈ p ++ [])), fun h => by cases h⟩
  exact Or.inr (by simpa using hx)

theorem reach_eq : reachBytes = 140737488351232 := by decide
theorem wf_int {x : Int} (h : (Lit.int .i64 x).wf = true) : -9223372036854775808 ≤ x ∧ x ≤ 9223372036854775807 := by
  simpa [Lit.wf, IntKind.min, IntKind.max, IntKind.signed, IntKind.bits] using h
/-- how many elements a datum's slice has -/
def dlen : DataW H → Nat
  | .slice elems _ => elems.length
  | _ => 0

theorem dlen_bulk (d : DataW H) : dlen d ≤ Rows.uptoBulk d := by
  cases d with
  | slice elems spare =>
    have : ∀ l : List (DataW H), l.length ≤ Rows.uptoBulkAll l := by
      intro l
      induction l with
      | nil => simp [Rows.uptoBulkAll]
      | cons x r ih =>
        have : 1 ≤ Rows.uptoBulk x := by
          cases x with
          | lit l => cases l <;> simp [Rows.uptoBulk]
          | _ => simp [Rows.uptoBulk]
        simp only [Rows.uptoBulkAll, List.length_cons]; omega
    have := this elems
    simp only [dlen, Rows.uptoBulk]; omega
  | _ => simp [dlen]
theorem small_all {l : List (DataW H)} (hk : Rows.uptoSmall H l = true) : Rows.uptoBulkAll l ≤ 1048576 := of_decide_eq_true hk

/-- the form's own reach, of an argument that is a slice -/
theorem reach_slice {ts : List TypeId} {ds : List (DataW H)} (h : (DataW.weightsEach P ts ds).all (· ≤ reachBytes) = true) {j : Nat} {t e : TypeId} {d : DataW H} (ht : ts[j]? = some t) (hd : ds[j]? = some d)
    (hu : P.underlying t = some (.slice e)) (hby : P.bytesOf e = 1) : dlen d ≤ 140737488351232 := by
  cases d with
  | slice elems spare =>
    have := sized_slice (P := P) h ht hd hu
    rw [hby] at this
    simp only [dlen]
    have e : reachBytes = 140737488351232 := by decide
    omega
  | _ => simp [dlen]

/-- a byte slice that came in -/
theorem open_bytes {T E : TypeId} {w : World} {base b0 : Nat} {r : Reach} {sp : Nat → Bool} {held : Bool} {v : Value} {d : DataW H} {p : List MemPlace} (hT : P.underlying T = some (.slice E)) (hE : P.underlying E = some (.int .u8)) (hC : P.cellsOf E = 1)
    (hv : Value.okWide P w r b0 T v) (h : DataW.Trod enc P w base sp held T v d p) :
    ∃ A n c l, v = .slice A n c ∧ Bytes w w.heap.size A n c l ∧ n ≤ dlen d := by
  obtain ⟨a0, len, cap, rfl⟩ := okWide_slice hT hv
  obtain ⟨fuel, hf⟩ := h
  rcases open_ints hT hE hC hf with ⟨hcs, hx⟩ | ⟨a, len', cap', zs, hcs, _, hl, hm, hz, hx, hcell, hwz⟩
  · simp only [Value.cells, List.cons.injEq, Value.slice.injEq, and_true] at hcs
    obtain ⟨rfl, rfl, rfl⟩ := hcs
    exact ⟨none, 0, 0, [], rfl, Bytes.none_ _ _ _ (Nat.zero_le _), Nat.zero_le _⟩
  · simp only [Value.cells, List.cons.injEq, Value.slice.injEq, and_true] at hcs
    obtain ⟨rfl, rfl, rfl⟩ := hcs
    have hle : len ≤ zs.length := by rw [hz]; split <;> omega
    have hd : d = .slice (lits .u8 (zs.take len)) (lits .u8 (zs.drop len)) := (Prod.ext_iff.1 hx).1
    have hlen : ((zs.take len).map fun z => UInt8.ofNat z.toNat).length = len := by simp; omega
    refine ⟨some a, len, cap, (zs.take len).map fun z => UInt8.ofNat z.toNat, rfl, ⟨hlen.symm, hl, hm, by rw [bv_length, hlen, Nat.mul_one], fun hp => ?_⟩, ?_⟩
    · obtain ⟨b, off, rfl, hc⟩ := ints_at hcell (by omega)
      have hb : b < w.heap.size := World.block_lt_of_cell? w _ (hc 0 (by omega))
      refine ⟨b, off, rfl, hb, fun j u hu => ?_⟩
      have hj : j < ((zs.take len).map fun z => UInt8.ofNat z.toNat).length := by
        have := (List.getElem?_eq_some_iff.1 hu).1
        rwa [bv_length] at this
      rw [bv_at _ j hj] at hu
      cases hu
      have hj2 : j < zs.length := by omega
      have hj3 : j < (zs.take len).length := by simp; omega
      rw [hc j hj2]
      have hmem : zs[j] ∈ zs := List.getElem_mem hj2
      have hwf := hwz _ hmem
      have hbd : 0 ≤ zs[j] ∧ zs[j] ≤ 255 := by simpa [Lit.wf, IntKind.min, IntKind.max, IntKind.signed, IntKind.bits] using hwf
      simp only [List.getElem_map, List.getElem_take]
      have : (((UInt8.ofNat zs[j].toNat).toNat : Nat) : Int) = zs[j] := by simp; omega
      rw [this]
      simp [List.getD, hj2]
    · rw [hd]
      simp [dlen, lits]; omega
end
end Go.Proofs.Yteknhmhmepnfjaa

/-
  A node that is handed in.
-/
namespace Go.Proofs.Yteknhmhmepnfjaa
open Go.RowKit Go.WideShapes Go.ChangeShapes Go.ChangeAt Go.WideElems Go.Deep
section
variable {H : Type} {enc : TypeId × Value → H} {w : World} {base : Nat} {sp : Nat → Bool} {hd : Bool} {fuel : Nat} {cs : List Value} {x : DataW H × List MemPlace}
/-- byte slices, by their cells -/
theorem trod_bytes (h : DataW.trod enc Try.prog w base sp hd fuel 22 cs = some x) : ∃ A n c l, cs = [.slice A n c] ∧ Bytes w w.heap.size A n c l := by
  rcases open_ints Try.underlying22 Try.underlying5 (by kernel_rfl) h with ⟨rfl, hx⟩ | ⟨a, len, cap, zs, rfl, _, hl, hm, hz, hx, hcell, hwz⟩
  · exact ⟨none, 0, 0, [], rfl, Bytes.none_ _ _ _ (Nat.zero_le _)⟩
  · have hle : len ≤ zs.length := by rw [hz]; split <;> omega
    have hlen : ((zs.take len).map fun z => UInt8.ofNat z.toNat).length = len := by simp; omega
    refine ⟨some a, len, cap, (zs.take len).map fun z => UInt8.ofNat z.toNat, rfl, ⟨hlen.symm, hl, hm, by rw [bv_length, hlen, Nat.mul_one], fun hp => ?_⟩⟩
    obtain ⟨b, off, rfl, hc⟩ := ints_at hcell (by omega)
    have hb : b < w.heap.size := World.block_lt_of_cell? w _ (hc 0 (by omega))
    refine ⟨b, off, rfl, hb, fun j u hu => ?_⟩
    have hj : j < ((zs.take len).map fun z => UInt8.ofNat z.toNat).length := by
      have := (List.getElem?_eq_some_iff.1 hu).1
      rwa [bv_length] at this
    rw [bv_at _ j hj] at hu
    cases hu
    have hj2 : j < zs.length := by omega
    rw [hc j hj2]
    have hwf := hwz _ (List.getElem_mem hj2)
    have hbd : 0 ≤ zs[j] ∧ zs[j] ≤ 255 := by simpa [Lit.wf, IntKind.min, IntKind.max, IntKind.signed, IntKind.bits] using hwf
    simp only [List.getElem_map, List.getElem_take]
    have : (((UInt8.ofNat zs[j].toNat).toNat : Nat) : Int) = zs[j] := by simp; omega
    rw [this]
    simp [List.getD, hj2]
theorem Bytes.inS {A : Option Addr} {n c : Nat} {l : List UInt8} (h : Bytes w w.heap.size A n c l) : InS (fun q => q < w.heap.size) w 1 A n (bv l) :=
  ⟨h.reads.1, fun hp => by
    obtain ⟨g, o, e, hg, hc⟩ := h.reads.2 hp
    exact ⟨g, o, e, hg, hg, hc⟩⟩
/-- a digest -/
theorem trod_dig (h : DataW.trod enc Try.prog w base sp hd fuel 24 cs = some x) : ∃ d : List UInt8, cs = bv d ∧ d.length = 32 := by
  obtain ⟨xs, m, _, _, hl, _, hi⟩ := DataW.trod_array Try.underlying24 h
  have hl32 : cs.length = 32 := hl
  have hb : ∀ i, i < 32 → ∃ b : UInt8, cs[i]? = some (.int .u8 (b.toNat : Int)) := by
    intro i h32
    have := hi i h32
    have hc1 : Try.prog.cellsOf 5 = 1 := by kernel_rfl
    rw [hc1, Nat.mul_one] at this
    have hxi : ∃ y, xs[i]? = some y := ⟨xs[i]'(by simp_all), List.getElem?_eq_getElem _⟩
    obtain ⟨y, hy⟩ := hxi
    rw [hy] at this
    obtain ⟨n, hn, _, hw⟩ := DataW.trod_int Try.underlying5 this
    have hbd : 0 ≤ n ∧ n ≤ 255 := by simpa [Lit.wf, IntKind.min, IntKind.max, IntKind.signed, IntKind.bits] using hw
    refine ⟨UInt8.ofNat n.toNat, ?_⟩
    have e1 : (((UInt8.ofNat n.toNat).toNat : Nat) : Int) = n := by simp; omega
    rw [e1]
    have e2 : ((cs.drop i).take 1)[0]? = some (.int .u8 n) := by rw [hn]; rfl
    rwa [List.getElem?_take, if_pos (by decide), List.getElem?_drop, Nat.add_zero] at e2
  clear hi h
  have key : ∀ (k : Nat) (l : List Value), l.length = k → (∀ i, i < k → ∃ b : UInt8, l[i]? = some (.int .u8 (b.toNat : Int))) → ∃ d : List UInt8, l = bv d ∧ d.length = k := by
    intro k
    induction k with
    | zero => intro l hl _; exact ⟨[], by rw [List.eq_nil_of_length_eq_zero hl]; rfl, rfl⟩
    | succ k ih =>
      intro l hl hb
      match l, hl with
      | v :: l, hl =>
        obtain ⟨b, hb0⟩ := hb 0 (by omega)
        obtain ⟨d, hd, hk⟩ := ih l (by simpa using hl) (fun i hi => by
          obtain ⟨b, hb⟩ := hb (i + 1) (by omega)
          exact ⟨b, by simpa using hb⟩)
        have hv : v = .int .u8 (b.toNat : Int) := by simpa using hb0
        exact ⟨b :: d, by rw [hd, hv]; rfl, by simp [hk]⟩
  exact key 32 cs hl32 hb
/-- a reference -/
theorem trod_ref (h : DataW.trod enc Try.prog w base sp hd fuel 26 cs = some x) : ∃ (r : Nd.Rf) (A : Option Addr) (n c : Nat), cs = refCells r.kind r.dig A n c ∧ r.dig.length = 32 ∧ Bytes w w.heap.size A n c r.inl := by
  obtain ⟨xs, m, _, _, hl, hxl, hf⟩ := DataW.trod_struct Try.underlying26 h
  have hl34 : cs.length = 34 := hl
  have hx : ∀ i, i < 3 → ∃ y, xs[i]? = some y := fun i hi => ⟨xs[i]'(by simp_all), List.getElem?_eq_getElem _⟩
  obtain ⟨y0, h0⟩ := hx 0 (by omega)
  obtain ⟨y1, h1⟩ := hx 1 (by omega)
  obtain ⟨y2, h2⟩ := hx 2 (by omega)
  have f0 := (hf 0 _ rfl).trans h0
  have f1 := (hf 1 _ rfl).trans h1
  have f2 := (hf 2 _ rfl).trans h2
  obtain ⟨k, hk, _, _⟩ := DataW.trod_int Try.underlying3 f0
  obtain ⟨d, hd', hdl⟩ := trod_dig f1
  obtain ⟨A, n, c, l, hb, hB⟩ := trod_bytes f2
  have k0 : cs.take 1 = [.int .i64 k] := hk
  have k1 : (cs.drop 1).take 32 = bv d := hd'
  have k2 : (cs.drop 33).take 1 = [.slice A n c] := hb
  refine ⟨⟨k, d, l⟩, A, n, c, ?_, hdl, hB⟩
  have e1 : cs = cs.take 1 ++ ((cs.drop 1).take 32 ++ (cs.drop 33).take 1) := by
    have a1 : (cs.drop 33).take 1 = cs.drop 33 := List.take_of_length_le (by rw [List.length_drop]; omega)
    have a2 : cs.drop 33 = (cs.drop 1).drop 32 := by rw [List.drop_drop]
    rw [a1, a2, List.take_append_drop, List.take_append_drop]
  rw [e1, k0, k1, k2]
  rfl
/-- references -/
theorem trod_refs (h : DataW.trod enc Try.prog w base sp hd fuel 27 cs = some x) : ∃ (A : Option Addr) (n c : Nat) (vs : List Value) (rs : List Nd.Rf), cs = [.slice A n c] ∧ n = rs.length ∧ n ≤ c ∧ c ≤ maxLen ∧ InS (fun q => q < w.heap.size) w 34 A n (flat vs) ∧ All2 (RefIn (fun q => q < w.heap.size) w) vs rs := by
  rcases open_slice Try.underlying27 h with ⟨rfl, _⟩ | ⟨a, len, cap, m, n, D, Pl, rfl, _, hl, hm, hmm, _, hi⟩
  · exact ⟨none, 0, 0, [], [], rfl, rfl, Nat.le_refl _, Nat.zero_le _, ⟨rfl, fun h => by omega⟩, All2.nil⟩
  · have hlm : len ≤ m := by rw [hmm]; split <;> omega
    have hc34 : Try.prog.cellsOf 26 = 34 := by kernel_rfl
    rw [hc34] at hi
    have hel : ∀ i, i < len → ∃ (r : Nd.Rf) (A : Option Addr) (n c : Nat), (∀ j u, (refCells r.kind r.dig A n c)[j]? = some u → w.cell? (a.add (i * 34 + j)) = some u) ∧ r.dig.length = 32 ∧ Bytes w w.heap.size A n c r.inl := by
      intro i h
      obtain ⟨cs', hcs, ht⟩ := hi i (by omega)
      obtain ⟨r, A, n, c, rfl, hd, hB⟩ := trod_ref ht
      obtain ⟨_, hcl, hat⟩ := World.cells?_some hcs
      refine ⟨r, A, n, c, fun j u hu => ?_, hd, hB⟩
      have hj : j < 34 := by
        have := (List.getElem?_eq_some_iff.1 hu).1
        rwa [refCells_length hd] at this
      have := hat j hj
      rw [hu] at this
      rw [← Go.Deep.add_add]
      exact this
    clear hi hmm
    have key : ∀ k, k ≤ len → ∃ (vs : List Value) (rs : List Nd.Rf), rs.length = k ∧ (flat vs).length = k * 34 ∧ All2 (RefIn (fun q => q < w.heap.size) w) vs rs ∧ (∀ j u, (flat vs)[j]? = some u → w.cell? (a.add j) = some u) := by
      intro k
      induction k with
      | zero => intro _; exact ⟨[], [], rfl, rfl, All2.nil, fun j u hu => by simp [flat] at hu⟩
      | succ k ih =>
        intro hk
        obtain ⟨vs, rs, h1, h2, h3, h4⟩ := ih (by omega)
        obtain ⟨r, A, n, c, hcell, hd, hB⟩ := hel k (by omega)
        have hfl : flat (vs ++ [.agg (refRow r.kind r.dig A n c)]) = flat vs ++ refCells r.kind r.dig A n c := by rw [flat_append, flat_one]; rfl
        refine ⟨vs ++ [.agg (refRow r.kind r.dig A n c)], rs ++ [r], by simp [h1], ?_, h3.snoc ⟨A, n, c, rfl, hd, hB.len, hB.cap, hB.lim, hB.inS⟩, fun j u hu => ?_⟩
        · rw [hfl, List.length_append, h2, refCells_length hd]; omega
        · rw [hfl, List.getElem?_append, h2] at hu
          split at hu
          · exact h4 j u hu
          · have := hcell _ u hu
            rwa [show k * 34 + (j - k * 34) = j by omega] at this
    obtain ⟨vs, rs, h1, h2, h3, h4⟩ := key len (Nat.le_refl _)
    refine ⟨some a, len, cap, vs, rs, rfl, h1.symm, hl, hm, ⟨h2, fun hp => ?_⟩, h3⟩
    have h0 : (flat vs)[0]? = some ((flat vs)[0]'(by omega)) := List.getElem?_eq_getElem _
    have hc0 := h4 0 _ h0
    obtain ⟨g, o, st⟩ := a
    have hst : st = none := by simpa [Addr.add] using World.cell?_spot hc0
    subst hst
    have hb : g < w.heap.size := World.block_lt_of_cell? w _ hc0
    refine ⟨g, o, rfl, hb, hb, fun j u hu => ?_⟩
    rw [← Go.WideShapes.add_plain]
    exact h4 j u hu
/-- a node -/
theorem trod_node (h : DataW.trod enc Try.prog w base sp hd fuel 29 cs = some x) : ∃ y : Nd.No, NodIn (fun q => q < w.heap.size) w (.agg cs.toArray) y := by
  obtain ⟨xs, m, _, _, hl, hxl, hf⟩ := DataW.trod_struct Try.underlying29 h
  have hl38 : cs.length = 38 := hl
  have hx : ∀ i, i < 5 → ∃ y, xs[i]? = some y := fun i hi => ⟨xs[i]'(by simp_all), List.getElem?_eq_getElem _⟩
  obtain ⟨y0, h0⟩ := hx 0 (by omega)
  obtain ⟨y1, h1⟩ := hx 1 (by omega)
  obtain ⟨y2, h2⟩ := hx 2 (by omega)
  obtain ⟨y3, h3⟩ := hx 3 (by omega)
  obtain ⟨y4, h4⟩ := hx 4 (by omega)
  have f0 := (hf 0 _ rfl).trans h0
  have f1 := (hf 1 _ rfl).trans h1
  have f2 := (hf 2 _ rfl).trans h2
  have f3 := (hf 3 _ rfl).trans h3
  have f4 := (hf 4 _ rfl).trans h4
  obtain ⟨k, hk, _, _⟩ := DataW.trod_int Try.underlying3 f0
  obtain ⟨Ap, np, cp, lp, hp, hpB⟩ := trod_bytes f1
  obtain ⟨Av, nv, cv, lv, hv, hvB⟩ := trod_bytes f2
  obtain ⟨r, Ac, nc, cc, hr, hrd, hrB⟩ := trod_ref f3
  obtain ⟨Ak, nk, kk, vs, rs, hks, hn, hkk, hkm, hin, hall⟩ := trod_refs f4
  have k0 : cs.take 1 = [.int .i64 k] := hk
  have k1 : (cs.drop 1).take 1 = [.slice Ap np cp] := hp
  have k2 : (cs.drop 2).take 1 = [.slice Av nv cv] := hv
  have k3 : (cs.drop 3).take 34 = refCells r.kind r.dig Ac nc cc := hr
  have k4 : (cs.drop 37).take 1 = [.slice Ak nk kk] := hks
  have e : cs = nodCells k Ap np cp Av nv cv r.kind r.dig Ac nc cc Ak nk kk := by
    have e1 : cs = cs.take 1 ++ ((cs.drop 1).take 1 ++ ((cs.drop 2).take 1 ++ ((cs.drop 3).take 34 ++ (cs.drop 37).take 1))) := by
      have a1 : (cs.drop 37).take 1 = cs.drop 37 := List.take_of_length_le (by rw [List.length_drop]; omega)
      have a2 : cs.drop 37 = (cs.drop 3).drop 34 := by rw [List.drop_drop]
      have a3 : cs.drop 3 = (cs.drop 2).drop 1 := by rw [List.drop_drop]
      have a4 : cs.drop 2 = (cs.drop 1).drop 1 := by rw [List.drop_drop]
      rw [a1, a2, List.take_append_drop, a3, List.take_append_drop, a4, List.take_append_drop, List.take_append_drop]
    rw [e1, k0, k1, k2, k3, k4]
    rfl
  subst e
  exact ⟨⟨k, lp, lv, r, rs⟩, Ap, np, cp, Av, nv, cv, Ac, nc, cc, Ak, nk, kk, vs, rfl, hrd, ⟨hpB.len, hpB.cap, hpB.lim, hpB.inS⟩, ⟨hvB.len, hvB.cap, hvB.lim, hvB.inS⟩, ⟨hrB.len, hrB.cap, hrB.lim, hrB.inS⟩, hn, hkk, hkm, hin, hall⟩
end
/-- a node that is handed in -/
theorem open_node {H : Type} {enc : TypeId × Value → H} {W : World} {base : Nat} {sp : Nat → Bool} {hd : Bool} {v : Value} {d : DataW H} {p : List MemPlace} (hv : Value.okWide Try.prog W .any base 29 v) (h : DataW.Trod enc Try.prog W 0 sp hd 29 v d p) :
    ∃ x : Nd.No, NodIn (fun q => q < W.heap.size) W v x := by
  obtain ⟨cs, rfl, _⟩ := okWide_struct Try.underlying29 hv
  obtain ⟨fuel, hf⟩ := h
  exact trod_node hf
end Go.Proofs.Yteknhmhmepnfjaa

/-
  The laws of chapter 05: a node in a variable; alive.
-/
namespace Go.Proofs.Yteknhmhmepnfjaa
open Go.RowKit

/-- a node in a variable -/
structure NodV (wr : World) (cs : List Value) (x : Nd.No) (W : World) : Prop where
  it : Blk W wr.heap.size 29 cs.toArray
  nin : NodIn (fun q => q < wr.heap.size) W (.agg cs.toArray) x
  bel : Below wr.heap.size wr W
theorem nodV_stored {S : Nat → Prop} {wr : World} {cs : List Value} {x : Nd.No} (h : NodIn S wr (.agg cs.toArray) x) : NodV wr cs x ((wr.alloc (.cells noZ 29)).setRow wr.heap.size cs.toArray) :=
  have hb : Below wr.heap.size wr ((wr.alloc (.cells noZ 29)).setRow wr.heap.size cs.toArray) := below_row ((Below.refl _ _).alloc (Nat.le_refl _) _) (Nat.le_refl _) _
  ⟨(Blk.new wr 29 noZ).row cs.toArray, h.move (fun q _ h2 => ⟨h2, hb.block q h2⟩) hb.size, hb⟩
theorem nodV_boxed {S : Nat → Prop} {wr : World} {cs : List Value} {x : Nd.No} (h : NodIn S wr (.agg cs.toArray) x) : NodV wr cs x (wr.alloc (.cells cs.toArray 29)) :=
  have hb : Below wr.heap.size wr (wr.alloc (.cells cs.toArray 29)) := (Below.refl _ _).alloc (Nat.le_refl _) _
  ⟨Blk.new wr 29 cs.toArray, h.move (fun q _ h2 => ⟨h2, hb.block q h2⟩) hb.size, hb⟩
theorem NodV.step {wr W W' : World} {cs : List Value} {x : Nd.No} (h : NodV wr cs x W) (hb : Below W.heap.size W W') : NodV wr cs x W' :=
  ⟨h.it.below hb h.it.lt, h.nin.move (fun q h1 h2 => ⟨h1, hb.block q h2⟩) hb.size, h.bel.trans (hb.mono h.bel.size)⟩
theorem NodV.lim {wr W : World} {cs : List Value} {x : Nd.No} (h : NodV wr cs x W) : ∀ q, q < wr.heap.size → q < W.heap.size := fun q hq => Nat.lt_of_lt_of_le hq h.bel.size
/-- Decode's answer, opened -/
theorem NodQ.some_ {b : List UInt8} {x : Nd.No} {w w' : World} {e : Ending} (h : NodQ b w e w') (hx : Nd.dec b = some x) :
    ∃ cs : List Value, e = .returned (.tuple #[.agg cs.toArray, .int .i64 0]) ∧ cs.length = 38 ∧ (cs.toArray.all (·.oneCell') = true) ∧ NodIn (fun q => w.heap.size ≤ q) w' (.agg cs.toArray) x ∧ Below w.heap.size w w' := by
  obtain ⟨hb, hq⟩ := h
  rw [hx] at hq
  obtain ⟨v, rfl, hn⟩ := hq
  obtain ⟨cs, rfl, hl, h1, _⟩ := hn.row
  exact ⟨cs, rfl, hl, by simpa using h1, hn, hb⟩
theorem NodQ.none_ {b : List UInt8} {w w' : World} {e : Ending} (h : NodQ b w e w') (hx : Nd.dec b = none) : e = .returned (.tuple #[.agg noZ, .int .i64 50]) ∧ Below w.heap.size w w' := by
  obtain ⟨hb, hq⟩ := h
  rw [hx] at hq
  exact ⟨hq, hb⟩

def aliveX : Nd.No := ⟨1, [1, 2], [5], Nd.rf0, []⟩
theorem alive05_enc : Nd.enc aliveX = [196, 130, 32, 18, 5] := by kernel_rfl
theorem alive05_right : Nd.right Nd.dec aliveX = true := by kernel_rfl
theorem alive05_dec : Nd.dec [194, 32, 5] = some ⟨1, [], [5], Nd.rf0, []⟩ := by kernel_rfl
theorem alive05_in (w : World) : NodIn (fun q => q < w.heap.size + 2) ((w.alloc (.cells #[.int .u8 1, .int .u8 2] 5)).alloc (.cells #[.int .u8 5] 5))
    (.agg (nodRow 1 (some ⟨w.heap.size, 0, none⟩) 2 2 (some ⟨w.heap.size + 1, 0, none⟩) 1 1 0 Nd.z32 none 0 0 none 0 0)) aliveX := by
  have h1 := (Bytes.lit (n := 2) w #[.int .u8 1, .int .u8 2] [1, 2] 5 rfl (by unfold maxLen; simp) rfl).alloc (by simp) (.cells #[.int .u8 5] 5)
  have h2 := Bytes.lit' (n := 1) (g := w.heap.size + 1) (w.alloc (.cells #[.int .u8 1, .int .u8 2] 5)) #[.int .u8 5] [5] 5 (by simp) rfl (by unfold maxLen; simp) rfl
  have hs : ((w.alloc (.cells #[.int .u8 1, .int .u8 2] 5)).alloc (.cells #[.int .u8 5] 5)).heap.size = w.heap.size + 2 := by simp
  refine ⟨_, 2, 2, _, 1, 1, none, 0, 0, none, 0, 0, [], rfl, rfl, ⟨rfl, Nat.le_refl _, by unfold maxLen; omega, ?_⟩, ⟨rfl, Nat.le_refl _, by unfold maxLen; omega, ?_⟩, ⟨rfl, Nat.le_refl _, Nat.zero_le _, ⟨rfl, fun h => by omega⟩⟩, rfl, Nat.le_refl _, Nat.zero_le _, ⟨rfl, fun h => by omega⟩, All2.nil⟩
  · refine ⟨rfl, fun hp => ?_⟩
    obtain ⟨g, o, e, hg, hc⟩ := h1.reads.2 hp
    exact ⟨g, o, e, by omega, by rw [hs]; omega, hc⟩
  · refine ⟨rfl, fun hp => ?_⟩
    obtain ⟨g, o, e, hg, hc⟩ := h2.reads.2 hp
    exact ⟨g, o, e, by omega, by rw [hs]; omega, hc⟩
set_option maxHeartbeats 1000000 in
set_option maxRecDepth 100000 in
theorem law05_alive (w : World) : Calls Try.prog 8 #[] w fun e w' => e = .returned (.bool true) ∧ Below w.heap.size w w' := by
  have hE := node_Encode _ _ aliveX _ (alive05_in w) (by intro q h; simpa using h)
  rw [alive05_right, alive05_enc] at hE
  simp only [if_true] at hE
  have hbe : Below w.heap.size w ((w.alloc (.cells #[.int .u8 1, .int .u8 2] 5)).alloc (.cells #[.int .u8 5] 5)) := ((Below.refl _ _).alloc (Nat.le_refl _) _).alloc (by simp) _
  have hD := fun (w' : World) => node_Decode [194, 32, 5] (some ⟨w'.heap.size, 0, none⟩) 3 3 (w'.alloc (.cells #[.int .u8 194, .int .u8 32, .int .u8 5] 5)) (by
    have := Bytes.lit (n := 3) w' #[.int .u8 194, .int .u8 32, .int .u8 5] [194, 32, 5] 5 rfl (by unfold maxLen; simp) rfl
    exact this.more (by simp))
  replace hD := Lib.hid hD
  replace hbe := Lib.hid hbe
  go_enter Try.func8, Try.ntmps8
  go_wp2_with fail
  refine hE.mono ?_
  rintro e w1 ⟨A1, n1, c1, rfl, hN1⟩
  have hb1 := hbe.out.trans (hN1.2.2.mono hbe.out.size)
  have hby1 := hN1.bytes
  have hb2 := hb1.alloc hb1.size (.cells #[.int .u8 194, .int .u8 32, .int .u8 5] 5)
  have hby2 := (hby1.alloc (Nat.le_refl _) (.cells #[.int .u8 194, .int .u8 32, .int .u8 5] 5)).more (show w1.heap.size ≤ (w1.alloc (.cells #[.int .u8 194, .int .u8 32, .int .u8 5] 5)).heap.size by simp)
  clear hE hN1 hbe hby1 hb1
  replace hb2 := Lib.hid hb2
  replace hby2 := Lib.hid hby2
  go_wp2_with fail
  refine (hD.out w1).mono ?_
  intro e w3 hq
  obtain ⟨cs, rfl, hcl, hone, hnin, hbe3⟩ := hq.some_ alive05_dec
  obtain ⟨Ap, np, cp, Av, nv, cv, Ac, nc, cc, Ak, nk, kk, vs, e1, hcd, ⟨hp1, hp2, hp3, hp4⟩, ⟨hv1, hv2, hv3, hv4⟩, _⟩ := hnin
  injection e1 with e1
  have hvB : Bytes w3 w3.heap.size Av nv cv [5] := ⟨hv1, hv2, hv3, hv4.reads fun g _ h => h⟩
  have hb3 := Lib.hid (hb2.out.trans (hbe3.mono hb2.out.size))
  have hby3 := Lib.hid (hby2.out.step hbe3)
  have hst := Lib.hid (node_stored (wr := w3) cs.toArray)
  have hcs := Lib.hid (show cs.toArray.size = 38 by simp [hcl])
  obtain rfl : np = 0 := hp1
  obtain rfl : nv = 1 := hv1
  clear hq hbe3 hb2 hby2 hcl hD hp2 hp3 hp4 hv2 hv3 hv4
  have g0 : cs.toArray[0]? = some (.int .i64 1) := by rw [e1]; rfl
  have g1 : cs.toArray[1]? = some (.slice Ap 0 cp) := by rw [e1]; rfl
  have g2 : cs.toArray[2]? = some (.slice Av 1 cv) := by rw [e1]; rfl
  replace hone := Lib.hid hone
  clear e1 hcd
  generalize cs.toArray = R at *
  replace hvB := Lib.hid hvB
  replace g0 := Lib.hid g0
  replace g1 := Lib.hid g1
  replace g2 := Lib.hid g2
  go_wp2_with (first
    | (refine wpList_store_row rfl 29 _ _ rfl w3.heap.size R rfl rfl _ _ (Blk.new w3 29 noZ) (by rw [hcs.out]; exact info_node) (by rw [hcs.out]; rfl) hone.out ?_; refine list_at (NodS w3 R) hst.out ?_; intro w4 hI4; have k0 := (hI4.it.cell 0).trans g0.out; have k1 := (hI4.it.cell 1).trans g1.out; have k2 := (hI4.it.cell 2).trans g2.out; have t1 := (hby3.out.step hI4.bel).toStr (P := Try.prog) Try.underlying22 Try.underlying5 9 Try.underlying9; have t2 := (hvB.out.step hI4.bel).toStr (P := Try.prog) Try.underlying22 Try.underlying5 9 Try.underlying9; replace hI4 := Lib.hid hI4)
    | fail)
  go_ret
  exact ⟨rfl, hb3.out.trans (hI4.out.bel.mono hb3.out.size)⟩
end Go.Proofs.Yteknhmhmepnfjaa

/-
  The laws of chapter 05: NodeBack, NodeUnlike.
-/
namespace Go.Proofs.Yteknhmhmepnfjaa
open Go.RowKit

theorem NodV.range {wr W : World} {cs : List Value} {x : Nd.No} (h : NodV wr cs x W) : W.rangeAt wr.heap.size 0 cs := by
  intro j u hu
  rw [Nat.zero_add, h.it.cell j, List.getElem?_toArray]
  exact hu
theorem same_self (S S' : Nat → Prop) (v v' : Value) (x : Nd.No) (w : World) (hx : NodIn S w v x) (hy : NodIn S' w v' x) (hS : ∀ q, S q → q < w.heap.size) (hS' : ∀ q, S' q → q < w.heap.size) :
    Calls Try.prog 10 #[v, v'] w fun e w' => e = .returned (.bool true) ∧ Below w.heap.size w w' := by
  have h := ref_Same S S' v v' x x w hx hy hS hS'
  simpa using h
open Classical in
theorem same_is (S S' : Nat → Prop) (v v' : Value) (x y : Nd.No) (w : World) (hx : NodIn S w v x) (hy : NodIn S' w v' y) (hS : ∀ q, S q → q < w.heap.size) (hS' : ∀ q, S' q → q < w.heap.size) (b : Bool) (hb : b = true ↔ x = y) :
    Calls Try.prog 10 #[v, v'] w fun e w' => e = .returned (.bool b) ∧ Below w.heap.size w w' := by
  have h := ref_Same S S' v v' x y w hx hy hS hS'
  rwa [show decide (x = y) = b by rw [Bool.eq_iff_iff, hb]; simp] at h
/-- what NodeUnlike's last region reads -/
structure UnlI (w w0 : World) (cs1 cs2 : List Value) (x y : Nd.No) (A1 : Option Addr) (n1 c1 : Nat) (l1 : List UInt8) (A2 : Option Addr) (n2 c2 : Nat) (l2 : List UInt8) (W : World) : Prop where
  v1 : NodV w cs1 x W
  v2 : NodV w0 cs2 y W
  b1 : Bytes W W.heap.size A1 n1 c1 l1
  b2 : Bytes W W.heap.size A2 n2 c2 l2
theorem UnlI.step {w w0 W W' : World} {cs1 cs2 : List Value} {x y : Nd.No} {A1 A2 : Option Addr} {n1 c1 n2 c2 : Nat} {l1 l2 : List UInt8} (h : UnlI w w0 cs1 cs2 x y A1 n1 c1 l1 A2 n2 c2 l2 W) (hb : Below W.heap.size W W') : UnlI w w0 cs1 cs2 x y A1 n1 c1 l1 A2 n2 c2 l2 W' :=
  ⟨h.v1.step hb, h.v2.step hb, h.b1.step hb, h.b2.step hb⟩
end Go.Proofs.Yteknhmhmepnfjaa

/-
  A node that is handed in: its slices are bounded by what may be handed in.
-/
namespace Go.Proofs.Yteknhmhmepnfjaa
open Go.RowKit Go.WideShapes Go.ChangeShapes Go.ChangeAt Go.WideElems Go.Deep

def reachOk {H : Type} (t : TypeId) (d : DataW H) : Prop := ((d.weights Try.prog t).all (· ≤ reachBytes)) = true
theorem reach_field {H : Type} {t tj : TypeId} {fs : Array Field} {parts : List (DataW H)} {j : Nat} {d : DataW H} (hu : Try.prog.underlying t = some (.struct fs)) (h : reachOk t (.agg parts)) (hj : (fs.toList.map (·.type))[j]? = some tj) (hd : parts[j]? = some d) : reachOk tj d := by
  refine List.all_eq_true.2 fun n hn => List.all_eq_true.1 h n ?_
  simp only [DataW.weights, hu]
  exact DataW.weights_mem_each hj hd n hn
theorem weights_all {H : Type} {e : TypeId} : ∀ {ds : List (DataW H)} {d : DataW H}, d ∈ ds → ∀ n ∈ d.weights Try.prog e, n ∈ DataW.weightsAll Try.prog e ds
  | [], d, h => by cases h
  | x :: xs, d, h => by
    intro n hn
    simp only [DataW.weightsAll, List.mem_append]
    rcases List.mem_cons.1 h with rfl | h
    · exact .inl hn
    · exact .inr (weights_all h n hn)
theorem reach_elem {H : Type} {t e : TypeId} {elems spare : List (DataW H)} {d : DataW H} (hu : Try.prog.underlying t = some (.slice e)) (h : reachOk t (.slice elems spare)) (hd : d ∈ elems) : reachOk e d := by
  refine List.all_eq_true.2 fun n hn => List.all_eq_true.1 h n ?_
  simp only [DataW.weights, hu, List.mem_cons, List.mem_append]
  exact .inr (.inl (weights_all hd n hn))
theorem reach_len {H : Type} {t e : TypeId} {elems spare : List (DataW H)} (hu : Try.prog.underlying t = some (.slice e)) (h : reachOk t (.slice elems spare)) : elems.length * Try.prog.bytesOf e ≤ 140737488351232 := by
  have h1 := List.all_eq_true.1 h ((elems.length + spare.length) * Try.prog.bytesOf e) (by simp [DataW.weights, hu])
  have h2 : (elems.length + spare.length) * Try.prog.bytesOf e ≤ 140737488351232 := by
    have e : reachBytes = 140737488351232 := by decide
    rw [← e]; simpa using h1
  refine Nat.le_trans ?_ h2
  rw [Nat.add_mul]; exact Nat.le_add_right _ _
theorem reach_arg {H : Type} {ts : List TypeId} {ds : List (DataW H)} (h : (DataW.weightsEach Try.prog ts ds).all (· ≤ reachBytes) = true) {j : Nat} {t : TypeId} {d : DataW H} (ht : ts[j]? = some t) (hd : ds[j]? = some d) : reachOk t d :=
  List.all_eq_true.2 fun n hn => List.all_eq_true.1 h n (DataW.weights_mem_each ht hd n hn)
/-- a node's slices are bounded -/
structure Nd.Big (x : Nd.No) : Prop where
  path : x.path.length ≤ 140737488351232
  value : x.value.length ≤ 140737488351232
  child : x.child.inl.length ≤ 140737488351232
  kids : x.kids.length * 64 ≤ 140737488351232
  each : ∀ r ∈ x.kids, r.inl.length ≤ 140737488351232
section
variable {H : Type} {enc : TypeId × Value → H} {w : World} {base : Nat} {sp : Nat → Bool} {hd : Bool} {fuel : Nat} {cs : List Value} {x : DataW H × List MemPlace}
theorem bytesOf_u8 : Try.prog.bytesOf 5 = 1 := by kernel_rfl
theorem bytesOf_ref : Try.prog.bytesOf 26 = 64 := by kernel_rfl
theorem reach_bytes (h : DataW.trod enc Try.prog w base sp hd fuel 22 cs = some x) (hk : reachOk 22 x.1) (A : Option Addr) (n c : Nat) (e : cs = [.slice A n c]) : n ≤ 140737488351232 := by
  rcases open_ints Try.underlying22 Try.underlying5 (by kernel_rfl) h with ⟨rfl, hx⟩ | ⟨a, len, cap, zs, rfl, _, hl, hm, hz, rfl, hcell, hwz⟩
  · simp only [List.cons.injEq, Value.slice.injEq, and_true] at e
    obtain ⟨_, rfl, _⟩ := e
    exact Nat.zero_le _
  · simp only [List.cons.injEq, Value.slice.injEq, and_true] at e
    obtain ⟨_, rfl, _⟩ := e
    have h1 := reach_len Try.underlying22 hk
    rw [bytesOf_u8] at h1
    have hle : len ≤ zs.length := by rw [hz]; split <;> omega
    have : (lits .u8 (zs.take len) : List (DataW H)).length = len := by simp [lits]; omega
    omega
def nodFields : List TypeId := [3, 22, 22, 26, 27]
/-- a reference -/
theorem trod_ref_w (h : DataW.trod enc Try.prog w base sp hd fuel 26 cs = some x) : ∃ (r : Nd.Rf) (A : Option Addr) (n c : Nat), cs = refCells r.kind r.dig A n c ∧ r.dig.length = 32 ∧ Bytes w w.heap.size A n c r.inl ∧ (reachOk 26 x.1 → r.inl.length ≤ 140737488351232) := by
  obtain ⟨xs, m, _, rfl, hl, hxl, hf⟩ := DataW.trod_struct Try.underlying26 h
  have hl34 : cs.length = 34 := hl
  have hx : ∀ i, i < 3 → ∃ y, xs[i]? = some y := fun i hi => ⟨xs[i]'(by simp_all), List.getElem?_eq_getElem _⟩
  obtain ⟨y0, h0⟩ := hx 0 (by omega)
  obtain ⟨y1, h1⟩ := hx 1 (by omega)
  obtain ⟨y2, h2⟩ := hx 2 (by omega)
  have f0 := (hf 0 _ rfl).trans h0
  have f1 := (hf 1 _ rfl).trans h1
  have f2 := (hf 2 _ rfl).trans h2
  obtain ⟨k, hk, _, _⟩ := DataW.trod_int Try.underlying3 f0
  obtain ⟨d, hd', hdl⟩ := trod_dig f1
  obtain ⟨A, n, c, l, hb, hB⟩ := trod_bytes f2
  have k0 : cs.take 1 = [.int .i64 k] := hk
  have k1 : (cs.drop 1).take 32 = bv d := hd'
  have k2 : (cs.drop 33).take 1 = [.slice A n c] := hb
  refine ⟨⟨k, d, l⟩, A, n, c, ?_, hdl, hB, fun hk => by rw [← hB.len]; exact reach_bytes f2 (reach_field (j := 2) Try.underlying26 hk rfl (by rw [List.getElem?_map, h2]; rfl)) A n c hb⟩
  have e1 : cs = cs.take 1 ++ ((cs.drop 1).take 32 ++ (cs.drop 33).take 1) := by
    have a1 : (cs.drop 33).take 1 = cs.drop 33 := List.take_of_length_le (by rw [List.length_drop]; omega)
    have a2 : cs.drop 33 = (cs.drop 1).drop 32 := by rw [List.drop_drop]
    rw [a1, a2, List.take_append_drop, List.take_append_drop]
  rw [e1, k0, k1, k2]
  rfl
/-- references -/
theorem trod_refs_w (h : DataW.trod enc Try.prog w base sp hd fuel 27 cs = some x) : ∃ (A : Option Addr) (n c : Nat) (vs : List Value) (rs : List Nd.Rf), cs = [.slice A n c] ∧ n = rs.length ∧ n ≤ c ∧ c ≤ maxLen ∧ InS (fun q => q < w.heap.size) w 34 A n (flat vs) ∧ All2 (RefIn (fun q => q < w.heap.size) w) vs rs ∧ (reachOk 27 x.1 → rs.length * 64 ≤ 140737488351232 ∧ ∀ r ∈ rs, r.inl.length ≤ 140737488351232) := by
  rcases open_slice Try.underlying27 h with ⟨rfl, _⟩ | ⟨a, len, cap, m, n, D, Pl, rfl, _, hl, hm, hmm, rfl, hi⟩
  · exact ⟨none, 0, 0, [], [], rfl, rfl, Nat.le_refl _, Nat.zero_le _, ⟨rfl, fun h => by omega⟩, All2.nil, fun _ => ⟨by simp, fun r h => by cases h⟩⟩
  · have hlm : len ≤ m := by rw [hmm]; split <;> omega
    have hc34 : Try.prog.cellsOf 26 = 34 := by kernel_rfl
    rw [hc34] at hi
    have hel : ∀ i, i < len → ∃ (r : Nd.Rf) (A : Option Addr) (n c : Nat), (∀ j u, (refCells r.kind r.dig A n c)[j]? = some u → w.cell? (a.add (i * 34 + j)) = some u) ∧ r.dig.length = 32 ∧ Bytes w w.heap.size A n c r.inl ∧ (reachOk 26 (D i) → r.inl.length ≤ 140737488351232) := by
      intro i h
      obtain ⟨cs', hcs, ht⟩ := hi i (by omega)
      obtain ⟨r, A, n, c, rfl, hd, hB, hkr⟩ := trod_ref_w ht
      obtain ⟨_, hcl, hat⟩ := World.cells?_some hcs
      refine ⟨r, A, n, c, fun j u hu => ?_, hd, hB, hkr⟩
      have hj : j < 34 := by
        have := (List.getElem?_eq_some_iff.1 hu).1
        rwa [refCells_length hd] at this
      have := hat j hj
      rw [hu] at this
      rw [← Go.Deep.add_add]
      exact this
    clear hi hmm
    have key : ∀ k, k ≤ len → ∃ (vs : List Value) (rs : List Nd.Rf), rs.length = k ∧ (flat vs).length = k * 34 ∧ All2 (RefIn (fun q => q < w.heap.size) w) vs rs ∧ (∀ j u, (flat vs)[j]? = some u → w.cell? (a.add j) = some u) ∧ ((∀ i, i < len → reachOk 26 (D i)) → ∀ r ∈ rs, r.inl.length ≤ 140737488351232) := by
      intro k
      induction k with
      | zero => intro _; exact ⟨[], [], rfl, rfl, All2.nil, fun j u hu => by simp [flat] at hu, fun _ r h => by cases h⟩
      | succ k ih =>
        intro hk
        obtain ⟨vs, rs, h1, h2, h3, h4, h5⟩ := ih (by omega)
        obtain ⟨r, A, n, c, hcell, hd, hB, hkr⟩ := hel k (by omega)
        have hfl : flat (vs ++ [.agg (refRow r.kind r.dig A n c)]) = flat vs ++ refCells r.kind r.dig A n c := by rw [flat_append, flat_one]; rfl
        refine ⟨vs ++ [.agg (refRow r.kind r.dig A n c)], rs ++ [r], by simp [h1], ?_, h3.snoc ⟨A, n, c, rfl, hd, hB.len, hB.cap, hB.lim, hB.inS⟩, fun j u hu => ?_, fun hk' r' hr' => ?_⟩
        · rw [hfl, List.length_append, h2, refCells_length hd]; omega
        · rw [hfl, List.getElem?_append, h2] at hu
          split at hu
          · exact h4 j u hu
          · have := hcell _ u hu
            rwa [show k * 34 + (j - k * 34) = j by omega] at this
        · rcases List.mem_append.1 hr' with h | h
          · exact h5 hk' r' h
          · simp only [List.mem_cons, List.not_mem_nil, or_false] at h
            subst h
            exact hkr (hk' k (by omega))
    obtain ⟨vs, rs, h1, h2, h3, h4, h5⟩ := key len (Nat.le_refl _)
    refine ⟨some a, len, cap, vs, rs, rfl, h1.symm, hl, hm, ⟨h2, fun hp => ?_⟩, h3, fun hk => ⟨?_, h5 fun i hi => reach_elem Try.underlying27 hk (by simp; exact ⟨i, hi, rfl⟩)⟩⟩
    have h0 : (flat vs)[0]? = some ((flat vs)[0]'(by omega)) := List.getElem?_eq_getElem _
    have hc0 := h4 0 _ h0
    obtain ⟨g, o, st⟩ := a
    have hst : st = none := by simpa [Addr.add] using World.cell?_spot hc0
    subst hst
    have hb : g < w.heap.size := World.block_lt_of_cell? w _ hc0
    refine ⟨g, o, rfl, hb, hb, fun j u hu => ?_⟩
    rw [← Go.WideShapes.add_plain]
    exact h4 j u hu
    have h6 := reach_len Try.underlying27 hk
    rw [bytesOf_ref] at h6
    simpa [h1] using h6
/-- a node -/
theorem trod_node_w (h : DataW.trod enc Try.prog w base sp hd fuel 29 cs = some x) : ∃ y : Nd.No, NodIn (fun q => q < w.heap.size) w (.agg cs.toArray) y ∧ (reachOk 29 x.1 → Nd.Big y) := by
  obtain ⟨xs, m, _, rfl, hl, hxl, hf⟩ := DataW.trod_struct Try.underlying29 h
  have hl38 : cs.length = 38 := hl
  have hx : ∀ i, i < 5 → ∃ y, xs[i]? = some y := fun i hi => ⟨xs[i]'(by simp_all), List.getElem?_eq_getElem _⟩
  obtain ⟨y0, h0⟩ := hx 0 (by omega)
  obtain ⟨y1, h1⟩ := hx 1 (by omega)
  obtain ⟨y2, h2⟩ := hx 2 (by omega)
  obtain ⟨y3, h3⟩ := hx 3 (by omega)
  obtain ⟨y4, h4⟩ := hx 4 (by omega)
  have f0 := (hf 0 _ rfl).trans h0
  have f1 := (hf 1 _ rfl).trans h1
  have f2 := (hf 2 _ rfl).trans h2
  have f3 := (hf 3 _ rfl).trans h3
  have f4 := (hf 4 _ rfl).trans h4
  obtain ⟨k, hk, _, _⟩ := DataW.trod_int Try.underlying3 f0
  obtain ⟨Ap, np, cp, lp, hp, hpB⟩ := trod_bytes f1
  obtain ⟨Av, nv, cv, lv, hv, hvB⟩ := trod_bytes f2
  obtain ⟨r, Ac, nc, cc, hr, hrd, hrB, hrk⟩ := trod_ref_w f3
  obtain ⟨Ak, nk, kk, vs, rs, hks, hn, hkk, hkm, hin, hall, hrsk⟩ := trod_refs_w f4
  have k0 : cs.take 1 = [.int .i64 k] := hk
  have k1 : (cs.drop 1).take 1 = [.slice Ap np cp] := hp
  have k2 : (cs.drop 2).take 1 = [.slice Av nv cv] := hv
  have k3 : (cs.drop 3).take 34 = refCells r.kind r.dig Ac nc cc := hr
  have k4 : (cs.drop 37).take 1 = [.slice Ak nk kk] := hks
  have e : cs = nodCells k Ap np cp Av nv cv r.kind r.dig Ac nc cc Ak nk kk := by
    have e1 : cs = cs.take 1 ++ ((cs.drop 1).take 1 ++ ((cs.drop 2).take 1 ++ ((cs.drop 3).take 34 ++ (cs.drop 37).take 1))) := by
      have a1 : (cs.drop 37).take 1 = cs.drop 37 := List.take_of_length_le (by rw [List.length_drop]; omega)
      have a2 : cs.drop 37 = (cs.drop 3).drop 34 := by rw [List.drop_drop]
      have a3 : cs.drop 3 = (cs.drop 2).drop 1 := by rw [List.drop_drop]
      have a4 : cs.drop 2 = (cs.drop 1).drop 1 := by rw [List.drop_drop]
      rw [a1, a2, List.take_append_drop, a3, List.take_append_drop, a4, List.take_append_drop, List.take_append_drop]
    rw [e1, k0, k1, k2, k3, k4]
    rfl
  subst e
  refine ⟨⟨k, lp, lv, r, rs⟩, ⟨Ap, np, cp, Av, nv, cv, Ac, nc, cc, Ak, nk, kk, vs, rfl, hrd, ⟨hpB.len, hpB.cap, hpB.lim, hpB.inS⟩, ⟨hvB.len, hvB.cap, hvB.lim, hvB.inS⟩, ⟨hrB.len, hrB.cap, hrB.lim, hrB.inS⟩, hn, hkk, hkm, hin, hall⟩, fun hk => ?_⟩
  have hfl : ∀ (j : Nat) (tj : TypeId) (y : DataW H × List MemPlace), xs[j]? = some y → (nodFields[j]?) = some tj → reachOk tj y.1 := fun j tj y hy ht => reach_field (j := j) Try.underlying29 hk ht (by rw [List.getElem?_map, hy]; rfl)
  have b1 := reach_bytes f1 (hfl 1 _ y1 h1 rfl) Ap np cp hp
  have b2 := reach_bytes f2 (hfl 2 _ y2 h2 rfl) Av nv cv hv
  have b4 := hrsk (hfl 4 _ y4 h4 rfl)
  exact ⟨by rw [← hpB.len]; exact b1, by rw [← hvB.len]; exact b2, hrk (hfl 3 _ y3 h3 rfl), b4.1, b4.2⟩
end
/-- a node that is handed in -/
theorem open_node_w {H : Type} {enc : TypeId × Value → H} {W : World} {base : Nat} {sp : Nat → Bool} {hd : Bool} {v : Value} {d : DataW H} {p : List MemPlace} (hv : Value.okWide Try.prog W .any base 29 v) (h : DataW.Trod enc Try.prog W 0 sp hd 29 v d p) (hk : reachOk 29 d) :
    ∃ x : Nd.No, NodIn (fun q => q < W.heap.size) W v x ∧ Nd.Big x := by
  obtain ⟨cs, rfl, _⟩ := okWide_struct Try.underlying29 hv
  obtain ⟨fuel, hf⟩ := h
  obtain ⟨y, h1, h2⟩ := trod_node_w hf
  exact ⟨y, h1, h2 hk⟩
end Go.Proofs.Yteknhmhmepnfjaa

/-
  The laws of chapter 05: copied (a node in memory of its own).
-/
namespace Go.Proofs.Yteknhmhmepnfjaa
open Go.RowKit

theorem refCells_set33 (k : Int) (d : List UInt8) (A A' : Option Addr) (n c n' c' : Nat) (hd : d.length = 32) : (refCells k d A n c).set 33 (.slice A' n' c') = refCells k d A' n' c' := by
  unfold refCells
  rw [List.set_cons_succ, List.set_append_right _ _ (by rw [bv_length]; omega), bv_length, hd]
  rfl
theorem refRow_set33 (k : Int) (d : List UInt8) (A A' : Option Addr) (n c n' c' : Nat) (hd : d.length = 32) : (refRow k d A n c).setIfInBounds 33 (.slice A' n' c') = refRow k d A' n' c' := by
  unfold refRow
  rw [List.setIfInBounds_toArray, refCells_set33 _ _ _ _ _ _ _ _ hd]
section
variable {k ck : Int} {Ap Av Ac Ak A' : Option Addr} {np cp nv cv nc cc nk kk n' c' : Nat} {cd : List UInt8}
theorem nodRow_set1 : (nodRow k Ap np cp Av nv cv ck cd Ac nc cc Ak nk kk).setIfInBounds 1 (.slice A' n' c') = nodRow k A' n' c' Av nv cv ck cd Ac nc cc Ak nk kk := rfl
theorem nodRow_set2 : (nodRow k Ap np cp Av nv cv ck cd Ac nc cc Ak nk kk).setIfInBounds 2 (.slice A' n' c') = nodRow k Ap np cp A' n' c' ck cd Ac nc cc Ak nk kk := rfl
theorem nodRow_set36 (hd : cd.length = 32) : (nodRow k Ap np cp Av nv cv ck cd Ac nc cc Ak nk kk).setIfInBounds 36 (.slice A' n' c') = nodRow k Ap np cp Av nv cv ck cd A' n' c' Ak nk kk := by
  unfold nodRow nodCells
  rw [List.setIfInBounds_toArray, List.set_cons_succ, List.set_cons_succ, List.set_cons_succ, List.set_append_left _ _ (by rw [refCells_length hd]; omega), refCells_set33 _ _ _ _ _ _ _ _ hd]
theorem nodRow_set37 (hd : cd.length = 32) : (nodRow k Ap np cp Av nv cv ck cd Ac nc cc Ak nk kk).setIfInBounds 37 (.slice A' n' c') = nodRow k Ap np cp Av nv cv ck cd Ac nc cc A' n' c' := by
  unfold nodRow nodCells
  rw [List.setIfInBounds_toArray, List.set_cons_succ, List.set_cons_succ, List.set_cons_succ, List.set_append_right _ _ (by rw [refCells_length hd]; omega), refCells_length hd]
  rfl
theorem nodRow_36 (hd : cd.length = 32) : (nodRow k Ap np cp Av nv cv ck cd Ac nc cc Ak nk kk)[36]? = some (.slice Ac nc cc) := by
  unfold nodRow nodCells
  rw [List.getElem?_toArray, List.getElem?_cons_succ, List.getElem?_cons_succ, List.getElem?_cons_succ, List.getElem?_append_left (by rw [refCells_length hd]; omega)]
  have := refRow_last (k := ck) (A := Ac) (n := nc) (c := cc) hd
  rw [refRow, List.getElem?_toArray] at this
  exact this
end
/-- 'x = append(x, r)', any number of them -/
theorem wpList_append_refG {B m c : Nat} {w : World} {A : Option Addr} {vs : List Value} {rs : List Nd.Rf} {ops : Array Oper} {rest : List Oper} {o : Oper} {a : Act} {Q : Exit → Act → World → Prop} {gx : Nat} {k : Int} {d : List UInt8} {A1 : Option Addr} {n1 c1 : Nat} {x : Nd.Rf} (hgd : o.guard = none) (s y : Operand)
    (ho : o.op = .call { callee := .builtin .append, args := #[s, y], argTypes := #[27, 27] })
    (h : RfL B w A m c vs rs) (hB : B ≤ w.heap.size) (hs : a.eval s = .slice A m c) (hx : a.eval y = .slice (some ⟨gx, 0, none⟩) 1 1) (hgx : gx < w.heap.size) (hd : d.length = 32) (hb : Blk w gx 26 (refRow k d A1 n1 c1)) (hv : RefIn (Apart (fun _ => False) B (.slice A m c)) w (.agg (refRow k d A1 n1 c1)) x)
    (hlim : (m + 1) * 64 ≤ 140737488355328)
    (H : ∀ A' c' w', RfL B w' A' (m + 1) c' (vs ++ [.agg (refRow k d A1 n1 c1)]) (rs ++ [x]) → w.grownBy w' (Value.slice A m c).ownBlock → wpList Try.prog ops Q rest (a.put o.dst (.slice A' (m + 1) c')) w') : wpList Try.prog ops Q (o :: rest) a w := by
  obtain ⟨i0, hi, hz0, hz1, hz2⟩ := info_parts info_ref4
  have hl : (refCells k d A1 n1 c1).length = 34 := refCells_length hd
  have hr : Reads w (gx + 1) 34 (some ⟨gx, 0, none⟩) 1 (refCells k d A1 n1 c1) := ⟨by rw [hl], fun _ => ⟨gx, 0, rfl, by omega, fun j u hu => by
    rw [Nat.zero_add, hb.cell j, ← Array.getElem?_toList]; exact hu⟩⟩
  refine wpList_append_any w hgd s y 27 ho B 26 i0 (.agg refZ) 34 64 Try.underlying27 hi hz0 hz1 hz2 rfl (by omega) (.slice A m c) m (flat vs) hs h.own (gx + 1) _ 1 1 (refCells k d A1 n1 c1) hx hr (refCells_one _ _ _ _ _) (by unfold maxLen; omega) (by omega) hB ?_
  intro v' w' hown hg hob
  obtain ⟨A', c', rfl⟩ : ∃ A' c', v' = .slice A' (m + 1) c' := by
    rcases hown.2 with ⟨rfl, h0⟩ | ⟨g, cap, cur, rfl, _⟩
    · omega
    · exact ⟨_, _, rfl⟩
  exact H A' c' w' (h.snoc hv hown hg (hob.imp id fun e => ⟨_, e, Nat.le_refl _⟩)) hg
/-- in the midst of copied -/
structure CpS (w : World) (x : Nd.No) (Ap : Option Addr) (np cp : Nat) (Av : Option Addr) (nv cv : Nat) (Ac : Option Addr) (nc cc : Nat) (Ak : Option Addr) (nk kk : Nat) (mrow : Array Value) (W : World) : Prop where
  f : NodF w x.kind Ap np cp Av nv cv x.child.kind x.child.dig Ac nc cc Ak nk kk W
  res : Blk W (w.heap.size + 1) 29 noZ
  m : Blk W (w.heap.size + 2) 29 mrow
section
variable {w W W' : World} {x : Nd.No} {Ap Av Ac Ak : Option Addr} {np cp nv cv nc cc nk kk : Nat} {mrow : Array Value}
theorem CpS.sz (h : CpS w x Ap np cp Av nv cv Ac nc cc Ak nk kk mrow W) : w.heap.size + 3 ≤ W.heap.size := h.m.lt
theorem CpS.step (h : CpS w x Ap np cp Av nv cv Ac nc cc Ak nk kk mrow W) (hcd : x.child.dig.length = 32) (hb : Below W.heap.size W W') : CpS w x Ap np cp Av nv cv Ac nc cc Ak nk kk mrow W' :=
  ⟨h.f.step hcd hb, h.res.below hb h.res.lt, h.m.below hb h.m.lt⟩
theorem CpS.set_ (h : CpS w x Ap np cp Av nv cv Ac nc cc Ak nk kk mrow W) (hcd : x.child.dig.length = 32) (i : Nat) (u : Value) {row : Array Value} (e : mrow.setIfInBounds i u = row) : CpS w x Ap np cp Av nv cv Ac nc cc Ak nk kk row (W.setCell ⟨w.heap.size + 2, i, none⟩ u) :=
  ⟨NodF.of (h.f.blk.far (by show w.heap.size ≠ w.heap.size + 2; omega) _) hcd (h.f.bel.setCell (by show w.heap.size ≤ w.heap.size + 2; omega) _), h.res.far (by show w.heap.size + 1 ≠ w.heap.size + 2; omega) _, (h.m.set_ i u).eq e⟩
end
theorem InS.set_far {S : Nat → Prop} {w : World} {size n g i : Nat} {A : Option Addr} {xs : List Value} {u : Value} (h : InS S w size A n xs) (hS : ∀ q, S q → q ≠ g) : InS S (w.setCell ⟨g, i, none⟩ u) size A n xs :=
  h.move (fun q h1 _ => ⟨h1, Below.heap_setCell w _ _ q (by show q ≠ g; exact hS q h1)⟩) (by rw [size_set]; exact Nat.le_refl _)
/-- three slices are copied -/
structure CpT (w : World) (x : Nd.No) (Ap : Option Addr) (np cp : Nat) (Av : Option Addr) (nv cv : Nat) (Ac : Option Addr) (nc cc : Nat) (Ak : Option Addr) (nk kk : Nat) (A1 : Option Addr) (c1 : Nat) (A2 : Option Addr) (c2 : Nat) (A3 : Option Addr) (c3 B : Nat) (K : Option Addr) (k kc : Nat) (us : List Value) (W : World) : Prop where
  s : CpS w x Ap np cp Av nv cv Ac nc cc Ak nk kk (nodRow x.kind A1 np c1 A2 nv c2 x.child.kind x.child.dig A3 nc c3 K k kc) W
  p : InS (fun q => w.heap.size + 3 ≤ q ∧ q < B) W 1 A1 np (bv x.path)
  v : InS (fun q => w.heap.size + 3 ≤ q ∧ q < B) W 1 A2 nv (bv x.value)
  c : InS (fun q => w.heap.size + 3 ≤ q ∧ q < B) W 1 A3 nc (bv x.child.inl)
  lst : RfL B W K k kc us (x.kids.take k)
  b : w.heap.size + 3 ≤ B
  sz : B ≤ W.heap.size
section
variable {w W W' w5 : World} {x : Nd.No} {Ap Av Ac Ak A1 A2 A3 K K5 : Option Addr} {np cp nv cv nc cc nk kk c1 c2 c3 B k kc kc5 gy : Nat} {us : List Value} {row : Array Value} {v : Value} {r : Nd.Rf}
theorem CpT.step (h : CpT w x Ap np cp Av nv cv Ac nc cc Ak nk kk A1 c1 A2 c2 A3 c3 B K k kc us W) (hcd : x.child.dig.length = 32) (hb : Below W.heap.size W W') : CpT w x Ap np cp Av nv cv Ac nc cc Ak nk kk A1 c1 A2 c2 A3 c3 B K k kc us W' :=
  have hmv : ∀ q, (w.heap.size + 3 ≤ q ∧ q < B) → q < W.heap.size → (w.heap.size + 3 ≤ q ∧ q < B) ∧ W'.heap[q]? = W.heap[q]? := fun q h1 h2 => ⟨h1, hb.block q h2⟩
  ⟨h.s.step hcd hb, h.p.move hmv hb.size, h.v.move hmv hb.size, h.c.move hmv hb.size, h.lst.below hb, h.b, Nat.le_trans h.sz hb.size⟩
theorem CpT.next (h : CpT w x Ap np cp Av nv cv Ac nc cc Ak nk kk A1 c1 A2 c2 A3 c3 B K k kc us W) (hcd : x.child.dig.length = 32) (htk : x.kids.take (k + 1) = x.kids.take k ++ [r]) (hL5 : RfL B w5 K5 (k + 1) kc5 (us ++ [v]) (x.kids.take k ++ [r])) (hg5 : (W.alloc (.cells row 26)).grownBy w5 (Value.slice K k kc).ownBlock) :
    Blk w5 (w.heap.size + 2) 29 (nodRow x.kind A1 np c1 A2 nv c2 x.child.kind x.child.dig A3 nc c3 K k kc) ∧ CpT w x Ap np cp Av nv cv Ac nc cc Ak nk kk A1 c1 A2 c2 A3 c3 B K5 (k + 1) kc5 (us ++ [v]) (w5.setCell ⟨w.heap.size + 2, 37, none⟩ (.slice K5 (k + 1) kc5)) := by
  have hB := h.b
  have hsz := h.sz
  have hlow : ∀ q, q < B → some q ≠ (Value.slice K k kc).ownBlock := fun q hq e => by have := (h.lst.own.lt q e.symm).1; omega
  have hs5 := hg5.size
  have hs1 : (W.alloc (.cells row 26)).heap.size = W.heap.size + 1 := by simp
  have hblk : ∀ q, q < B → w5.heap[q]? = W.heap[q]? := fun q hq => (hg5.block q (by omega) (hlow q hq)).trans (Below.heap_alloc W _ q (by omega))
  have hm : Blk w5 (w.heap.size + 2) 29 (nodRow x.kind A1 np c1 A2 nv c2 x.child.kind x.child.dig A3 nc c3 K k kc) := (hblk _ (by omega)).trans h.s.m
  have hbel : Below w.heap.size w w5 := (h.s.f.bel.alloc h.s.f.bel.size (.cells row 26)).trans ⟨hg5.os, hg5.tape, hg5.output, hg5.size, fun q hq => hg5.block q (by omega) (hlow q (by omega))⟩
  have hS5 : CpS w x Ap np cp Av nv cv Ac nc cc Ak nk kk (nodRow x.kind A1 np c1 A2 nv c2 x.child.kind x.child.dig A3 nc c3 K k kc) w5 :=
    ⟨NodF.of ((hblk _ (by omega)).trans h.s.f.blk) hcd hbel, (hblk _ (by omega)).trans h.s.res, hm⟩
  have hmv : ∀ q, (w.heap.size + 3 ≤ q ∧ q < B) → q < W.heap.size → (w.heap.size + 3 ≤ q ∧ q < B) ∧ w5.heap[q]? = W.heap[q]? := fun q h1 h2 => ⟨h1, hblk q h1.2⟩
  have hss : W.heap.size ≤ w5.heap.size := by omega
  have hne : ∀ q, (w.heap.size + 3 ≤ q ∧ q < B) → q ≠ w.heap.size + 2 := fun q h => by omega
  refine ⟨hm, hS5.set_ hcd 37 _ (nodRow_set37 hcd), (h.p.move hmv hss).set_far hne, (h.v.move hmv hss).set_far hne, (h.c.move hmv hss).set_far hne, ?_, hB, by rw [size_set]; omega⟩
  rw [htk]
  exact hL5.far (grown_set (World.grownBy.refl w5 (some (w.heap.size + 2)))) (by omega)
end
/-- a reference that is copied, beside it -/
structure CpM (w : World) (x : Nd.No) (Ap : Option Addr) (np cp : Nat) (Av : Option Addr) (nv cv : Nat) (Ac : Option Addr) (nc cc : Nat) (Ak : Option Addr) (nk kk : Nat) (A1 : Option Addr) (c1 : Nat) (A2 : Option Addr) (c2 : Nat) (A3 : Option Addr) (c3 B : Nat) (K : Option Addr) (k kc : Nat) (us : List Value) (gy : Nat) (row : Array Value) (r : Nd.Rf) (W : World) : Prop where
  t : CpT w x Ap np cp Av nv cv Ac nc cc Ak nk kk A1 c1 A2 c2 A3 c3 B K k kc us W
  y : Blk W gy 26 row
  rv : RefIn (Apart (fun _ => False) B (.slice K k kc)) W (.agg row) r
end Go.Proofs.Yteknhmhmepnfjaa

/-
  The laws of chapter 05: copied, the walk.
-/
namespace Go.Proofs.Yteknhmhmepnfjaa
open Go.RowKit

set_option maxHeartbeats 4000000 in
set_option maxRecDepth 100000 in
theorem law_copied (v : Value) (x : Nd.No) (w : World) (hv : NodIn (fun q => q < w.heap.size) w v x) (hbig : Nd.Big x) :
    Calls Try.prog 6 #[v] w fun e w' => (∃ v', e = .returned v' ∧ NodIn (fun q => w.heap.size ≤ q) w' v' x) ∧ Below w.heap.size w w' := by
  obtain ⟨Ap, np, cp, Av, nv, cv, Ac, nc, cc, Ak, nk, kk, vs, rfl, hcd, ⟨hp1, hp2, hp3, hp4⟩, ⟨hv1, hv2, hv3, hv4⟩, ⟨hc1, hc2, hc3, hc4⟩, hnk, hkk, hkm, hin, hall⟩ := hv
  rw [show (nodCells x.kind Ap np cp Av nv cv x.child.kind x.child.dig Ac nc cc Ak nk kk).toArray = nodRow x.kind Ap np cp Av nv cv x.child.kind x.child.dig Ac nc cc Ak nk kk from rfl] at *
  have hpB : Bytes w w.heap.size Ap np cp x.path := ⟨hp1, hp2, hp3, hp4.reads fun g _ h => h⟩
  have hvB : Bytes w w.heap.size Av nv cv x.value := ⟨hv1, hv2, hv3, hv4.reads fun g _ h => h⟩
  have hcB : Bytes w w.heap.size Ac nc cc x.child.inl := ⟨hc1, hc2, hc3, hc4.reads fun g _ h => h⟩
  have hF : NodF w x.kind Ap np cp Av nv cv x.child.kind x.child.dig Ac nc cc Ak nk kk (w.alloc (.cells (nodRow x.kind Ap np cp Av nv cv x.child.kind x.child.dig Ac nc cc Ak nk kk) 29)) := NodF.of (Blk.new w _ _) hcd ((Below.refl _ _).alloc (Nat.le_refl _) _)
  have hblk := hF.blk.alloc (.cells noZ 29)
  have hI0 : CpS w x Ap np cp Av nv cv Ac nc cc Ak nk kk (nodRow x.kind Ap np cp Av nv cv x.child.kind x.child.dig Ac nc cc Ak nk kk) ((((w.alloc (.cells (nodRow x.kind Ap np cp Av nv cv x.child.kind x.child.dig Ac nc cc Ak nk kk) 29)).alloc (.cells noZ 29)).alloc (.cells noZ 29)).setRow (w.heap.size + 2) (nodRow x.kind Ap np cp Av nv cv x.child.kind x.child.dig Ac nc cc Ak nk kk)) := by
    have hs2 : ((w.alloc (.cells (nodRow x.kind Ap np cp Av nv cv x.child.kind x.child.dig Ac nc cc Ak nk kk) 29)).alloc (.cells noZ 29)).heap.size = w.heap.size + 2 := by simp
    have hb : Below (w.alloc (.cells (nodRow x.kind Ap np cp Av nv cv x.child.kind x.child.dig Ac nc cc Ak nk kk) 29)).heap.size (w.alloc (.cells (nodRow x.kind Ap np cp Av nv cv x.child.kind x.child.dig Ac nc cc Ak nk kk) 29)) (((w.alloc (.cells (nodRow x.kind Ap np cp Av nv cv x.child.kind x.child.dig Ac nc cc Ak nk kk) 29)).alloc (.cells noZ 29)).alloc (.cells noZ 29)) := ((Below.refl _ _).alloc (Nat.le_refl _) _).alloc (by simp) _
    exact ⟨hF.step hcd (below_row hb (by simp) _), ((Blk.new' (by simp)).alloc _).row_far _ (by omega), (Blk.new' hs2.symm).row _⟩
  have hL1 : np ≤ 140737488351232 := by have := hbig.path; omega
  have hL2 : nv ≤ 140737488351232 := by have := hbig.value; omega
  have hL3 : nc ≤ 140737488351232 := by have := hbig.child; omega
  have hL4 : nk * 64 ≤ 140737488351232 := by have := hbig.kids; omega
  have hL5 := hbig.each
  have hk63 : (nk : Int) ≤ 9223372036854775807 := by omega
  clear hF hbig hp2 hp3 hp4 hv2 hv3 hv4 hc2 hc3 hc4
  replace hp1 := Lib.hid hp1
  replace hv1 := Lib.hid hv1
  replace hc1 := Lib.hid hc1
  replace hpB := Lib.hid hpB
  replace hvB := Lib.hid hvB
  replace hcB := Lib.hid hcB
  replace hnk := Lib.hid hnk
  replace hin := Lib.hid hin
  replace hall := Lib.hid hall
  replace hcd := Lib.hid hcd
  replace hI0 := Lib.hid hI0
  replace hL5 := Lib.hid hL5
  go_enter Try.func6, Try.ntmps6
  go_upto_region 2 with (first
    | (refine wpList_load_row rfl 29 _ rfl w.heap.size rfl _ _ _ _ hblk Try.underlying29 rfl (by rw [nodRow_size hcd.out]; exact info_node) ?_)
    | (refine wpList_store_row rfl 29 _ _ rfl (w.heap.size + 2) (nodRow x.kind Ap np cp Av nv cv x.child.kind x.child.dig Ac nc cc Ak nk kk) rfl rfl _ _ (Blk.new' (w := (w.alloc (.cells (nodRow x.kind Ap np cp Av nv cv x.child.kind x.child.dig Ac nc cc Ak nk kk) 29)).alloc (.cells noZ 29)) (t := 29) (cs := noZ) (by simp)) (by rw [nodRow_size hcd.out]; exact info_node) (by rw [nodRow_size hcd.out]; rfl) (nodRow_one _ _ _ _ _ _ _ _ _ _ _ _ _ _ _) ?_)
    | fail)
  refine code_at (CpS w x Ap np cp Av nv cv Ac nc cc Ak nk kk (nodRow x.kind Ap np cp Av nv cv x.child.kind x.child.dig Ac nc cc Ak nk kk)) hI0.out ?_
  clear hI0 hblk
  intro w1 hS
  have g1 : w1.cell? ⟨w.heap.size, 1, none⟩ = some (.slice Ap np cp) := hS.f.c1
  have hby := (hpB.out.below hS.f.bel).more hS.f.bel.size
  have hmB := hS.m
  have hS' := fun (w2 : World) (hb : Below w1.heap.size w1 w2) => hS.step hcd.out hb
  have hwsz := hS.sz
  have hal : Below w1.heap.size w1 (w1.alloc (.cells #[] 5)) := (Below.refl _ _).alloc (Nat.le_refl _) _
  have hg1' : (w1.alloc (.cells #[] 5)).cell? ⟨w.heap.size, 1, none⟩ = some (.slice Ap np cp) := (World.cell?_alloc_lt w1 _ _ hS.f.blk.lt).trans g1
  replace hby := Lib.hid hby
  replace hS' := Lib.hid hS'
  replace hmB := Lib.hid hmB
  replace hal := Lib.hid hal
  clear hS 
  go_upto_region 3 with (first
    | (at_builtin; refine wpList_append_u8 rfl _ _ rfl w1.heap.size _ 0 [] rfl (own_lit w1 #[] [] w1.heap.size rfl (by simp [maxLen]) (Nat.le_refl _) rfl) w1.heap.size _ _ _ x.path rfl (hby.out.alloc (Nat.le_refl _) _) (by omega) (by simp) ?_; intro A1 c1 w2 hown hb5; rw [List.nil_append, Nat.zero_add] at hown; have hbW := hal.out.trans hb5; have gm : w2.cell? ⟨w.heap.size + 2, 1, none⟩ = some (.slice Ap np cp) := (hbW.cell (p := ⟨w.heap.size + 2, 1, none⟩) (by show w.heap.size + 2 < w1.heap.size; omega)).trans (hmB.out.cell 1); have fm := (hmB.out.below hbW hmB.out.lt).frozen 1; replace hown := Lib.hid hown; replace hbW := Lib.hid hbW; clear hb5 hg1')
    | fail)
  have hO := Own.of_row hown.out
  have hcapN := hO.cap
  have hlimN := hO.lim
  refine code_at (fun w1' => CpS w x Ap np cp Av nv cv Ac nc cc Ak nk kk (nodRow x.kind A1 np c1 Av nv cv x.child.kind x.child.dig Ac nc cc Ak nk kk) w1' ∧ InS (fun q => w.heap.size + 3 ≤ q) w1' 1 A1 np (bv x.path)) ⟨(hS'.out _ hbW.out).set_ hcd.out 1 _ nodRow_set1, ((InS.of_own hO).move (S' := fun q => w.heap.size + 3 ≤ q) (fun q h1 h2 => ⟨by omega, rfl⟩) (Nat.le_refl _)).set_far (fun q h => by omega)⟩ ?_
  clear hS' hmB hal hby hown hbW gm fm hO g1
  have hA1 := hcapN
  have hA1l := hlimN
  clear hcapN hlimN
  intro w3 ⟨hS, hP⟩
  have g1 : w3.cell? ⟨w.heap.size, 2, none⟩ = some (.slice Av nv cv) := hS.f.c2
  have hby := (hvB.out.below hS.f.bel).more hS.f.bel.size
  have hmB := hS.m
  have hS' := fun (w4 : World) (hb : Below w3.heap.size w3 w4) => hS.step hcd.out hb
  have hwsz := hS.sz
  have hal : Below w3.heap.size w3 (w3.alloc (.cells #[] 5)) := (Below.refl _ _).alloc (Nat.le_refl _) _
  have hg1' : (w3.alloc (.cells #[] 5)).cell? ⟨w.heap.size, 2, none⟩ = some (.slice Av nv cv) := (World.cell?_alloc_lt w3 _ _ hS.f.blk.lt).trans g1
  have hhP' := fun (w4 : World) (hb : Below w3.heap.size w3 w4) => hP.move (S' := fun q => w.heap.size + 3 ≤ q) (w' := w4) (fun q h1 h2 => ⟨h1, hb.block q h2⟩) hb.size
  replace hhP' := Lib.hid hhP'
  replace hby := Lib.hid hby
  replace hS' := Lib.hid hS'
  replace hmB := Lib.hid hmB
  replace hal := Lib.hid hal
  clear hS  hP
  go_upto_region 4 with (first
    | (at_builtin; refine wpList_append_u8 rfl _ _ rfl w3.heap.size _ 0 [] rfl (own_lit w3 #[] [] w3.heap.size rfl (by simp [maxLen]) (Nat.le_refl _) rfl) w3.heap.size _ _ _ x.value rfl (hby.out.alloc (Nat.le_refl _) _) (by omega) (by simp) ?_; intro A2 c2 w4 hown hb5; rw [List.nil_append, Nat.zero_add] at hown; have hbW := hal.out.trans hb5; have gm : w4.cell? ⟨w.heap.size + 2, 2, none⟩ = some (.slice Av nv cv) := (hbW.cell (p := ⟨w.heap.size + 2, 2, none⟩) (by show w.heap.size + 2 < w3.heap.size; omega)).trans (hmB.out.cell 2); have fm := (hmB.out.below hbW hmB.out.lt).frozen 2; replace hown := Lib.hid hown; replace hbW := Lib.hid hbW; clear hb5 hg1')
    | fail)
  have hO := Own.of_row hown.out
  have hcapN := hO.cap
  have hlimN := hO.lim
  refine code_at (fun w3' => CpS w x Ap np cp Av nv cv Ac nc cc Ak nk kk (nodRow x.kind A1 np c1 A2 nv c2 x.child.kind x.child.dig Ac nc cc Ak nk kk) w3' ∧ InS (fun q => w.heap.size + 3 ≤ q) w3' 1 A1 np (bv x.path) ∧ InS (fun q => w.heap.size + 3 ≤ q) w3' 1 A2 nv (bv x.value)) ⟨(hS'.out _ hbW.out).set_ hcd.out 2 _ nodRow_set2, (hhP'.out _ hbW.out).set_far (fun q h => by omega), ((InS.of_own hO).move (S' := fun q => w.heap.size + 3 ≤ q) (fun q h1 h2 => ⟨by omega, rfl⟩) (Nat.le_refl _)).set_far (fun q h => by omega)⟩ ?_
  clear hS' hmB hal hby hown hbW gm fm hO g1 hhP'
  have hA2 := hcapN
  have hA2l := hlimN
  clear hcapN hlimN
  intro w5 ⟨hS, hP, hV⟩
  have g1 : w5.cell? ⟨w.heap.size, 36, none⟩ = some (.slice Ac nc cc) := (hS.f.blk.cell 36).trans (nodRow_36 hcd.out)
  have hby := (hcB.out.below hS.f.bel).more hS.f.bel.size
  have hmB := hS.m
  have hS' := fun (w6 : World) (hb : Below w5.heap.size w5 w6) => hS.step hcd.out hb
  have hwsz := hS.sz
  have hal : Below w5.heap.size w5 (w5.alloc (.cells #[] 5)) := (Below.refl _ _).alloc (Nat.le_refl _) _
  have hg1' : (w5.alloc (.cells #[] 5)).cell? ⟨w.heap.size, 36, none⟩ = some (.slice Ac nc cc) := (World.cell?_alloc_lt w5 _ _ hS.f.blk.lt).trans g1
  have hhP' := fun (w6 : World) (hb : Below w5.heap.size w5 w6) => hP.move (S' := fun q => w.heap.size + 3 ≤ q) (w' := w6) (fun q h1 h2 => ⟨h1, hb.block q h2⟩) hb.size
  replace hhP' := Lib.hid hhP'
  have hhV' := fun (w6 : World) (hb : Below w5.heap.size w5 w6) => hV.move (S' := fun q => w.heap.size + 3 ≤ q) (w' := w6) (fun q h1 h2 => ⟨h1, hb.block q h2⟩) hb.size
  replace hhV' := Lib.hid hhV'
  replace hby := Lib.hid hby
  replace hS' := Lib.hid hS'
  replace hmB := Lib.hid hmB
  replace hal := Lib.hid hal
  clear hS  hP hV
  go_upto_region 5 with (first
    | (at_builtin; refine wpList_append_u8 rfl _ _ rfl w5.heap.size _ 0 [] rfl (own_lit w5 #[] [] w5.heap.size rfl (by simp [maxLen]) (Nat.le_refl _) rfl) w5.heap.size _ _ _ x.child.inl rfl (hby.out.alloc (Nat.le_refl _) _) (by omega) (by simp) ?_; intro A3 c3 w6 hown hb5; rw [List.nil_append, Nat.zero_add] at hown; have hbW := hal.out.trans hb5; have gm : w6.cell? ⟨w.heap.size + 2, 36, none⟩ = some (.slice Ac nc cc) := (hbW.cell (p := ⟨w.heap.size + 2, 36, none⟩) (by show w.heap.size + 2 < w5.heap.size; omega)).trans ((hmB.out.cell 36).trans (nodRow_36 hcd.out)); have fm := (hmB.out.below hbW hmB.out.lt).frozen 36; replace hown := Lib.hid hown; replace hbW := Lib.hid hbW; clear hb5 hg1')
    | fail)
  have hO := Own.of_row hown.out
  have hcapN := hO.cap
  have hlimN := hO.lim
  refine code_at (fun w5' => CpS w x Ap np cp Av nv cv Ac nc cc Ak nk kk (nodRow x.kind A1 np c1 A2 nv c2 x.child.kind x.child.dig A3 nc c3 Ak nk kk) w5' ∧ InS (fun q => w.heap.size + 3 ≤ q) w5' 1 A1 np (bv x.path) ∧ InS (fun q => w.heap.size + 3 ≤ q) w5' 1 A2 nv (bv x.value) ∧ InS (fun q => w.heap.size + 3 ≤ q) w5' 1 A3 nc (bv x.child.inl)) ⟨(hS'.out _ hbW.out).set_ hcd.out 36 _ (nodRow_set36 hcd.out), (hhP'.out _ hbW.out).set_far (fun q h => by omega), (hhV'.out _ hbW.out).set_far (fun q h => by omega), ((InS.of_own hO).move (S' := fun q => w.heap.size + 3 ≤ q) (fun q h1 h2 => ⟨by omega, rfl⟩) (Nat.le_refl _)).set_far (fun q h => by omega)⟩ ?_
  clear hS' hmB hal hby hown hbW gm fm hO g1 hhP' hhV'
  have hA3 := hcapN
  have hA3l := hlimN
  clear hcapN hlimN
  intro w7 ⟨hS, hP, hV, hC⟩
  have gm : w7.cell? ⟨w.heap.size + 2, 37, none⟩ = some (.slice Ak nk kk) := (hS.m.cell 37).trans (nodRow_last hcd.out)
  have fm := hS.m.frozen 37
  have hsz7 := hS.sz
  have hT8 : CpT w x Ap np cp Av nv cv Ac nc cc Ak nk kk A1 c1 A2 c2 A3 c3 w7.heap.size none 0 0 [] (w7.setCell ⟨w.heap.size + 2, 37, none⟩ (.slice none 0 0)) := by
    have hmv : ∀ (A : Option Addr) (n : Nat) (l : List Value), InS (fun q => w.heap.size + 3 ≤ q) w7 1 A n l → InS (fun q => w.heap.size + 3 ≤ q ∧ q < w7.heap.size) (w7.setCell ⟨w.heap.size + 2, 37, none⟩ (.slice none 0 0)) 1 A n l := fun A n l h =>
      (h.move (S' := fun q => w.heap.size + 3 ≤ q ∧ q < w7.heap.size) (fun q h1 h2 => ⟨⟨h1, h2⟩, rfl⟩) (Nat.le_refl _)).set_far (fun q h => by omega)
    exact ⟨hS.set_ hcd.out 37 _ (nodRow_set37 hcd.out), hmv _ _ _ hP, hmv _ _ _ hV, hmv _ _ _ hC, RfL.start, hsz7, by rw [size_set]; exact Nat.le_refl _⟩
  replace hT8 := Lib.hid hT8
  clear hS hP hV hC
  go_upto_region 6 with fail
  refine code_at (CpT w x Ap np cp Av nv cv Ac nc cc Ak nk kk A1 c1 A2 c2 A3 c3 w7.heap.size none 0 0 []) hT8.out ?_
  clear hT8 gm fm hsz7
  generalize w7.heap.size = B at *
  intro w8 hT
  have c37 := hT.s.f.c37
  replace hT := Lib.hid hT
  go_wp2_with fail
  clear c37
  go_loopw [28] (fun i wr => ∃ (j : Nat) (K : Option Addr) (kc : Nat) (us : List Value), j ≤ nk ∧ i = .int .i64 j ∧ CpT w x Ap np cp Av nv cv Ac nc cc Ak nk kk A1 c1 A2 c2 A3 c3 B K j kc us wr) (fun i _ => nk - (intOf i).toNat)
  case atStart => exact ⟨0, none, 0, [], Nat.zero_le _, rfl, hT.out⟩
  case round =>
    clear hT
    obtain ⟨j, K, kc, us, hj, rfl, hTr⟩ := hrel
    by_cases hlt : j < nk
    · have hlt' : (j : Int) < nk := by omega
      have c37 := hTr.s.f.c37
      have hkl : j < x.kids.length := by rw [← hnk.out]; exact hlt
      have hmv : ∀ q, q < w.heap.size → q < w.heap.size → q < w.heap.size ∧ wr.heap[q]? = w.heap[q]? := fun q h1 h2 => ⟨h1, hTr.s.f.bel.block q h2⟩
      obtain ⟨g, o, Ar, nr, cr, rfl, hSg, hg, hrg, hdl, hby⟩ := refs_at (hin.out.move hmv hTr.s.f.bel.size) (hall.out.imp fun v x hx => hx.move hmv hTr.s.f.bel.size) hnk.out j hkl
      have hbd := hL5.out _ (List.getElem_mem hkl)
      have htk : x.kids.take (j + 1) = x.kids.take j ++ [x.kids[j]] := List.take_succ_eq_append_getElem hkl
      generalize x.kids[j] = r at *
      obtain ⟨rk, rd, ri⟩ := r
      simp only at hrg hdl hby hbd
      have hnr := hby.len
      have hst := Lib.hid (ref_stored (wr := wr) (refRow rk rd Ar nr cr))
      have hB1 := hTr.b
      have hB2 := hTr.sz
      replace hTr := Lib.hid hTr
      replace hdl := Lib.hid hdl
      replace htk := Lib.hid htk
      replace hby := Lib.hid hby
      have hnrb : nr ≤ 140737488351232 := by omega
      replace hnr := Lib.hid hnr
      clear hmv hbd
      go_upto_region 10 with (first
        | (refine wpList_load_mid rfl 26 _ rfl g (o + j * 34) rfl (refCells rk rd Ar nr cr) _ hrg Try.underlying26 rfl (by rw [refCells_length hdl.out]; exact info_ref) ?_)
        | (refine wpList_store_row rfl 26 _ _ rfl wr.heap.size (refRow rk rd Ar nr cr) rfl rfl _ _ (Blk.new wr 26 refZ) (by rw [refRow_size hdl.out]; exact info_ref) (by rw [refRow_size hdl.out]; rfl) (refRow_one _ _ _ _ _) ?_)
        | fail)
      refine code_at (RefS wr (refRow rk rd Ar nr cr)) hst.out ?_
      clear hst hrg c37
      intro wa hRa
      have ga : wa.cell? ⟨wr.heap.size, 33, none⟩ = some (.slice Ar nr cr) := (hRa.it.cell 33).trans (refRow_last hdl.out)
      have hrl := hRa.it.lt
      have ga' : (wa.alloc (.cells #[] 5)).cell? ⟨wr.heap.size, 33, none⟩ = some (.slice Ar nr cr) := (World.cell?_alloc_lt wa _ _ hrl).trans ga
      have hbya := Lib.hid (hby.out.step hRa.bel)
      have hTa := Lib.hid (hTr.out.step hcd.out hRa.bel)
      have hal := Lib.hid (((Below.refl wa.heap.size wa).alloc (Nat.le_refl _) (.cells #[] 5)))
      have hwsz := hRa.bel.size
      replace hRa := Lib.hid hRa
      go_upto_region 11 with (first
        | (at_builtin; refine wpList_append_u8 rfl _ _ rfl wa.heap.size _ 0 [] rfl (own_lit wa #[] [] wa.heap.size rfl (by simp [maxLen]) (Nat.le_refl _) rfl) wa.heap.size _ _ _ ri rfl (hbya.out.alloc (Nat.le_refl _) _) (by omega) (by simp) ?_; intro A5 c5 wb hown hb5; rw [List.nil_append, Nat.zero_add] at hown; have hbW := hal.out.trans hb5; have gm : wb.cell? ⟨wr.heap.size, 33, none⟩ = some (.slice Ar nr cr) := (hbW.cell (p := ⟨wr.heap.size, 33, none⟩) hrl).trans ga; have fm := (hRa.out.it.below hbW hrl).frozen 33; replace hown := Lib.hid hown; replace hbW := Lib.hid hbW; clear hb5)
        | fail)
      have hO := Own.of_row hown.out
      have how := hTr.out.lst.own.lt
      have hbset : Below wr.heap.size wr (wb.setCell ⟨wr.heap.size, 33, none⟩ (.slice A5 nr c5)) := (hRa.out.bel.trans (hbW.out.mono hwsz)).setCell (by show wr.heap.size ≤ wr.heap.size; exact Nat.le_refl _) _
      have hM : CpM w x Ap np cp Av nv cv Ac nc cc (some ⟨g, o, none⟩) nk kk A1 c1 A2 c2 A3 c3 B K j kc us wr.heap.size (refRow rk rd A5 nr c5) ⟨rk, rd, ri⟩ (wb.setCell ⟨wr.heap.size, 33, none⟩ (.slice A5 nr c5)) := by
        refine ⟨hTr.out.step hcd.out hbset, ((hRa.out.it.below hbW.out hrl).set_ 33 _).eq (refRow_set33 _ _ _ _ _ _ _ _ hdl.out), A5, nr, c5, rfl, hdl.out, hnr.out, hO.cap, hO.lim, ?_⟩
        refine ((InS.of_own hO).move (S' := fun q => wa.heap.size ≤ q) (fun q h1 h2 => ⟨h1, rfl⟩) (Nat.le_refl _)).set_far (g := wr.heap.size) (i := 33) (u := .slice A5 nr c5) (fun q h => by omega) |>.move (fun q h1 h2 => ⟨⟨.inr (by omega), fun e => by have := (how _ e).2; omega⟩, rfl⟩) (Nat.le_refl _)
      replace hM := Lib.hid hM
      refine code_at (CpM w x Ap np cp Av nv cv Ac nc cc (some ⟨g, o, none⟩) nk kk A1 c1 A2 c2 A3 c3 B K j kc us wr.heap.size (refRow rk rd A5 nr c5) ⟨rk, rd, ri⟩) hM.out ?_
      clear hM hO hown hbW gm fm hbset hTa hal hbya ga ga' hRa how hwsz hrl
      intro wc hM
      have hyb := hM.y
      have hyl := hyb.lt
      have g37 : wc.cell? ⟨w.heap.size + 2, 37, none⟩ = some (.slice K j kc) := (hM.t.s.m.cell 37).trans (nodRow_last hcd.out)
      have hszc := hM.t.sz
      have hlstc := hM.t.lst.below ((Below.refl _ _).alloc (Nat.le_refl _) (.cells (refRow rk rd A5 nr c5) 26))
      have hrvc : RefIn (Apart (fun _ => False) B (.slice K j kc)) (wc.alloc (.cells (refRow rk rd A5 nr c5) 26)) (.agg (refRow rk rd A5 nr c5)) ⟨rk, rd, ri⟩ := hM.rv.move (fun q h1 h2 => ⟨h1, Below.heap_alloc wc _ q h2⟩) (by simp)
      replace hM := Lib.hid hM
      replace hlstc := Lib.hid hlstc
      replace hrvc := Lib.hid hrvc
      go_wp2_with (first
        | (refine wpList_load_row rfl 26 _ rfl wr.heap.size rfl _ _ _ _ hyb Try.underlying26 rfl (by rw [refRow_size hdl.out]; exact info_ref) ?_)
        | (refine wpList_build_ref rfl _ rfl rk rd nr hdl.out rfl ?_)
        | (at_builtin; refine wpList_append_refG rfl _ _ rfl hlstc.out (by simp; omega) rfl rfl (by simp) hdl.out (Blk.new wc 26 (refRow rk rd A5 nr c5)) hrvc.out (by omega) ?_; intro K9 kc9 w9 hL9 hg9; have hn := hM.out.t.next hcd.out htk.out hL9 hg9; have gb := (hn.1.cell 37).trans (nodRow_last hcd.out); have fb := hn.1.frozen 37; replace hn := Lib.hid hn.2; clear hL9 hg9)
        | fail)
      refine ⟨⟨j + 1, K9, kc9, _, by omega, by go_num, hn.out⟩, ?_⟩
      simp [intOf]; omega
    · obtain rfl : j = nk := by omega
      have hlt' : ¬ (j : Int) < j := by omega
      have hmB := hTr.s.m
      have hres := hTr.s.res
      have hO := Own.of_row hTr.lst.own
      have htk : x.kids.take j = x.kids := List.take_of_length_le (by rw [hnk.out]; exact Nat.le_refl _)
      have hbF := below_row hTr.s.f.bel (show w.heap.size ≤ w.heap.size + 1 by omega) (nodRow x.kind A1 np c1 A2 nv c2 x.child.kind x.child.dig A3 nc c3 K j kc)
      have hmv : ∀ (A : Option Addr) (n : Nat) (l : List Value), InS (fun q => w.heap.size + 3 ≤ q ∧ q < B) wr 1 A n l → InS (fun q => w.heap.size ≤ q) (wr.setRow (w.heap.size + 1) (nodRow x.kind A1 np c1 A2 nv c2 x.child.kind x.child.dig A3 nc c3 K j kc)) 1 A n l := fun A n l h =>
        h.move (fun q h1 h2 => ⟨by omega, setRow_other _ _ q _ (by omega)⟩) (by simp)
      have hBs := hTr.b
      have hX : NodIn (fun q => w.heap.size ≤ q) (wr.setRow (w.heap.size + 1) (nodRow x.kind A1 np c1 A2 nv c2 x.child.kind x.child.dig A3 nc c3 K j kc)) (.agg (nodRow x.kind A1 np c1 A2 nv c2 x.child.kind x.child.dig A3 nc c3 K j kc)) x :=
        ⟨A1, np, c1, A2, nv, c2, A3, nc, c3, K, j, kc, us, rfl, hcd.out, ⟨hp1.out, hA1, hA1l, hmv _ _ _ hTr.p⟩, ⟨hv1.out, hA2, hA2l, hmv _ _ _ hTr.v⟩, ⟨hc1.out, hA3, hA3l, hmv _ _ _ hTr.c⟩, hnk.out, hO.cap, hO.lim, (InS.of_own hO).move (fun q h1 h2 => ⟨by omega, setRow_other _ _ q _ (by omega)⟩) (by simp), by
          have h := hTr.lst.all
          rw [htk] at h
          exact h.imp fun v y hy => hy.move (fun q h1 h2 => ⟨by rcases h1.1 with h | h; exact h.elim; omega, setRow_other _ _ q _ (by rcases h1.1 with h | h; exact h.elim; omega)⟩) (by simp)⟩
      replace hX := Lib.hid hX
      replace hbF := Lib.hid hbF
      clear hTr hO hmv htk
      go_wp2_with (first
        | (refine wpList_load_row rfl 29 _ rfl (w.heap.size + 2) rfl _ _ _ _ hmB Try.underlying29 rfl (by rw [nodRow_size hcd.out]; exact info_node) ?_)
        | (refine wpList_store_row rfl 29 _ _ rfl (w.heap.size + 1) (nodRow x.kind A1 np c1 A2 nv c2 x.child.kind x.child.dig A3 nc c3 K j kc) rfl rfl _ _ hres (by rw [nodRow_size hcd.out]; exact info_node) (by rw [nodRow_size hcd.out]; rfl) (nodRow_one _ _ _ _ _ _ _ _ _ _ _ _ _ _ _) ?_)
        | fail)
      refine bodyPost_ret (v := .agg (nodRow x.kind A1 np c1 A2 nv c2 x.child.kind x.child.dig A3 nc c3 K j kc)) (results_cell_row rfl _ _ (w.heap.size + 1) _ (nodRow x.kind A1 np c1 A2 nv c2 x.child.kind x.child.dig A3 nc c3 K j kc) _ _ rfl (hres.row _) Try.underlying29 rfl (by rw [nodRow_size hcd.out]; exact info_node)) rfl ?_
      exact ⟨⟨_, rfl, hX.out⟩, hbF.out⟩
end Go.Proofs.Yteknhmhmepnfjaa

/-
  The reference of chapter 5, plain: what its Decode puts together.
-/
namespace Go.Proofs.Yteknhmhmepnfjaa
namespace Nd
/-- the reference: what an item may name; a node of two items, of seventeen -/
def rref (x : Ns.It 8) : Rf := if isList x = true then ⟨1, z32, Ns.enc 8 x⟩ else if (bytesOf x).length = 32 then ⟨2, bytesOf x, []⟩ else rf0
def rtwo (p o : Ns.It 8) : No := if Nib.unpackB (bytesOf p) = true then ⟨1, Nib.unpackL (bytesOf p), bytesOf o, rf0, []⟩ else ⟨2, Nib.unpackL (bytesOf p), [], rref o, []⟩
def rmany (l : List (Ns.It 8)) (z : Ns.It 8) : No := ⟨3, [], bytesOf z, rf0, l.map rref⟩
theorem rref_eq {x : Ns.It 8} (h : (refOf x).2 = true) : (refOf x).1 = rref x := by
  unfold refOf at h ⊢
  unfold rref
  by_cases h1 : isList x = true
  · rw [if_pos h1, if_pos h1]
  · rw [if_neg h1] at h ⊢
    rw [if_neg h1]
    by_cases h0 : (bytesOf x).length = 0
    · rw [if_pos h0, if_neg (by omega)]
    · rw [if_neg h0] at h ⊢
      by_cases h2 : (bytesOf x).length = 32
      · rw [if_pos h2, if_pos h2]
      · rw [if_neg h2] at h; cases h
theorem rref_dig (x : Ns.It 8) : (rref x).dig.length = 32 := by
  unfold rref
  split
  · rfl
  · split
    · assumption
    · rfl
theorem rtwo_wf (p o : Ns.It 8) : wf (rtwo p o) := by
  unfold rtwo
  split
  · intro r hr
    simp only [refs, List.mem_cons, List.not_mem_nil, or_false] at hr
    subst hr; rfl
  · intro r hr
    simp only [refs, List.mem_cons, List.not_mem_nil, or_false] at hr
    subst hr; exact rref_dig o
theorem rmany_wf (l : List (Ns.It 8)) (z : Ns.It 8) : wf (rmany l z) := by
  intro r hr
  simp only [refs, rmany, List.mem_cons, List.mem_map] at hr
  rcases hr with rfl | ⟨x, _, rfl⟩
  · rfl
  · exact rref_dig x
theorem dec_iff {b : List UInt8} {n : No} (hw : wf n) (hs : ∀ m, dec b = some m → m = n) : dec b = if right dec n = true ∧ enc n = b then some n else Option.none := by
  by_cases h : right dec n = true ∧ enc n = b
  · rw [if_pos h]
    have := dec_enc hw h.1
    rwa [h.2] at this
  · rw [if_neg h]
    cases hd : dec b with
    | none => rfl
    | some m =>
      have := hs m hd
      subst this
      have := enc_dec hd
      exact absurd ⟨this.2, this.1⟩ h
theorem rdec_two {b : List UInt8} {p o : Ns.It 8} (h : Ns.dec b = .ok (.inr [p, o])) : dec b = if right dec (rtwo p o) = true ∧ enc (rtwo p o) = b then some (rtwo p o) else Option.none := by
  refine dec_iff (rtwo_wf p o) fun m hm => ?_
  obtain ⟨xs, hd, hs, hr⟩ := dec_some hm
  rw [h] at hd
  injection hd with hd
  injection hd with hd
  subst hd
  rcases shape_cases hs with ⟨p', o', q, e, h1, h2, h3, rfl⟩ | ⟨p', o', q, e, h1, h2, h3, rfl⟩ | ⟨l, z, e, hl, hz, hrs, rfl⟩
  · injection e with e1 e2
    injection e2 with e2
    subst e1 e2
    unfold rtwo
    rw [show Nib.unpackB (bytesOf p) = true by simp [Nib.unpackB, h2], if_pos rfl, show Nib.unpackL (bytesOf p) = q by simp [Nib.unpackL, h2]]
  · injection e with e1 e2
    injection e2 with e2
    subst e1 e2
    unfold rtwo
    rw [show Nib.unpackB (bytesOf p) = false by simp [Nib.unpackB, h2], if_neg (by simp), show Nib.unpackL (bytesOf p) = q by simp [Nib.unpackL, h2], rref_eq h3]
  · have := congrArg List.length e
    simp [hl] at this
theorem rdec_many {b : List UInt8} {xs : List (Ns.It 8)} (h : Ns.dec b = .ok (.inr xs)) (h17 : xs.length = 17) :
    dec b = if right dec (rmany (xs.take 16) (xs[16]'(by omega))) = true ∧ enc (rmany (xs.take 16) (xs[16]'(by omega))) = b then some (rmany (xs.take 16) (xs[16]'(by omega))) else Option.none := by
  refine dec_iff (rmany_wf _ _) fun m hm => ?_
  obtain ⟨xs', hd, hs, hr⟩ := dec_some hm
  rw [h] at hd
  injection hd with hd
  injection hd with hd
  subst hd
  rcases shape_cases hs with ⟨p', o', q, e, h1, h2, h3, rfl⟩ | ⟨p', o', q, e, h1, h2, h3, rfl⟩ | ⟨l, z, e, hl, hz, hrs, rfl⟩
  · subst e; simp at h17
  · subst e; simp at h17
  · subst e
    have e1 : (l ++ [z]).take 16 = l := by rw [← hl, List.take_left]
    have e2 : (l ++ [z])[16]'(by omega) = z := by rw [List.getElem_append_right (by omega)]; simp [hl]
    rw [e1, e2]
    unfold rmany
    rw [show (l.map fun x => (refOf x).1) = l.map rref from List.map_congr_left fun x hx => rref_eq (hrs x hx)]
theorem rdec_else {b : List UInt8} {xs : List (Ns.It 8)} (h : Ns.dec b = .ok (.inr xs)) (h2 : xs.length ≠ 2) (h17 : xs.length ≠ 17) : dec b = Option.none := by
  cases hd : dec b with
  | none => rfl
  | some m =>
    obtain ⟨xs', hd, hs, hr⟩ := dec_some hd
    rw [h] at hd
    injection hd with hd
    injection hd with hd
    subst hd
    rcases shape_cases hs with ⟨p', o', q, e, _⟩ | ⟨p', o', q, e, _⟩ | ⟨l, z, e, hl, _⟩
    · subst e; simp at h2
    · subst e; simp at h2
    · subst e; simp [hl] at h17
theorem rdec_text {b l : List UInt8} (h : Ns.dec b = .ok (.inl l)) : dec b = Option.none := by
  rw [dec_eq, h]
theorem rdec_error {b : List UInt8} {k : Int} (h : Ns.dec b = .error k) : dec b = Option.none := by
  rw [dec_eq, h]
end Nd
end Go.Proofs.Yteknhmhmepnfjaa

/-
  The reference of chapter 5: Empty, refers.
-/
namespace Go.Proofs.Yteknhmhmepnfjaa
open Go.RowKit

theorem run_neq_zero (d : List UInt8) (hd : d.length = 32) (w : World) : (binOp .neq 24 (.agg (bv d).toArray) (.agg #[.int .u8 0, .int .u8 0, .int .u8 0, .int .u8 0, .int .u8 0, .int .u8 0, .int .u8 0, .int .u8 0, .int .u8 0, .int .u8 0, .int .u8 0, .int .u8 0, .int .u8 0, .int .u8 0, .int .u8 0, .int .u8 0, .int .u8 0, .int .u8 0, .int .u8 0, .int .u8 0, .int .u8 0, .int .u8 0, .int .u8 0, .int .u8 0, .int .u8 0, .int .u8 0, .int .u8 0, .int .u8 0, .int .u8 0, .int .u8 0, .int .u8 0, .int .u8 0])).run Try.prog w = .ok (.bool (!decide (d = Nd.z32))) w := by
  have := run_equal_dig d Nd.z32 hd rfl w
  have e : (.agg #[.int .u8 0, .int .u8 0, .int .u8 0, .int .u8 0, .int .u8 0, .int .u8 0, .int .u8 0, .int .u8 0, .int .u8 0, .int .u8 0, .int .u8 0, .int .u8 0, .int .u8 0, .int .u8 0, .int .u8 0, .int .u8 0, .int .u8 0, .int .u8 0, .int .u8 0, .int .u8 0, .int .u8 0, .int .u8 0, .int .u8 0, .int .u8 0, .int .u8 0, .int .u8 0, .int .u8 0, .int .u8 0, .int .u8 0, .int .u8 0, .int .u8 0, .int .u8 0] : Value) = .agg (row32 Nd.z32) := rfl
  rw [e]
  have e2 : (.agg (bv d).toArray : Value) = .agg (row32 d) := rfl
  rw [e2]
  simp [binOp, this]
theorem ref_Empty (k : Int) (d : List UInt8) (A : Option Addr) (n c : Nat) (w : World) (hd : d.length = 32) :
    Calls Try.prog 22 #[.agg (refRow k d A n c)] w fun e w' => e = .returned (.bool (decide (k = 0 ∧ d = Nd.z32 ∧ n = 0))) ∧ Below w.heap.size w w' := by
  have hb := Blk.new w 26 (refRow k d A n c)
  have hbe := (Below.refl w.heap.size w).alloc (Nat.le_refl _) (.cells (refRow k d A n c) 26)
  have hrg := hb.dig
  have hsz := refRow_size (k := k) (A := A) (n := n) (c := c) hd
  have g0 : (w.alloc (.cells (refRow k d A n c) 26)).cell? ⟨w.heap.size, 0, none⟩ = some (.int .i64 k) := (hb.cell 0).trans refRow_zero
  have g33 : (w.alloc (.cells (refRow k d A n c) 26)).cell? ⟨w.heap.size, 33, none⟩ = some (.slice A n c) := (hb.cell 33).trans (refRow_last hd)
  have heq := run_eql_zero d hd
  replace hb := Lib.hid hb
  replace hbe := Lib.hid hbe
  replace hsz := Lib.hid hsz
  generalize refRow k d A n c = R at *
  go_enter Try.func22, Try.ntmps22
  by_cases hk : k = 0
  · subst hk
    by_cases hz : d = Nd.z32
    · rw [decide_eq_true hz] at heq
      replace hz := Lib.hid hz
      go_wp2_with (refine wpList_mid_g (by rfl) 24 _ rfl w.heap.size 1 rfl (bv d) _ hrg Try.underlying24 rfl (by rw [bv_length, hd]; exact info_digest) ?_)
      go_ret
      exact ⟨ret_bool (by rw [Bool.eq_iff_iff]; simp [hz.out]; try omega), hbe.out⟩
    · rw [decide_eq_false hz] at heq
      replace hz := Lib.hid hz
      go_wp2_with (refine wpList_mid_g (by rfl) 24 _ rfl w.heap.size 1 rfl (bv d) _ hrg Try.underlying24 rfl (by rw [bv_length, hd]; exact info_digest) ?_)
      go_ret
      exact ⟨ret_bool (by rw [Bool.eq_iff_iff]; simp [hz.out]; try omega), hbe.out⟩
  · go_wp2_with fail
    go_ret
    exact ⟨ret_bool (by simp [hk]), hbe.out⟩
/-- the contract of the reference's Decode at these bytes -/
def RodC (b : List UInt8) : Prop := ∀ (A : Option Addr) (n c : Nat) (w : World), Bytes w w.heap.size A n c b → Calls Try.prog 14 #[.slice A n c] w (NodQ b w)
def Nd.refers (r : Nd.Rf) (br : Bool) : Bool := Nd.rightRef Nd.dec r && (!br || Nd.branchOf Nd.dec r)
set_option maxHeartbeats 2000000 in
set_option maxRecDepth 100000 in
theorem ref_refers (k : Int) (d b : List UInt8) (br : Bool) (A : Option Addr) (n c : Nat) (w : World) (hd : d.length = 32) (h : Bytes w w.heap.size A n c b) (hC : k = 1 → b.length < 32 → RodC b) :
    Calls Try.prog 23 #[.agg (refRow k d A n c), .bool br] w fun e w' => e = .returned (.bool (Nd.refers ⟨k, d, b⟩ br)) ∧ Below w.heap.size w w' := by
  have hlen := h.len
  have hb := Blk.new w 26 (refRow k d A n c)
  have hbe := (Below.refl w.heap.size w).alloc (Nat.le_refl _) (.cells (refRow k d A n c) 26)
  have hrg := hb.dig
  have g0 : (w.alloc (.cells (refRow k d A n c) 26)).cell? ⟨w.heap.size, 0, none⟩ = some (.int .i64 k) := (hb.cell 0).trans refRow_zero
  have g33 : (w.alloc (.cells (refRow k d A n c) 26)).cell? ⟨w.heap.size, 33, none⟩ = some (.slice A n c) := (hb.cell 33).trans (refRow_last hd)
  have heq := run_neq_zero d hd
  have h1 := h.alloc (Nat.le_refl _) (.cells (refRow k d A n c) 26)
  have hs0 : (w.alloc (.cells (refRow k d A n c) 26)).heap.size = w.heap.size + 1 := by simp
  have hrt : Nd.refers ⟨k, d, b⟩ br = ((if k = 0 then decide (d = Nd.z32 ∧ b.length = 0) else if k = 2 then decide (b.length = 0) else if k = 1 then decide (d = Nd.z32 ∧ b.length < 32 ∧ (Nd.dec b).isSome = true) else false) && (!br || (if k = 1 then decide (((Nd.dec b).getD Nd.no0).kind = 3) else decide (k = 2)))) := rfl
  have hEm := ref_Empty k d A n c (w.alloc (.cells (refRow k d A n c) 26)) hd
  have hsz := refRow_size (k := k) (A := A) (n := n) (c := c) hd
  generalize Nd.refers ⟨k, d, b⟩ br = X at *
  generalize refRow k d A n c = R at *
  subst hlen
  replace hbe := Lib.hid hbe
  replace h := Lib.hid h
  replace hs0 := Lib.hid hs0
  replace h1 := Lib.hid h1
  replace hsz := Lib.hid hsz
  by_cases hk0 : k = 0
  · rw [if_pos hk0, if_neg (by omega)] at hrt
    subst hk0
    replace hrt := Lib.hid hrt
    have hdn : decide ((0 : Int) = 0 ∧ d = Nd.z32 ∧ b.length = 0) = decide (d = Nd.z32 ∧ b.length = 0) := by simp
    rw [hdn] at hEm
    clear hC hdn
    generalize decide (d = Nd.z32 ∧ b.length = 0) = E at *
    go_enter Try.func23, Try.ntmps23
    go_wp2_with (first
      | (refine wpList_load_row rfl 26 _ rfl w.heap.size rfl _ _ _ _ hb Try.underlying26 rfl (by rw [hsz.out]; exact info_ref) ?_)
      | fail)
    refine hEm.mono ?_
    rintro e w1 ⟨rfl, hb1⟩
    have hbw := Lib.hid (hbe.out.trans (hb1.mono hbe.out.size))
    clear hEm hb1
    cases E <;> cases br <;> (go_wp2_with fail; go_ret; exact ⟨ret_bool (by rw [hrt.out]; rfl), hbw.out⟩)
  by_cases hk2 : k = 2
  · rw [if_neg hk0, if_pos hk2, if_neg (by omega), decide_eq_true hk2] at hrt
    subst hk2
    replace hrt := Lib.hid hrt
    clear hC hEm
    go_enter Try.func23, Try.ntmps23
    go_wp2_with fail
    go_ret
    exact ⟨ret_bool (by rw [hrt.out, Bool.eq_iff_iff]; simp), hbe.out⟩
  by_cases hk1 : k = 1
  · rw [if_neg hk0, if_neg hk2, if_pos hk1, if_pos hk1] at hrt
    clear hEm
    by_cases hl : b.length < 32
    · have hl' : ¬ (b.length : Int) ≥ 32 := by omega
      by_cases hz : d = Nd.z32
      · rw [decide_eq_true hz] at heq
        have hcall := hC hk1 hl A b.length c _ (h1.out.more (by rw [hs0.out]; omega))
        have hrt2 : X = ((Nd.dec b).isSome && (!br || decide (((Nd.dec b).getD Nd.no0).kind = 3))) := by rw [hrt]; simp [hz, hl]
        subst hk1
        clear hC hrt hl
        replace hz := Lib.hid hz
        replace hrt2 := Lib.hid hrt2
        go_enter Try.func23, Try.ntmps23
        go_wp2_with (refine wpList_mid_g (by rfl) 24 _ rfl w.heap.size 1 rfl (bv d) _ hrg Try.underlying24 rfl (by rw [bv_length, hd]; exact info_digest) ?_)
        refine hcall.mono ?_
        intro e w2 hq
        obtain ⟨cs, rfl, hcl, hone, hc0, hbe2⟩ := hq.rows
        have hbw := hbe.out.trans (hbe2.mono (by have := hs0.out; omega))
        have hst := node_stored (wr := w2) cs.toArray
        have hcs := Lib.hid (show cs.toArray.size = 38 by simp [hcl])
        clear hcall hq hbe2 g0 g33 hb hrg
        replace hst := Lib.hid hst
        replace hbw := Lib.hid hbw
        generalize ((Nd.dec b).getD Nd.no0).kind = kk at *
        replace hc0 := Lib.hid hc0
        replace hcl := Lib.hid hcl
        cases hsome : (Nd.dec b).isSome with
        | false =>
          rw [hsome] at hrt2
          simp only [Bool.false_eq_true, if_false]
          clear hsome
          go_wp2_with (first | (refine wpList_store_row rfl 29 _ _ rfl w2.heap.size cs.toArray rfl rfl _ _ (Blk.new w2 29 noZ) (by rw [hcs.out]; exact info_node) (by rw [hcs.out]; rfl) (by simpa using hone) ?_; refine list_at (NodS w2 _) hst.out ?_; intro w3 hI3; have k0 : w3.cell? ⟨w2.heap.size, 0, none⟩ = some (.int .i64 kk) := (hI3.it.cell 0).trans (by rw [List.getElem?_toArray]; exact hc0.out); replace hI3 := Lib.hid hI3) | fail)
          go_ret
          exact ⟨ret_bool (by rw [hrt2.out]; rfl), hbw.out.trans (hI3.out.bel.mono hbw.out.size)⟩
        | true =>
          rw [hsome] at hrt2
          simp only [if_true]
          clear hsome
          cases br with
          | false =>
            go_wp2_with (first | (refine wpList_store_row rfl 29 _ _ rfl w2.heap.size cs.toArray rfl rfl _ _ (Blk.new w2 29 noZ) (by rw [hcs.out]; exact info_node) (by rw [hcs.out]; rfl) (by simpa using hone) ?_; refine list_at (NodS w2 _) hst.out ?_; intro w3 hI3; have k0 : w3.cell? ⟨w2.heap.size, 0, none⟩ = some (.int .i64 kk) := (hI3.it.cell 0).trans (by rw [List.getElem?_toArray]; exact hc0.out); replace hI3 := Lib.hid hI3) | fail)
            go_ret
            exact ⟨ret_bool (by rw [hrt2.out]; rfl), hbw.out.trans (hI3.out.bel.mono hbw.out.size)⟩
          | true =>
            go_wp2_with (first | (refine wpList_store_row rfl 29 _ _ rfl w2.heap.size cs.toArray rfl rfl _ _ (Blk.new w2 29 noZ) (by rw [hcs.out]; exact info_node) (by rw [hcs.out]; rfl) (by simpa using hone) ?_; refine list_at (NodS w2 _) hst.out ?_; intro w3 hI3; have k0 : w3.cell? ⟨w2.heap.size, 0, none⟩ = some (.int .i64 kk) := (hI3.it.cell 0).trans (by rw [List.getElem?_toArray]; exact hc0.out); replace hI3 := Lib.hid hI3) | fail)
            go_ret
            exact ⟨ret_bool (by rw [hrt2.out, Bool.eq_iff_iff]; simp), hbw.out.trans (hI3.out.bel.mono hbw.out.size)⟩
      · rw [decide_eq_false hz] at heq
        have hrt2 : X = false := by rw [hrt]; simp [hz]
        subst hk1
        clear hC hrt hl
        replace hz := Lib.hid hz
        replace hrt2 := Lib.hid hrt2
        go_enter Try.func23, Try.ntmps23
        go_wp2_with (refine wpList_mid_g (by rfl) 24 _ rfl w.heap.size 1 rfl (bv d) _ hrg Try.underlying24 rfl (by rw [bv_length, hd]; exact info_digest) ?_)
        go_ret
        exact ⟨ret_bool hrt2.out.symm, hbe.out⟩
    · have hl' : (b.length : Int) ≥ 32 := by omega
      have hrt2 : X = false := by rw [hrt]; simp [hl]
      subst hk1
      clear hC hrt hl
      replace hrt2 := Lib.hid hrt2
      go_enter Try.func23, Try.ntmps23
      go_wp2_with fail
      go_ret
      exact ⟨ret_bool hrt2.out.symm, hbe.out⟩
  · rw [if_neg hk0, if_neg hk2, if_neg hk1] at hrt
    have hrt2 : X = false := by rw [hrt]; rfl
    replace hrt2 := Lib.hid hrt2
    clear hC hrt hEm
    go_enter Try.func23, Try.ntmps23
    go_wp2_with fail
    go_ret
    exact ⟨ret_bool hrt2.out.symm, hbe.out⟩
end Go.Proofs.Yteknhmhmepnfjaa

namespace Go.Proofs.Yteknhmhmepnfjaa
open Go.RowKit

namespace Nib
/-- how many things two lists begin with alike -/
def common : List UInt8 → List UInt8 → Nat
  | a :: ra, b :: rb => if a = b then common ra rb + 1 else 0
  | _, _ => 0
theorem common_le : ∀ p q : List UInt8, common p q ≤ p.length ∧ common p q ≤ q.length
  | [], _ => by simp [common]
  | _ :: _, [] => by simp [common]
  | a :: ra, b :: rb => by
    have := common_le ra rb
    simp only [common]; split <;> simp only [List.length_cons] <;> omega
/-- the walk's own road to it: all ahead of k is alike -/
theorem common_stop : ∀ (p q : List UInt8) (k : Nat) (hp : k < p.length) (hq : k < q.length), p.take k = q.take k → p[k] ≠ q[k] → common p q = k
  | a :: ra, b :: rb, 0, _, _, _, h => by simp [common]; exact fun e => (h e).elim
  | a :: ra, b :: rb, k + 1, hp, hq, h, hne => by
    simp only [List.take_succ_cons, List.cons.injEq] at h
    simp only [List.length_cons] at hp hq
    have := common_stop ra rb k (by omega) (by omega) h.2 (by simpa using hne)
    simp [common, h.1, this]
theorem common_all : ∀ (p q : List UInt8) (k : Nat), k = min p.length q.length → p.take k = q.take k → common p q = k
  | [], q, k, hk, _ => by simp at hk; simp [common, hk]
  | a :: ra, [], k, hk, _ => by simp at hk; simp [common, hk]
  | a :: ra, b :: rb, 0, hk, _ => by simp only [List.length_cons] at hk; omega
  | a :: ra, b :: rb, k + 1, hk, h => by
    simp only [List.take_succ_cons, List.cons.injEq] at h
    simp only [List.length_cons] at hk
    have := common_all ra rb k (by omega) h.2
    simp [common, h.1, this]
theorem take_step (p q : List UInt8) (k : Nat) (hp : k < p.length) (hq : k < q.length) (h : p.take k = q.take k) (e : p[k] = q[k]) : p.take (k + 1) = q.take (k + 1) := by
  rw [List.take_succ_eq_append_getElem hp, List.take_succ_eq_append_getElem hq, h, e]
end Nib

end Go.Proofs.Yteknhmhmepnfjaa

namespace Go.Proofs.Yteknhmhmepnfjaa
open Go.RowKit

set_option maxHeartbeats 400000 in
theorem rnib_Right (l : List UInt8) (A : Option Addr) (n c B : Nat) (w : World) (h : Bytes w B A n c l) :
    Calls Try.prog 21 #[.slice A n c] w fun e w' => e = .returned (.bool (Nib.right l)) ∧ w = w' := by
  obtain ⟨hlen, hcap, hlim, hr⟩ := h
  have hm : l.length ≤ 9223372036854775807 := by unfold maxLen at hlim; omega
  subst hlen
  clear hcap hlim
  go_enter Try.func21, Try.ntmps21
  go_wp2
  go_loop [3] (fun i => ∃ k : Nat, k ≤ l.length ∧ i = .int .i64 k ∧ Nib.right (l.take k) = true) (fun i => l.length - (intOf i).toNat)
  case atStart => exact ⟨0, Nat.zero_le _, rfl, rfl⟩
  case round =>
    obtain ⟨k, hk, rfl, hright⟩ := hrel
    have HR := Lib.hid hright
    clear hright
    by_cases hlt : k < l.length
    · obtain ⟨g, o, u, rfl, _, hx, hc⟩ := hr.at_ hlt
      rw [bv_at l k hlt] at hx
      cases hx
      go_wp2
      · have h2 : 15 < (l[k].toNat : Int) := by assumption
        go_ret
        exact ⟨by rw [Nib.right_bad l k hlt (by omega)]; rfl, rfl⟩
      · have h2 : (l[k].toNat : Int) ≤ 15 := by assumption
        refine ⟨⟨k + 1, by omega, by go_num, Nib.right_step l k hlt HR.out (by omega)⟩, ?_⟩
        simp [intOf]; omega
    · obtain rfl : k = l.length := by omega
      go_wp2
      go_ret
      have h3 := HR.out
      rw [List.take_length] at h3
      exact ⟨by rw [h3]; rfl, rfl⟩

set_option maxHeartbeats 1000000 in
theorem rnib_Of (l : List UInt8) (A : Option Addr) (n c B : Nat) (w : World) (h : Bytes w B A n c l) (hB : B ≤ w.heap.size) (hl : 2 * l.length ≤ 140737488355328) :
    Calls Try.prog 53 #[.slice A n c] w (PostB w (Nib.of l)) := by
  obtain ⟨hlen, hcap, hlim, hr⟩ := h
  have hm : l.length ≤ 9223372036854775807 := by omega
  subst hlen
  clear hcap hlim
  go_enter Try.func53, Try.ntmps53
  go_wp2
  go_loopw [3, 4] (fun v i wr => ∃ k A' m' c', k ≤ l.length ∧ i = .int .i64 (k : Nat) ∧ v = .slice A' m' c' ∧ NewB w wr A' m' c' (Nib.of (l.take k))) (fun _ i _ => l.length - (intOf i).toNat)
  case atStart => exact ⟨0, none, 0, 0, Nat.zero_le _, rfl, rfl, NewB.none_ w⟩
  case round =>
    obtain ⟨k, A', m', c', hk, rfl, rfl, hnew⟩ := hrel
    by_cases hlt : k < l.length
    · obtain ⟨g, o, u, rfl, hg, hx, hc⟩ := hr.at_ hlt
      rw [bv_at l k hlt] at hx
      cases hx
      obtain ⟨hm', hown, hb⟩ := hnew
      have hml : m' = 2 * k := by rw [hm', Nib.of_length, List.length_take]; omega
      clear hm'
      subst hml
      have hc1 := (hb.cell (p := ⟨g, o + k, none⟩) (by show g < _; omega)).trans hc
      have hsz := hb.size
      have HW := Lib.hid hown
      have hbk := l[k].toNat_lt
      clear hown
      go_wp2_with (first
        | (at_builtin; refine wpList_append1_u8 rfl (.tmp 11) (.tmp 17) rfl w.heap.size _ (2 * k) (Nib.of (l.take k)) rfl HW.out _ (Nib.hi l[k]) (by rw [Nib.hi_toNat]; omega) _ rfl (by simp) (by omega) (by omega) ?_; intro g1 c1 w1 hown1 hg1 hb1 hs1; have hc2 : w1.cell? ⟨g, o + k, none⟩ = some (.int .u8 (l[k].toNat : Int)) := (hb1.cell (p := ⟨g, o + k, none⟩) (by show g < _; omega)).trans hc1)
        | (at_builtin; refine wpList_append1_u8 rfl (.tmp 19) (.tmp 25) rfl w.heap.size _ (2 * k + 1) (Nib.of (l.take k) ++ [Nib.hi l[k]]) rfl hown1 _ (Nib.lo l[k]) (by rw [Nib.lo_toNat]; omega) _ rfl (by simp) (by omega) (by omega) ?_; intro g2 c2 w2 hown2 hg2 hb2 hs2))
      go_roundw
      case rel => exact ⟨k + 1, _, _, _, by omega, by go_num, rfl, by rw [Nib.of_length, List.length_take]; omega, by rw [Nib.of_take l k hlt]; simpa using hown2, hb.trans (hb1.trans hb2)⟩
      case measure => simp [intOf]; omega
    · obtain rfl : k = l.length := by omega
      go_wp2
      go_ret
      rw [List.take_length] at hnew
      exact ⟨_, _, _, rfl, hnew⟩

namespace Nib
theorem add_join (a b : UInt8) : (16 * (a.toNat : Int) + (b.toNat : Int)) % 256 = ((UInt8.ofNat (16 * a.toNat + b.toNat)).toNat : Int) := by simp
end Nib

set_option maxHeartbeats 1000000 in
theorem rnib_Key (l : List UInt8) (A : Option Addr) (n c B : Nat) (w : World) (h : Bytes w B A n c l) (hB : B ≤ w.heap.size) (hl : l.length ≤ 140737488355328) :
    Calls Try.prog 45 #[.slice A n c] w (PostBb w ((Nib.key l).getD []) (Nib.key l).isSome) := by
  have hlen := h.len
  subst hlen
  have hm : l.length ≤ 9223372036854775807 := by omega
  by_cases hr : Nib.right l = true
  · by_cases hp : l.length % 2 = 0
    · have hk : Nib.key l = some (Nib.join l) := by simp [Nib.key, hr, hp]
      have HK := Lib.hid hk
      clear hk
      have hp1 : ((l.length : Int) % 2 != 0) = false := by rw [bne_eq_false_iff_eq]; omega
      have H := Lib.hid hr
      have HP := Lib.hid hp
      have hrd := h.reads
      clear hr hp
      go_enter Try.func45, Try.ntmps45
      go_wp2_with (go_at_call 21; refine (rnib_Right l A l.length c B w h).mono ?_; rintro e w' ⟨rfl, rfl⟩; rw [H.out])
      go_loopw [4, 5] (fun v i wr => ∃ k A' m' c', 2 * k ≤ l.length ∧ i = .int .i64 (2 * (k : Nat) : Int) ∧ v = .slice A' m' c' ∧ NewB w wr A' m' c' ((Nib.join l).take k)) (fun _ i _ => l.length - (intOf i).toNat)
      case atStart => exact ⟨0, none, 0, 0, Nat.zero_le _, rfl, rfl, NewB.none_ w⟩
      case round =>
        obtain ⟨k, A', m', c', hk, rfl, rfl, hnew⟩ := hrel
        by_cases hlt : 2 * k + 1 < l.length
        · obtain ⟨g, o, u, rfl, hg, hx, hc⟩ := hrd.at_ (k := 2 * k) (by omega)
          obtain ⟨g', o', u', had, _, hx', hc'⟩ := hrd.at_ (k := 2 * k + 1) (by omega)
          cases had
          rw [bv_at l _ (by omega)] at hx hx'
          cases hx
          cases hx'
          obtain ⟨hm', hown, hb⟩ := hnew
          have hml : m' = k := by rw [hm', List.length_take, Nib.join_length]; omega
          clear hm'
          subst hml
          have hc1 := (hb.cell (p := ⟨g, o + 2 * m', none⟩) (by show g < _; omega)).trans hc
          have hc2 := (hb.cell (p := ⟨g, o + (2 * m' + 1), none⟩) (by show g < _; omega)).trans hc'
          have hsz := hb.size
          have HW := Lib.hid hown
          clear hown
          have hlt' : 2 * (m' : Int) + 1 < (l.length : Int) := by omega
          have q1 : IntKind.i64.wrap (2 * (m' : Int) + 1) = 2 * (m' : Int) + 1 := IntWalk.i64_in _ (by omega)
          have q3 : (2 * (m' : Int)).toNat = 2 * m' := by omega
          have q4 : (2 * (m' : Int) + 1).toNat = 2 * m' + 1 := by omega
          have q5 : 0 ≤ 2 * (m' : Int) := by omega
          have q6 : 2 * (m' : Int) < (l.length : Int) := by omega
          have q7 : 0 ≤ 2 * (m' : Int) + 1 := by omega
          have q8 : (0 : Int) ≤ 2 * (m' : Int) + 1 := by omega
          clear hc hc'
          go_wp2_with fail
          go_region_held3 (fun w' => w'.cell? ⟨g, o + 2 * m', none⟩ = some (.int .u8 (l[2 * m'].toNat : Int)) ∧ w'.cell? ⟨g, o + (2 * m' + 1), none⟩ = some (.int .u8 (l[2 * m' + 1].toNat : Int)))
            (first
              | go_keep
              | exact ⟨(hb1.cell (p := ⟨g, o + 2 * m', none⟩) (by show g < _; omega)).trans ((World.cell?_alloc_lt wr _ _ (by show g < _; omega)).trans hc1), (hb1.cell (p := ⟨g, o + (2 * m' + 1), none⟩) (by show g < _; omega)).trans ((World.cell?_alloc_lt wr _ _ (by show g < _; omega)).trans hc2)⟩)
            ((refine step_append_u8 (by rfl) _ _ (by rfl) w.heap.size _ m' ((Nib.join l).take m') (by rfl) (HW.out.alloc _).drew (wr.heap.size + 1) _ 1 1 [UInt8.ofNat (16 * l[2 * m'].toNat + l[2 * m' + 1].toNat)] (by rfl) (Bytes.lit1 (by simp [IntKind.wrap_u8'])).drew (by omega) (by simp; omega) ?_; intro A1 c1 w1 hown1 hb1 _))
          go_wp2_with fail
          go_roundw
          case rel => exact ⟨m' + 1, _, _, _, by omega, by go_num, rfl, by rw [List.length_take, Nib.join_length]; omega, by rw [Nib.join_take l m' hlt]; simpa using hown1, (hb.alloc hsz _).drew.trans hb1⟩
          case measure => simp [intOf]; omega
        · have hkk : 2 * k = l.length := by have := HP.out; omega
          have hlt' : ¬ (2 * (k : Int) + 1 < (l.length : Int)) := by omega
          go_wp2_with fail
          go_ret2
          rw [HK.out]
          rw [List.take_of_length_le (by rw [Nib.join_length]; omega)] at hnew
          exact ⟨_, _, _, rfl, hnew⟩
    · have hk : Nib.key l = none := by simp [Nib.key, hp]
      have hp1 : ((l.length : Int) % 2 != 0) = true := by rw [bne_iff_ne]; omega
      have H := Lib.hid hr
      clear hr hp
      go_enter Try.func45, Try.ntmps45
      go_wp2_with (first | (go_at_call 21; refine (rnib_Right l A l.length c B w h).mono ?_; rintro e w' ⟨rfl, rfl⟩; rw [H.out]))
      go_ret2
      rw [hk]
      exact ⟨none, 0, 0, rfl, NewB.none_ w⟩
  · have hk : Nib.key l = none := by simp [Nib.key, hr]
    have H := Lib.hid (Bool.not_eq_true _ ▸ hr : Nib.right l = false)
    clear hr
    go_enter Try.func45, Try.ntmps45
    go_wp2_with (first | (go_at_call 21; refine (rnib_Right l A l.length c B w h).mono ?_; rintro e w' ⟨rfl, rfl⟩; rw [H.out]))
    go_ret2
    rw [hk]
    exact ⟨none, 0, 0, rfl, NewB.none_ w⟩

end Go.Proofs.Yteknhmhmepnfjaa

namespace Go.Proofs.Yteknhmhmepnfjaa
open Go.RowKit

namespace Nib
theorem less_common : ∀ (p q : List UInt8), Lib.compareBytes p q < 0 ↔ (common p q = p.length ∧ p.length < q.length) ∨ (∃ (hp : common p q < p.length) (hq : common p q < q.length), p[common p q] < q[common p q])
  | [], [] => by simp [common, Lib.compareBytes]
  | [], b :: rb => by simp [common, Lib.compareBytes]
  | a :: ra, [] => by simp [common, Lib.compareBytes]
  | a :: ra, b :: rb => by
    by_cases hab : a = b
    · subst hab
      have := less_common ra rb
      simp only [Lib.compareBytes, UInt8.lt_irrefl, if_false, common, if_true, List.length_cons, List.getElem_cons_succ, Nat.add_lt_add_iff_right, Nat.add_right_cancel_iff]
      exact this
    · have h0 : common (a :: ra) (b :: rb) = 0 := by simp [common, hab]
      simp only [h0, Lib.compareBytes, List.length_cons, List.getElem_cons_zero]
      by_cases hlt : a < b
      · simp [hlt]
      · have : b < a := by
          rw [UInt8.lt_iff_toNat_lt] at hlt ⊢
          have : a.toNat ≠ b.toNat := fun e => hab (UInt8.toNat_inj.1 e)
          omega
        simp [hlt, this]
end Nib

end Go.Proofs.Yteknhmhmepnfjaa

namespace Go.Proofs.Yteknhmhmepnfjaa
open Go.RowKit

set_option maxHeartbeats 1000000 in
theorem rnib_Pack (l : List UInt8) (leaf : Bool) (A : Option Addr) (n c B : Nat) (w : World) (h : Bytes w B A n c l) (hB : B ≤ w.heap.size) (hl : l.length + 2 ≤ 140737488355328) :
    Calls Try.prog 31 #[.slice A n c, .bool leaf] w (PostBe w ((Nib.pack l leaf).getD []) (Nib.packE l)) := by
  have hlen := h.len
  subst hlen
  have hm : l.length ≤ 9223372036854775807 := by omega
  by_cases hr : Nib.right l = true
  · have H := Lib.hid hr
    have HK := Lib.hid (show Nib.pack l leaf = some (Nib.join (Nib.head l.length leaf ++ l)) by simp [Nib.pack, hr])
    by_cases hp : l.length % 2 = 1
    · have hp1 : (l.length : Int) % 2 = 1 := by omega
      cases leaf
      · have HD := Lib.hid (show Nib.head l.length false = [1] by simp [Nib.head, hp])
        have HR := Lib.hid (show Nib.key ([1] ++ l) = some (Nib.join ([1] ++ l)) by unfold Nib.key; rw [if_pos ⟨by rw [Nib.right_append, hr]; rfl, by simp; omega⟩])
        clear hp hr
        go_enter Try.func31, Try.ntmps31
        go_wp2_with (first
          | (go_at_call 21; refine (rnib_Right l A l.length c B w h).mono ?_; rintro e w' ⟨rfl, rfl⟩; rw [H.out])
          | (at_builtin; refine wpList_append_u8 rfl _ _ rfl w.heap.size _ 1 [1] rfl (own_lit w _ [1] _ rfl (by simp [maxLen]) (Nat.le_refl _) rfl) B A l.length c l rfl (h.alloc hB _) (by omega) (by simp) ?_; intro A' c' w1 hown1 hb1)
          | (go_at_call 45; refine (rnib_Key ([1] ++ l) A' _ c' w1.heap.size w1 ⟨by simp; omega, (Own.of_row hown1).cap, (Own.of_row hown1).lim, Reads.of_own hown1⟩ (Nat.le_refl _) (by simp; omega)).mono ?_; rw [HR.out]; rintro e w2 ⟨A2, m2, c2, rfl, hm2, hown2, hb2⟩; have HM := Lib.hid hm2; clear hm2))
        go_ret2
        rw [HK.out, HD.out]
        exact ⟨_, _, _, ret_pair rfl (by simp [Nib.packE, H.out]), new_of rfl HM.out (((Below.refl _ _).alloc (Nat.le_refl _) _).trans hb1) hown2 hb2⟩
      · have HD := Lib.hid (show Nib.head l.length true = [3] by simp [Nib.head, hp])
        have HR := Lib.hid (show Nib.key ([3] ++ l) = some (Nib.join ([3] ++ l)) by unfold Nib.key; rw [if_pos ⟨by rw [Nib.right_append, hr]; rfl, by simp; omega⟩])
        clear hp hr
        go_enter Try.func31, Try.ntmps31
        go_wp2_with (first
          | (go_at_call 21; refine (rnib_Right l A l.length c B w h).mono ?_; rintro e w' ⟨rfl, rfl⟩; rw [H.out])
          | (at_builtin; refine wpList_append_u8 rfl _ _ rfl w.heap.size _ 1 [3] rfl (own_lit w _ [3] _ rfl (by simp [maxLen]) (Nat.le_refl _) rfl) B A l.length c l rfl (h.alloc hB _) (by omega) (by simp) ?_; intro A' c' w1 hown1 hb1)
          | (go_at_call 45; refine (rnib_Key ([3] ++ l) A' _ c' w1.heap.size w1 ⟨by simp; omega, (Own.of_row hown1).cap, (Own.of_row hown1).lim, Reads.of_own hown1⟩ (Nat.le_refl _) (by simp; omega)).mono ?_; rw [HR.out]; rintro e w2 ⟨A2, m2, c2, rfl, hm2, hown2, hb2⟩; have HM := Lib.hid hm2; clear hm2))
        go_ret2
        rw [HK.out, HD.out]
        exact ⟨_, _, _, ret_pair rfl (by simp [Nib.packE, H.out]), new_of rfl HM.out (((Below.refl _ _).alloc (Nat.le_refl _) _).trans hb1) hown2 hb2⟩
    · have hp0 : (l.length : Int) % 2 = 0 := by omega
      cases leaf
      · have HD := Lib.hid (show Nib.head l.length false = [0, 0] by simp [Nib.head, hp])
        have HR := Lib.hid (show Nib.key ([0] ++ [0] ++ l) = some (Nib.join ([0] ++ [0] ++ l)) by unfold Nib.key; rw [if_pos ⟨by rw [Nib.right_append, hr]; rfl, by simp; omega⟩])
        clear hp hr
        go_enter Try.func31, Try.ntmps31
        go_wp2_with (first
          | (go_at_call 21; refine (rnib_Right l A l.length c B w h).mono ?_; rintro e w' ⟨rfl, rfl⟩; rw [H.out])
          | (at_builtin; refine wpList_append1_u8 rfl _ _ rfl w.heap.size _ 1 [0] rfl (own_lit w _ [0] _ rfl (by simp [maxLen]) (Nat.le_refl _) rfl) 0 0 rfl _ rfl (by simp) (by omega) (by simp) ?_; intro g1 c1 w1 hown1 hg1 hb1 hs1)
          | (at_builtin; refine wpList_append_u8 rfl _ _ rfl w.heap.size _ 2 ([0] ++ [0]) rfl hown1 B A l.length c l rfl ((h.alloc hB _).below (hb1.mono hB)) (by omega) (by omega) ?_; intro A' c' w2 hown2 hb2)
          | (go_at_call 45; refine (rnib_Key ([0] ++ [0] ++ l) A' _ c' w2.heap.size w2 ⟨by simp; omega, (Own.of_row hown2).cap, (Own.of_row hown2).lim, Reads.of_own hown2⟩ (Nat.le_refl _) (by simp; omega)).mono ?_; rw [HR.out]; rintro e w3 ⟨A3, m3, c3, rfl, hm3, hown3, hb3⟩; have HM := Lib.hid hm3; clear hm3))
        go_ret2
        rw [HK.out, HD.out]
        exact ⟨_, _, _, ret_pair rfl (by simp [Nib.packE, H.out]), new_of rfl HM.out (((Below.refl _ _).alloc (Nat.le_refl _) _).trans (hb1.trans hb2)) hown3 hb3⟩
      · have HD := Lib.hid (show Nib.head l.length true = [2, 0] by simp [Nib.head, hp])
        have HR := Lib.hid (show Nib.key ([2] ++ [0] ++ l) = some (Nib.join ([2] ++ [0] ++ l)) by unfold Nib.key; rw [if_pos ⟨by rw [Nib.right_append, hr]; rfl, by simp; omega⟩])
        clear hp hr
        go_enter Try.func31, Try.ntmps31
        go_wp2_with (first
          | (go_at_call 21; refine (rnib_Right l A l.length c B w h).mono ?_; rintro e w' ⟨rfl, rfl⟩; rw [H.out])
          | (at_builtin; refine wpList_append1_u8 rfl _ _ rfl w.heap.size _ 1 [2] rfl (own_lit w _ [2] _ rfl (by simp [maxLen]) (Nat.le_refl _) rfl) 0 0 rfl _ rfl (by simp) (by omega) (by simp) ?_; intro g1 c1 w1 hown1 hg1 hb1 hs1)
          | (at_builtin; refine wpList_append_u8 rfl _ _ rfl w.heap.size _ 2 ([2] ++ [0]) rfl hown1 B A l.length c l rfl ((h.alloc hB _).below (hb1.mono hB)) (by omega) (by omega) ?_; intro A' c' w2 hown2 hb2)
          | (go_at_call 45; refine (rnib_Key ([2] ++ [0] ++ l) A' _ c' w2.heap.size w2 ⟨by simp; omega, (Own.of_row hown2).cap, (Own.of_row hown2).lim, Reads.of_own hown2⟩ (Nat.le_refl _) (by simp; omega)).mono ?_; rw [HR.out]; rintro e w3 ⟨A3, m3, c3, rfl, hm3, hown3, hb3⟩; have HM := Lib.hid hm3; clear hm3))
        go_ret2
        rw [HK.out, HD.out]
        exact ⟨_, _, _, ret_pair rfl (by simp [Nib.packE, H.out]), new_of rfl HM.out (((Below.refl _ _).alloc (Nat.le_refl _) _).trans (hb1.trans hb2)) hown3 hb3⟩
  · have hk : Nib.pack l leaf = none := by simp [Nib.pack, hr]
    have H := Lib.hid (Bool.not_eq_true _ ▸ hr : Nib.right l = false)
    clear hr
    go_enter Try.func31, Try.ntmps31
    go_wp2_with (first | (go_at_call 21; refine (rnib_Right l A l.length c B w h).mono ?_; rintro e w' ⟨rfl, rfl⟩; rw [H.out]))
    go_ret2
    rw [hk]
    exact ⟨none, 0, 0, by simp [Nib.packE, H.out], NewB.none_ w⟩

set_option maxHeartbeats 2000000 in
theorem rnib_Unpack (l : List UInt8) (A : Option Addr) (n c B : Nat) (w : World) (h : Bytes w B A n c l) (hB : B ≤ w.heap.size) (hl : 2 * l.length ≤ 140737488355328) :
    Calls Try.prog 37 #[.slice A n c] w (PostObe w (Nib.unpackL l) (Nib.unpackB l) (Nib.unpackE l)) := by
  have hlen := h.len
  subst hlen
  rcases Nat.eq_zero_or_pos l.length with h0 | h0
  · have he : l = [] := List.eq_nil_of_length_eq_zero h0
    subst he
    go_enter Try.func37, Try.ntmps37
    go_wp2_with (first
      | (go_at_call 53; refine (rnib_Of [] A _ c B w h hB hl).mono ?_; rintro e w1 ⟨A1, m1, c1, rfl, rfl, hown, hb⟩))
    go_ret3
    exact ⟨none, 0, 0, rfl, rfl, Own.of_row (World.ownsRow_nil _ _ _ _), hb⟩
  · obtain ⟨f, z, R, hof, hRl⟩ := nib_of_cons l h0
    have hz0 : (2 * (l.length : Int) == 0) = false := beq_eq_false_iff_ne.2 (by omega)
    have HO := Lib.hid hof
    have HR := Lib.hid hRl
    have hbits : f.toNat % 2 = 0 ∨ f.toNat % 2 = 1 := by omega
    by_cases h3 : 3 < f.toNat
    · have HU := Lib.hid (show Nib.unpack l = none by simp [Nib.unpack, hof, h3])
      have h3' : (3 : Int) < (f.toNat : Int) := by omega
      clear hof hRl hbits
      go_enter Try.func37, Try.ntmps37
      go_wp2_with (first
        | (go_at_call 53; refine (rnib_Of l A _ c B w h hB hl).mono ?_; rintro e w1 ⟨A1, m1, c1, rfl, hm1, hown, hb⟩; rw [Nib.of_length] at hm1; subst hm1; obtain ⟨g, rfl, _, _⟩ := own_at hown (by omega); have hc0 : w1.cell? ⟨g, 0, none⟩ = some (.int .u8 f.toNat) := own_cell hown 0 _ (by rw [HO.out]; rfl); clear hown))
      all_goals go_ret3
      all_goals exact ⟨none, 0, 0, by simp [Nib.unpackB, Nib.unpackE, HU.out], by simp [Nib.unpackL, HU.out], by simp only [Nib.unpackL, HU.out]; exact Own.of_row (World.ownsRow_nil _ _ _ _), hb⟩
    · have h3' : (f.toNat : Int) ≤ 3 := by omega
      rcases hbits with hev | hodd
      · have hf2 : ((f.toNat : Int) % 2 == 0) = true := by rw [beq_iff_eq]; omega
        by_cases hz : z.toNat = 0
        · have HU := Lib.hid (show Nib.unpack l = some (R, decide (2 ≤ f.toNat)) by simp [Nib.unpack, hof, h3, hev, hz])
          have hzz : ((z.toNat : Int) != 0) = false := by rw [bne_eq_false_iff_eq]; omega
          clear hof hRl hev hz
          go_enter Try.func37, Try.ntmps37
          go_wp2_with (first
            | (go_at_call 53; refine (rnib_Of l A _ c B w h hB hl).mono ?_; rintro e w1 ⟨A1, m1, c1, rfl, hm1, hown, hb⟩; rw [Nib.of_length] at hm1; subst hm1; obtain ⟨g, rfl, _, _⟩ := own_at hown (by omega); have hc0 : w1.cell? ⟨g, 0, none⟩ = some (.int .u8 f.toNat) := own_cell hown 0 _ (by rw [HO.out]; rfl); have hc1 : w1.cell? ⟨g, 1, none⟩ = some (.int .u8 z.toNat) := own_cell hown 1 _ (by rw [HO.out]; rfl); have HW := Lib.hid hown; clear hown))
          go_quiet (fail)
          go_wp2_with fail
          all_goals go_ret3
          all_goals exact ⟨_, _, _, ret_three rfl (by simp only [Nib.unpackB, HU.out, Option.elim]; exact bool_eq (decide_eq_decide.2 (by omega))) (by simp [Nib.unpackE, HU.out]),
            by simp only [Nib.unpackL, HU.out, Option.elim]; have := HR.out; omega,
            by simp only [Nib.unpackL, HU.out, Option.elim]; exact own_cut_to (k := 2) (Own.of_row HW.out) (by omega) (by first | exact .inr rfl | exact .inl (by omega)) (by omega) (by omega) (by rw [HO.out]; rfl), below_drewN hb _⟩
        · have HU := Lib.hid (show Nib.unpack l = none by simp [Nib.unpack, hof, h3, hev, hz])
          have hzz : ((z.toNat : Int) != 0) = true := by rw [bne_iff_ne]; omega
          clear hof hRl hev hz
          go_enter Try.func37, Try.ntmps37
          go_wp2_with (first
            | (go_at_call 53; refine (rnib_Of l A _ c B w h hB hl).mono ?_; rintro e w1 ⟨A1, m1, c1, rfl, hm1, hown, hb⟩; rw [Nib.of_length] at hm1; subst hm1; obtain ⟨g, rfl, _, _⟩ := own_at hown (by omega); have hc0 : w1.cell? ⟨g, 0, none⟩ = some (.int .u8 f.toNat) := own_cell hown 0 _ (by rw [HO.out]; rfl); have hc1 : w1.cell? ⟨g, 1, none⟩ = some (.int .u8 z.toNat) := own_cell hown 1 _ (by rw [HO.out]; rfl); have HW := Lib.hid hown; clear hown))
          all_goals go_ret3
          all_goals exact ⟨none, 0, 0, by simp [Nib.unpackB, Nib.unpackE, HU.out], by simp [Nib.unpackL, HU.out], by simp only [Nib.unpackL, HU.out]; exact Own.of_row (World.ownsRow_nil _ _ _ _), hb⟩
      · have hf2 : ((f.toNat : Int) % 2 == 0) = false := beq_eq_false_iff_ne.2 (by omega)
        have HU := Lib.hid (show Nib.unpack l = some (z :: R, decide (2 ≤ f.toNat)) by simp [Nib.unpack, hof, h3, hodd])
        clear hof hRl hodd
        go_enter Try.func37, Try.ntmps37
        go_wp2_with (first
          | (go_at_call 53; refine (rnib_Of l A _ c B w h hB hl).mono ?_; rintro e w1 ⟨A1, m1, c1, rfl, hm1, hown, hb⟩; rw [Nib.of_length] at hm1; subst hm1; obtain ⟨g, rfl, _, _⟩ := own_at hown (by omega); have hc0 : w1.cell? ⟨g, 0, none⟩ = some (.int .u8 f.toNat) := own_cell hown 0 _ (by rw [HO.out]; rfl); have hc1 : w1.cell? ⟨g, 1, none⟩ = some (.int .u8 z.toNat) := own_cell hown 1 _ (by rw [HO.out]; rfl); have HW := Lib.hid hown; clear hown))
        go_quiet (fail)
        go_wp2_with fail
        all_goals go_ret3
        all_goals exact ⟨_, _, _, ret_three rfl (by simp only [Nib.unpackB, HU.out, Option.elim]; exact bool_eq (decide_eq_decide.2 (by omega))) (by simp [Nib.unpackE, HU.out]),
          by simp only [Nib.unpackL, HU.out, Option.elim, List.length_cons]; have := HR.out; omega,
          by simp only [Nib.unpackL, HU.out, Option.elim]; exact own_cut_to (k := 1) (Own.of_row HW.out) (by omega) (by first | exact .inr rfl | exact .inl (by omega)) (by omega) (by omega) (by rw [HO.out]; rfl), below_drewN hb _⟩
end Go.Proofs.Yteknhmhmepnfjaa
