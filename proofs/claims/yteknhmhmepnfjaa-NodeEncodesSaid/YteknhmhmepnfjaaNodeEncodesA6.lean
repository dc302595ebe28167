/-
  Texts of a proof, one behind the other: Rn6, Rn7, Rn8, Law05d, Law05e.
-/
import Derived.Test.YteknhmhmepnfjaaNodeEncodesA5
/-
  The reference of chapter 5: Encode.
-/
namespace Go.Proofs.Yteknhmhmepnfjaa
open Go.RowKit

/-- 'append(x, one)' of items, as a step -/
theorem wp_append_it {S : Nat → Prop} {B d m c : Nat} {w : World} {A : Option Addr} {vs : List Value} {xs : List (Ns.It d)} {o : Oper} {a : Act} {K : Act → World → Prop} {Q : Exit → Act → World → Prop} {gx : Nat} {v : Value} {x : Ns.It d} (s y : Operand)
    (ho : o.op = .call { callee := .builtin .append, args := #[s, y], argTypes := #[45, 45] })
    (h : ItL S B w d A m c vs xs) (hS : ∀ q, S q → q < w.heap.size) (hB : B ≤ w.heap.size) (hs : a.eval s = .slice A m c) (hx : a.eval y = .slice (some ⟨gx, 0, none⟩) 1 1) (hgx : gx < w.heap.size) (hb : Blk w gx 48 v.cells) (hv : Sits (Apart S B (.slice A m c)) w d v x)
    (hlim : m < 16777216)
    (H : ∀ A' c' w', ItL S B w' d A' (m + 1) c' (vs ++ [v]) (xs ++ [x]) → w.grownBy w' (Value.slice A m c).ownBlock → K (a.put o.dst (.slice A' (m + 1) c')) w') : o.wp Try.prog a w K Q := by
  obtain ⟨i0, hi, hz0, hz1, hz2⟩ := info_parts info_item
  obtain ⟨p, q, r, rfl, hc, h1⟩ := hv.cells
  have hr : Reads w (gx + 1) 3 (some ⟨gx, 0, none⟩) 1 [p, q, r] := ⟨rfl, fun _ => ⟨gx, 0, rfl, by omega, fun j u hu => by
    rw [Nat.zero_add, hb.cell j, ← Array.getElem?_toList, hc]; exact hu⟩⟩
  refine wp_append_any w s y 45 ho B 48 i0 itemZ 3 56 Try.underlying45 hi hz0 hz1 hz2 rfl (by omega) (.slice A m c) m (flat vs) hs h.own (gx + 1) _ 1 1 [p, q, r] hx hr h1 (by unfold maxLen; omega) (by omega) hB ?_
  intro v' w' hown hg hob
  obtain ⟨A', c', rfl⟩ : ∃ A' c', v' = .slice A' (m + 1) c' := by
    rcases hown.2 with ⟨rfl, h0⟩ | ⟨g, cap, cur, rfl, _⟩
    · omega
    · exact ⟨_, _, rfl⟩
  exact H A' c' w' (h.snoc hS hv (by rw [hc]; exact hown) hg (hob.imp id fun e => ⟨_, e, Nat.le_refl _⟩)) hg
/-- in the midst of Encode: the node, the item that is put together -/
structure EnxI (w : World) (x : Nd.No) (Ap : Option Addr) (np cp : Nat) (Av : Option Addr) (nv cv : Nat) (Ac : Option Addr) (nc cc : Nat) (Ak : Option Addr) (nk kk : Nat) (gx : Nat) (k : Nat) (A : Option Addr) (c : Nat) (vs : List Value) (xs : List (Ns.It 8)) (W : World) : Prop where
  f : NodF w x.kind Ap np cp Av nv cv x.child.kind x.child.dig Ac nc cc Ak nk kk W
  box : Blk W gx 48 #[.bool true, .slice none 0 0, .slice A k c]
  lst : ItL (fun q => q < w.heap.size) (gx + 1) W 8 A k c vs xs
  gt : w.heap.size < gx
section
variable {w W Wa w5 : World} {x : Nd.No} {Ap Av Ac Ak A A5 : Option Addr} {np cp nv cv nc cc nk kk gx k c c5 : Nat} {vs : List Value} {xs : List (Ns.It 8)} {v : Value} {y : Ns.It 8}
theorem EnxI.step (h : EnxI w x Ap np cp Av nv cv Ac nc cc Ak nk kk gx k A c vs xs W) (hcd : x.child.dig.length = 32) (hb : Below W.heap.size W Wa) : EnxI w x Ap np cp Av nv cv Ac nc cc Ak nk kk gx k A c vs xs Wa :=
  ⟨h.f.step hcd hb, h.box.below hb h.box.lt, h.lst.below hb, h.gt⟩
/-- what an item that is at hand is to the list -/
theorem EnxI.apart (h : EnxI w x Ap np cp Av nv cv Ac nc cc Ak nk kk gx k A c vs xs W) (hb : W.heap.size ≤ Wa.heap.size) (hv : Sits (fun q => q < w.heap.size ∨ W.heap.size ≤ q) Wa 8 v y) : Sits (Apart (fun q => q < w.heap.size) (gx + 1) (.slice A k c)) (Wa.alloc (.cells v.cells 48)) 8 v y :=
  have hlt := h.box.lt
  hv.move _ _ _ (fun q h1 h2 => ⟨⟨h1.imp id fun h => by omega, fun e => by
    have h3 := h.lst.own.lt _ e
    have := h.gt
    rcases h1 with h1 | h1 <;> omega⟩, Below.heap_alloc Wa _ q h2⟩) (by simp)
theorem EnxI.next (h : EnxI w x Ap np cp Av nv cv Ac nc cc Ak nk kk gx k A c vs xs W) (hcd : x.child.dig.length = 32) (hL5 : ItL (fun q => q < w.heap.size) (gx + 1) w5 8 A5 (k + 1) c5 (vs ++ [v]) (xs ++ [y])) (hg5 : (W.alloc (.cells v.cells 48)).grownBy w5 (Value.slice A k c).ownBlock) :
    Blk w5 gx 48 #[.bool true, .slice none 0 0, .slice A k c] ∧ EnxI w x Ap np cp Av nv cv Ac nc cc Ak nk kk gx (k + 1) A5 c5 (vs ++ [v]) (xs ++ [y]) (w5.setCell ⟨gx, 2, none⟩ (.slice A5 (k + 1) c5)) := by
  have hgt := h.gt
  have hlow : ∀ q, q ≤ gx → some q ≠ (Value.slice A k c).ownBlock := fun q hq e => by have := (h.lst.own.lt q e.symm).1; omega
  have hsz := hg5.size
  have hs1 : (W.alloc (.cells v.cells 48)).heap.size = W.heap.size + 1 := by simp
  have hbl := h.box.lt
  have hX : Blk w5 gx 48 #[.bool true, .slice none 0 0, .slice A k c] := (hg5.block gx (by omega) (hlow gx (Nat.le_refl _))).trans (h.box.alloc _)
  have hF5 : NodF w x.kind Ap np cp Av nv cv x.child.kind x.child.dig Ac nc cc Ak nk kk w5 :=
    NodF.of ((hg5.block _ (by omega) (hlow _ (by omega))).trans (h.f.blk.alloc _)) hcd ((h.f.bel.alloc h.f.bel.size _).trans ⟨hg5.os, hg5.tape, hg5.output, hg5.size, fun q hq => hg5.block q (by omega) (hlow q (by omega))⟩)
  refine ⟨hX, ?_, hX.set_ 2 _, hL5.far (grown_set (World.grownBy.refl w5 (some gx))) (Nat.lt_succ_self gx) (fun q hq => by omega), hgt⟩
  exact NodF.of (hF5.blk.far (by show w.heap.size ≠ gx; omega) _) hcd (hF5.bel.setCell (by show w.heap.size ≤ gx; omega) _)
end
/-- what the drawn regions read -/
structure EnxR (w : World) (gx : Nat) (s1 s2 : Value) (b o : Nat) (l : List Value) (W : World) : Prop where
  c2 : W.cell? ⟨gx, 2, none⟩ = some s1
  c37 : W.cell? ⟨w.heap.size, 37, none⟩ = some s2
  r : W.rangeAt b o l
theorem EnxR.step {w W W' : World} {gx b o : Nat} {s1 s2 : Value} {l : List Value} (h : EnxR w gx s1 s2 b o l W) (hb : Below W.heap.size W W') (h1 : gx < W.heap.size) (h2 : w.heap.size < W.heap.size) (h3 : b < W.heap.size) : EnxR w gx s1 s2 b o l W' :=
  ⟨(hb.cell (p := ⟨gx, 2, none⟩) h1).trans h.c2, (hb.cell (p := ⟨w.heap.size, 37, none⟩) h2).trans h.c37, fun j u hu => (hb.cell (p := ⟨b, o + j, none⟩) h3).trans (h.r j u hu)⟩
theorem EnxR.to {w W w5 : World} {gx b o : Nat} {s1 s2 : Value} {l : List Value} {B : Option Nat} (h : EnxR w gx s1 s2 b o l W) (hb : W.grownBy w5 B) (h1 : gx < W.heap.size) (h2 : w.heap.size < W.heap.size) (h3 : b < W.heap.size) (k1 : some gx ≠ B) (k2 : some w.heap.size ≠ B) (k3 : some b ≠ B) : EnxR w gx s1 s2 b o l w5 :=
  ⟨(World.cell?_of_block (a := ⟨gx, 2, none⟩) (hb.block gx h1 k1)).trans h.c2, (World.cell?_of_block (a := ⟨w.heap.size, 37, none⟩) (hb.block _ h2 k2)).trans h.c37, fun j u hu => (World.cell?_of_block (a := ⟨b, o + j, none⟩) (hb.block b h3 k3)).trans (h.r j u hu)⟩
set_option maxHeartbeats 4000000 in
set_option maxRecDepth 100000 in
theorem ref_Encode05 (v : Value) (x : Nd.No) (w : World) (hv : NodIn (fun q => q < w.heap.size) w v x) (hC : ∀ r ∈ Nd.refs x, r.kind = 1 → r.inl.length < 32 → RodC r.inl) :
    Calls Try.prog 12 #[v] w (PostBe w (if Nd.right Nd.dec x = true then Nd.enc x else []) (if Nd.right Nd.dec x = true then 0 else 50)) := by
  have hwf := hv.wf
  have hv0 := hv
  obtain ⟨Ap, np, cp, Av, nv, cv, Ac, nc, cc, Ak, nk, kk, vs, rfl, hcd, ⟨hp1, hp2, hp3, hp4⟩, ⟨hv1, hv2, hv3, hv4⟩, ⟨hc1, hc2, hc3, hc4⟩, hnk, hkk, hkm, hin, hall⟩ := hv
  rw [show (nodCells x.kind Ap np cp Av nv cv x.child.kind x.child.dig Ac nc cc Ak nk kk).toArray = nodRow x.kind Ap np cp Av nv cv x.child.kind x.child.dig Ac nc cc Ak nk kk from rfl] at *
  have hF : NodF w x.kind Ap np cp Av nv cv x.child.kind x.child.dig Ac nc cc Ak nk kk (w.alloc (.cells (nodRow x.kind Ap np cp Av nv cv x.child.kind x.child.dig Ac nc cc Ak nk kk) 29)) := NodF.of (Blk.new w _ _) hcd ((Below.refl _ _).alloc (Nat.le_refl _) _)
  have hrgt := ref_Right05 (fun q => q < w.heap.size) _ x (w.alloc (.cells (nodRow x.kind Ap np cp Av nv cv x.child.kind x.child.dig Ac nc cc Ak nk kk) 29)) (hv0.move (fun q h1 h2 => ⟨h1, Below.heap_alloc w _ q h2⟩) (by simp)) (fun q h => by simp; omega) hC
  have hRs : (nodRow x.kind Ap np cp Av nv cv x.child.kind x.child.dig Ac nc cc Ak nk kk).size = 38 := nodRow_size hcd
  have hpB : Bytes w w.heap.size Ap np cp x.path := ⟨hp1, hp2, hp3, hp4.reads fun g _ h => h⟩
  have hvS : InS (fun q => q < w.heap.size) w 1 Av nv (bv x.value) := hv4
  have hcR : RefIn (fun q => q < w.heap.size) w (.agg (refRow x.child.kind x.child.dig Ac nc cc)) x.child := ⟨Ac, nc, cc, rfl, hcd, hc1, hc2, hc3, hc4⟩
  have hblk := hF.blk
  clear hv0 hp1 hp2 hp3 hp4 hv4 hc1 hc2 hc3 hc4 hC
  replace hF := Lib.hid hF
  replace hpB := Lib.hid hpB
  replace hvS := Lib.hid hvS
  replace hcR := Lib.hid hcR
  replace hnk := Lib.hid hnk
  replace hv1 := Lib.hid hv1
  replace hv2 := Lib.hid hv2
  replace hv3 := Lib.hid hv3
  replace hin := Lib.hid hin
  replace hall := Lib.hid hall
  replace hwf := Lib.hid hwf
  replace hcd := Lib.hid hcd
  cases hR : Nd.right Nd.dec x with
  | false =>
    rw [hR] at hrgt
    replace hR := Lib.hid hR
    generalize nodRow x.kind Ap np cp Av nv cv x.child.kind x.child.dig Ac nc cc Ak nk kk = R at *
    go_enter Try.func12, Try.ntmps12
    go_wp2_with (first
      | (refine wpList_load_row rfl 29 _ rfl w.heap.size rfl _ _ _ _ hblk Try.underlying29 rfl (by rw [hRs]; exact info_node) ?_)
      | fail)
    refine hrgt.mono ?_
    rintro e w1 ⟨rfl, hb1⟩
    have hb := Lib.hid (hF.out.bel.trans (hb1.mono hF.out.bel.size))
    clear hrgt hb1
    go_wp2_with fail
    go_ret2
    exact ⟨none, 0, 0, rfl, rfl, World.ownsRow_nil _ _ _ _, hb.out⟩
  | true =>
    rw [hR] at hrgt
    have hfe := Lib.hid (Nd.fit_enc hwf.out hR)
    have hkind := Nd.right_kind hR
    have hlen17 := Lib.hid ((Nd.fit_items hwf.out hR).2)
    replace hR := Lib.hid hR
    simp only [if_true]
    have hstep : ∀ w1, Below (w.alloc (.cells (nodRow x.kind Ap np cp Av nv cv x.child.kind x.child.dig Ac nc cc Ak nk kk) 29)).heap.size (w.alloc (.cells (nodRow x.kind Ap np cp Av nv cv x.child.kind x.child.dig Ac nc cc Ak nk kk) 29)) w1 → NodF w x.kind Ap np cp Av nv cv x.child.kind x.child.dig Ac nc cc Ak nk kk w1 := fun w1 hb => hF.out.step hcd.out hb
    replace hstep := Lib.hid hstep
    go_enter Try.func12, Try.ntmps12
    go_wp2_with (first
      | (refine wpList_load_row rfl 29 _ rfl w.heap.size rfl _ _ _ _ hblk Try.underlying29 rfl (by rw [hRs]; exact info_node) ?_)
      | fail)
    refine hrgt.mono ?_
    rintro e w1 ⟨rfl, hb1⟩
    have hF1 := Lib.hid (hstep.out w1 hb1)
    clear hrgt hblk hF hb1 hstep
    obtain ⟨gx, hgx⟩ : ∃ gx, gx = w1.heap.size := ⟨_, rfl⟩
    have hI2 : EnxI w x Ap np cp Av nv cv Ac nc cc Ak nk kk gx 0 none 0 [] [] ((w1.alloc (.cells rowZ 48)).setRow gx #[.bool true, .slice none 0 0, .slice none 0 0]) := by
      have hb := (Below.refl w1.heap.size w1).alloc (Nat.le_refl _) (.cells rowZ 48)
      subst hgx
      exact ⟨hF1.out.step hcd.out (below_row hb (Nat.le_refl _) _), (Blk.new w1 _ _).row _, ItL.start, hF1.out.blk.lt⟩
    replace hI2 := Lib.hid hI2
    clear hF1
    subst hgx
    rcases hkind with hk | hk | hk
    · obtain ⟨hpl, hpr, _, hvl, _, _⟩ := Nd.right_leaf hR.out hk
      have hits : Nd.items x = [Ns.tx ((Nib.pack x.path true).getD []), Ns.tx x.value] := by unfold Nd.items; rw [if_pos hk]
      have hple := Nd.pack_le x.path true hpl hpr
      have hpk := fun (W : World) (hb : Below w.heap.size w W) => rnib_Pack x.path true Ap np cp w.heap.size W (hpB.out.below hb) hb.size (by omega)
      generalize (Nib.pack x.path true).getD [] = pl at *
      generalize Nib.packE x.path = pE at *
      replace hits := Lib.hid hits
      replace hpr := Lib.hid hpr
      replace hpk := Lib.hid hpk
      replace hple := Lib.hid hple
      go_wp2_with (first
        | (refine wpList_store_row rfl 48 _ _ rfl w1.heap.size #[.bool true, .slice none 0 0, .slice none 0 0] rfl rfl _ _ (Blk.new w1 48 rowZ) info_item3 rfl (by simp [Value.oneCell']) ?_; refine list_at (EnxI w x Ap np cp Av nv cv Ac nc cc Ak nk kk w1.heap.size 0 none 0 [] []) hI2.out ?_; intro w2 hI; have c0 := hI.f.c0; have c1 := hI.f.c1; have c2 := hI.f.c2; have c37 := hI.f.c37; have g2 := hI.box.cell 2; generalize w1.heap.size = gx at *; clear hI2; replace hI := Lib.hid hI)
        | fail)
      refine (hpk.out w2 hI.out.f.bel).mono ?_
      rintro e w3 ⟨A3, m3, c3, rfl, hN3⟩
      have hI3 := hI.out.step hcd.out hN3.2.2
      have hsv : Sits (Apart (fun q => q < w.heap.size) (gx + 1) (.slice none 0 0)) (w3.alloc (.cells #[.bool false, .slice A3 m3 c3, .slice none 0 0] 48)) 8 (.agg #[.bool false, .slice A3 m3 c3, .slice none 0 0]) (Ns.tx pl) :=
        hI.out.apart hN3.2.2.size (hN3.sits.move _ _ _ (fun q h1 h2 => ⟨.inr h1, rfl⟩) (Nat.le_refl _))
      have c0 := hI3.f.c0
      have c2 := hI3.f.c2
      have g2 := hI3.box.cell 2
      have g2' : (w3.alloc (.cells #[.bool false, .slice A3 m3 c3, .slice none 0 0] 48)).cell? ⟨gx, 2, none⟩ = some (.slice none 0 0) := (World.cell?_alloc_lt w3 _ _ hI3.box.lt).trans g2
      replace hI3 := Lib.hid hI3
      replace hsv := Lib.hid hsv
      clear hN3 hI hpk
      go_upto_region 13 with (first
        | (at_builtin; refine wpList_append_it (v := .agg #[.bool false, .slice A3 m3 c3, .slice none 0 0]) rfl _ _ rfl (hI3.out.lst.below ((Below.refl _ _).alloc (Nat.le_refl _) _)) (fun q h => by have := hI3.out.f.bel.size; simp; omega) (by have := hI3.out.box.lt; simp; omega) rfl rfl (by simp) (Blk.new w3 48 #[.bool false, .slice A3 m3 c3, .slice none 0 0]) hsv.out (by omega) ?_; intro A5 c5 w5 hL5 hg5; have hn := hI3.out.next hcd.out hL5 hg5; have gb := hn.1.cell 2; have fb := hn.1.frozen 2; replace hn := Lib.hid hn.2; clear hL5 hg5)
        | fail)
      refine code_at (EnxI w x Ap np cp Av nv cv Ac nc cc Ak nk kk gx 1 A5 c5 [.agg #[.bool false, .slice A3 m3 c3, .slice none 0 0]] [Ns.tx pl]) hn.out ?_
      clear hn gb fb g2 g2' c0 c2 hI3 hsv
      intro w6 hI6
      have c0 := hI6.f.c0
      have c2 := hI6.f.c2
      have g2 := hI6.box.cell 2
      have hvs : Sits (fun q => q < w.heap.size ∨ w6.heap.size ≤ q) w6 8 (.agg #[.bool false, .slice Av nv cv, .slice none 0 0]) (Ns.tx x.value) :=
        ⟨Av, nv, cv, rfl, hv1.out, hv2.out, hv3.out, hvS.out.move (fun q h1 h2 => ⟨.inl h1, hI6.f.bel.block q h2⟩) hI6.f.bel.size⟩
      have hsv2 := Lib.hid (hI6.apart (Nat.le_refl _) hvs)
      clear hvs
      replace hI6 := Lib.hid hI6
      go_upto_region 16 with (first
        | (at_builtin; refine wpList_append_it (v := .agg #[.bool false, .slice Av nv cv, .slice none 0 0]) rfl _ _ rfl (hI6.out.lst.below ((Below.refl _ _).alloc (Nat.le_refl _) _)) (fun q h => by have := hI6.out.f.bel.size; simp; omega) (by have := hI6.out.box.lt; simp; omega) rfl rfl (by simp) (Blk.new w6 48 #[.bool false, .slice Av nv cv, .slice none 0 0]) hsv2.out (by omega) ?_; intro A9 c9 w9 hL5 hg5; have hn := hI6.out.next hcd.out hL5 hg5; have gb := hn.1.cell 2; have fb := hn.1.frozen 2; replace hn := Lib.hid hn.2; clear hL5 hg5)
        | fail)
      have hI9 : EnxI w x Ap np cp Av nv cv Ac nc cc Ak nk kk gx 2 A9 c9 ([.agg #[.bool false, .slice A3 m3 c3, .slice none 0 0]] ++ [.agg #[.bool false, .slice Av nv cv, .slice none 0 0]]) (Nd.items x) (w9.setCell ⟨gx, 2, none⟩ (.slice A9 2 c9)) := by rw [hits.out]; exact hn.out
      generalize ([.agg #[.bool false, .slice A3 m3 c3, .slice none 0 0]] ++ [.agg #[.bool false, .slice Av nv cv, .slice none 0 0]] : List Value) = vsF at hI9
      refine code_at (EnxI w x Ap np cp Av nv cv Ac nc cc Ak nk kk gx 2 A9 c9 vsF (Nd.items x)) hI9 ?_
      clear hI9 hn gb fb g2 c0 c2 hI6 hsv2
      intro w8 hI8
      have hlk := hI8.lst.len
      have hO := Own.of_row hI8.lst.own
      have hbx := hI8.box
      have hb8 := Lib.hid hI8.f.bel
      have hlst : Sits (fun q => q < w8.heap.size) w8 9 (lsV A9 2 c9) (.inr (Nd.items x)) :=
        ⟨A9, 2, c9, vsF, rfl, hlk, hO.cap, hO.lim, (InS.of_own hO).move (fun q h1 h2 => ⟨h2, rfl⟩) (Nat.le_refl _), hI8.lst.all.imp fun v x hx => hx.move _ _ _ (fun q h1 h2 => ⟨h2, rfl⟩) (Nat.le_refl _)⟩
      have hen := ref_Encode02 (fun q => q < w8.heap.size) _ (.inr (Nd.items x)) w8 hlst (fun q h => h) hfe.out.1 (by have := hfe.out.2; unfold Nd.enc at this; omega)
      unfold lsV at hen
      clear hlst hO hI8
      replace hlk := Lib.hid hlk
      go_wp2_with (first
        | (refine wpList_load_row rfl 48 _ rfl gx rfl _ _ _ _ hbx Try.underlying48 rfl info_item3 ?_)
        | fail)
      refine hen.mono ?_
      rintro e w7 ⟨A7, m7, c7, rfl, hN7⟩
      have hN := Lib.hid (NewB.later hb8.out hN7)
      clear hen hN7
      go_wp2_with fail
      go_ret2
      exact ⟨A7, m7, c7, rfl, hN.out⟩
    · obtain ⟨hpl, hpr, _, _, _, hrr, _⟩ := Nd.right_ext hR.out hk
      have hits : Nd.items x = [Ns.tx ((Nib.pack x.path false).getD []), Nd.itOf x.child] := by unfold Nd.items; rw [if_neg (by omega), if_pos hk]
      have hple := Nd.pack_le x.path false hpl hpr
      have hpk := fun (W : World) (hb : Below w.heap.size w W) => rnib_Pack x.path false Ap np cp w.heap.size W (hpB.out.below hb) hb.size (by omega)
      generalize (Nib.pack x.path false).getD [] = pl at *
      generalize Nib.packE x.path = pE at *
      replace hits := Lib.hid hits
      replace hpr := Lib.hid hpr
      replace hpk := Lib.hid hpk
      replace hple := Lib.hid hple
      replace hrr := Lib.hid hrr
      go_wp2_with (first
        | (refine wpList_store_row rfl 48 _ _ rfl w1.heap.size #[.bool true, .slice none 0 0, .slice none 0 0] rfl rfl _ _ (Blk.new w1 48 rowZ) info_item3 rfl (by simp [Value.oneCell']) ?_; refine list_at (EnxI w x Ap np cp Av nv cv Ac nc cc Ak nk kk w1.heap.size 0 none 0 [] []) hI2.out ?_; intro w2 hI; have c0 := hI.f.c0; have c1 := hI.f.c1; have c2 := hI.f.c2; have c37 := hI.f.c37; have g2 := hI.box.cell 2; generalize w1.heap.size = gx at *; clear hI2; replace hI := Lib.hid hI)
        | fail)
      refine (hpk.out w2 hI.out.f.bel).mono ?_
      rintro e w3 ⟨A3, m3, c3, rfl, hN3⟩
      have hI3 := hI.out.step hcd.out hN3.2.2
      have hsv : Sits (Apart (fun q => q < w.heap.size) (gx + 1) (.slice none 0 0)) (w3.alloc (.cells #[.bool false, .slice A3 m3 c3, .slice none 0 0] 48)) 8 (.agg #[.bool false, .slice A3 m3 c3, .slice none 0 0]) (Ns.tx pl) :=
        hI.out.apart hN3.2.2.size (hN3.sits.move _ _ _ (fun q h1 h2 => ⟨.inr h1, rfl⟩) (Nat.le_refl _))
      have c0 := hI3.f.c0
      have g2 := hI3.box.cell 2
      replace hI3 := Lib.hid hI3
      replace hsv := Lib.hid hsv
      clear hN3 hI hpk
      go_upto_region 13 with (first
        | (at_builtin; refine wpList_append_it (v := .agg #[.bool false, .slice A3 m3 c3, .slice none 0 0]) rfl _ _ rfl (hI3.out.lst.below ((Below.refl _ _).alloc (Nat.le_refl _) _)) (fun q h => by have := hI3.out.f.bel.size; simp; omega) (by have := hI3.out.box.lt; simp; omega) rfl rfl (by simp) (Blk.new w3 48 #[.bool false, .slice A3 m3 c3, .slice none 0 0]) hsv.out (by omega) ?_; intro A5 c5 w5 hL5 hg5; have hn := hI3.out.next hcd.out hL5 hg5; have gb := hn.1.cell 2; have fb := hn.1.frozen 2; replace hn := Lib.hid hn.2; clear hL5 hg5)
        | fail)
      refine code_at (EnxI w x Ap np cp Av nv cv Ac nc cc Ak nk kk gx 1 A5 c5 [.agg #[.bool false, .slice A3 m3 c3, .slice none 0 0]] [Ns.tx pl]) hn.out ?_
      clear hn gb fb g2 c0 hI3 hsv
      intro w6 hI6
      have c0 := hI6.f.c0
      have hcall : ∀ w2, Below w6.heap.size w6 w2 → Calls Try.prog 30 #[.agg (refRow x.child.kind x.child.dig Ac nc cc)] w2 (ItmQ x.child w2) := fun w2 hb =>
        ref_item (fun q => q < w.heap.size) _ x.child w2 (hcR.out.move (fun q h1 h2 => ⟨h1, (hb.block q (Nat.lt_of_lt_of_le h2 hI6.f.bel.size)).trans (hI6.f.bel.block q h2)⟩) (Nat.le_trans hI6.f.bel.size hb.size)) (fun q h => Nat.lt_of_lt_of_le h (Nat.le_trans hI6.f.bel.size hb.size)) hrr.out
      have hR6 : EnxR w gx (.slice A5 1 c5) (.slice Ak nk kk) w.heap.size 3 (refCells x.child.kind x.child.dig Ac nc cc) w6.drew := ⟨hI6.box.cell 2, hI6.f.c37, hI6.f.ch⟩
      replace hcall := Lib.hid hcall
      replace hI6 := Lib.hid hI6
      replace hR6 := Lib.hid hR6
      go_wp2_with fail
      refine wp_region_M (M := [8]) (S := (EnxR w gx (.slice A5 1 c5) (.slice Ak nk kk) w.heap.size 3 (refCells x.child.kind x.child.dig Ac nc cc))) (by kernel_rfl) (by exact hR6.out) (fun hS => ?_)
      (refine mPure (i := 0) (v := ?v1) rfl (by kernel_rfl) (fun _ _ _ h => h) (Or.inl ⟨by rfl, ?y1⟩) (.inr hS) ?r1; (case y1 => (intro W hW; clear hW; go_simp; (try with_reducible rfl); done)); try simp only [Act.put, List.setIfInBounds_toArray, List.set_cons_zero, List.set_cons_succ])
      (refine mTake (i := 1) (v := ?v2) rfl (by kernel_rfl) (fun _ _ _ h => h) (Or.inl ⟨by rfl, ?y2⟩) hS ?r2; (case y2 => (intro W hW; ((have g := hW.c2; go_simp)); (try with_reducible rfl); done)); try simp only [Act.put, List.setIfInBounds_toArray, List.set_cons_zero, List.set_cons_succ])
      (refine mPure (i := 2) (v := ?v3) rfl (by kernel_rfl) (fun _ _ _ h => h) (Or.inl ⟨by rfl, ?y3⟩) (.inr hS) ?r3; (case y3 => (intro W hW; clear hW; go_simp; (try with_reducible rfl); done)); try simp only [Act.put, List.setIfInBounds_toArray, List.set_cons_zero, List.set_cons_succ])
      (refine mTake (i := 3) rfl (by kernel_rfl) (fun _ _ _ h => h) (yieldsIf_load_mid (by rfl) _ _ rfl _ _ rfl (refCells x.child.kind x.child.dig Ac nc cc) _ (fun W hW => (by exact hW.r)) Try.underlying26 rfl (by rw [refCells_length hcd.out]; exact info_ref)) hS ?_; try simp only [Act.put, List.setIfInBounds_toArray, List.set_cons_zero, List.set_cons_succ])
      (refine mOne (i := 4) rfl (by kernel_rfl) (fun K hK => ?_))
      rw [if_pos (by rfl)]
      go_simp
      refine (hcall.out w6.drew ((Below.refl _ _).drew)).mono ?_
      rintro e w7 ⟨v7, rfl, hs7, hb7⟩
      obtain ⟨p7, q7, z7, rfl, -, hone7⟩ := hs7.cells
      have hb67 : Below w6.heap.size w6 w7 := ((Below.refl _ _).drew).trans hb7
      have hI7 := hI6.out.step hcd.out hb67
      have hsv7 := hI6.out.apart hb67.size (hs7.move (S' := fun q => q < w.heap.size ∨ w6.heap.size ≤ q) _ _ _ (fun q h1 h2 => ⟨.inr h1, rfl⟩) (Nat.le_refl _))
      have hw0 := hI7.f.blk.lt
      have hgl := hI7.box.lt
      have hR7 := hR6.out.step hb7 (by exact hI6.out.box.lt) (by exact hI6.out.f.blk.lt) (by exact hI6.out.f.blk.lt)
      have hR8 := hR7.step ((Below.refl _ _).alloc (Nat.le_refl _) (.cells #[p7, q7, z7] 48)) hgl hw0 hw0
      clear hcall
      (have hS := (by exact hR7); refine hK.out _ _ (.inr hS) ?_; clear hK K; try simp only [Act.put, List.setIfInBounds_toArray, List.set_cons_zero, List.set_cons_succ])
      (refine mOne (i := 5) rfl (by kernel_rfl) (fun K hK => ?_))
      go_simp
      (have hS := (by exact hR8); refine hK.out _ _ (.inr hS) ?_; clear hK K; try simp only [Act.put, List.setIfInBounds_toArray, List.set_cons_zero, List.set_cons_succ])
      (refine mOne (i := 6) rfl (by kernel_rfl) (fun K hK => ?_))
      rw [if_pos (by rfl)]
      refine wp_append_it (v := .agg #[p7, q7, z7]) _ _ rfl (hI7.lst.below ((Below.refl _ _).alloc (Nat.le_refl _) _)) (fun q h => by have := hI7.f.bel.size; simp; omega) (by simp; omega) rfl rfl (by simp) (Blk.new w7 48 #[p7, q7, z7]) hsv7 (by omega) ?_
      intro A9 c9 w9 hL9 hg9
      have hn := hI7.next hcd.out hL9 hg9
      have hlow : ∀ q, q ≤ gx → some q ≠ (Value.slice A5 1 c5).ownBlock := fun q hq e => by have := (hI7.lst.own.lt q e.symm).1; omega
      have hgt := hI7.gt
      have hR9 := hR8.to hg9 (by simp; omega) (by simp; omega) (by simp; omega) (hlow _ (Nat.le_refl _)) (hlow _ (by omega)) (hlow _ (by omega))
      have gb := hn.1.cell 2
      have fb := hn.1.frozen 2
      replace hn := Lib.hid hn.2
      (have hS := (by exact hR9); refine hK.out _ _ (.inr hS) ?_; clear hK K; try simp only [Act.put, List.setIfInBounds_toArray, List.set_cons_zero, List.set_cons_succ])
      (refine mPure (i := 7) (v := ?v4) rfl (by kernel_rfl) (fun _ _ _ h => h) (Or.inl ⟨by rfl, ?y4⟩) (.inr hS) ?r4; (case y4 => (intro W hW; clear hW; go_simp; (try with_reducible rfl); done)); try simp only [Act.put, List.setIfInBounds_toArray, List.set_cons_zero, List.set_cons_succ])
      (refine mOne (i := 8) rfl (by kernel_rfl) (fun K hK => ?_))
      go_simp
      (refine hK.out _ _ (.inl ⟨8, by simp, by kernel_rfl⟩) ?_; clear hK K; try simp only [Act.put, List.setIfInBounds_toArray, List.set_cons_zero, List.set_cons_succ])
      refine wpAnyM_done (by kernel_rfl) ?_ _
      have hI9 : EnxI w x Ap np cp Av nv cv Ac nc cc Ak nk kk gx 2 A9 c9 ([.agg #[.bool false, .slice A3 m3 c3, .slice none 0 0]] ++ [.agg #[p7, q7, z7]]) (Nd.items x) (w9.setCell ⟨gx, 2, none⟩ (.slice A9 2 c9)) := by rw [hits.out]; exact hn.out
      generalize ([.agg #[.bool false, .slice A3 m3 c3, .slice none 0 0]] ++ [.agg #[p7, q7, z7]] : List Value) = vsF at hI9
      replace hI9 := Lib.hid hI9
      clear hn gb fb hR7 hR8 hR9 hL9 hg9 hsv7 hI7 hs7 hb7 hb67 hlow hS
      go_upto_region 16 with fail
      refine code_at (EnxI w x Ap np cp Av nv cv Ac nc cc Ak nk kk gx 2 A9 c9 vsF (Nd.items x)) hI9.out ?_
      clear hI9
      intro w8 hI8
      have hlk := hI8.lst.len
      have hO := Own.of_row hI8.lst.own
      have hbx := hI8.box
      have hb8 := Lib.hid hI8.f.bel
      have hlst : Sits (fun q => q < w8.heap.size) w8 9 (lsV A9 2 c9) (.inr (Nd.items x)) :=
        ⟨A9, 2, c9, vsF, rfl, hlk, hO.cap, hO.lim, (InS.of_own hO).move (fun q h1 h2 => ⟨h2, rfl⟩) (Nat.le_refl _), hI8.lst.all.imp fun v x hx => hx.move _ _ _ (fun q h1 h2 => ⟨h2, rfl⟩) (Nat.le_refl _)⟩
      have hen := ref_Encode02 (fun q => q < w8.heap.size) _ (.inr (Nd.items x)) w8 hlst (fun q h => h) hfe.out.1 (by have := hfe.out.2; unfold Nd.enc at this; omega)
      unfold lsV at hen
      clear hlst hO hI8
      replace hlk := Lib.hid hlk
      go_wp2_with (first
        | (refine wpList_load_row rfl 48 _ rfl gx rfl _ _ _ _ hbx Try.underlying48 rfl info_item3 ?_)
        | fail)
      refine hen.mono ?_
      rintro e w7 ⟨A7, m7, c7, rfl, hN7⟩
      have hN := Lib.hid (NewB.later hb8.out hN7)
      clear hen hN7
      go_wp2_with fail
      go_ret2
      exact ⟨A7, m7, c7, rfl, hN.out⟩
    · obtain ⟨_, hvl, _, hk16, hrr⟩ := Nd.right_branch hR.out hk
      have hits : Nd.items x = x.kids.map Nd.itOf ++ [Ns.tx x.value] := by unfold Nd.items; rw [if_neg (by omega), if_neg (by omega)]
      have hst : ∀ j (h : j < x.kids.length), (x.kids.take (j + 1)).map Nd.itOf = (x.kids.take j).map Nd.itOf ++ [Nd.itOf x.kids[j]] := by
        intro j h
        rw [List.take_succ_eq_append_getElem h, List.map_append]; rfl
      have h16 : nk = 16 := by rw [hnk.out]; exact hk16
      subst h16
      replace hits := Lib.hid hits
      replace hst := Lib.hid hst
      replace hk16 := Lib.hid hk16
      replace hrr := Lib.hid hrr
      go_wp2_with (first
        | (refine wpList_store_row rfl 48 _ _ rfl w1.heap.size #[.bool true, .slice none 0 0, .slice none 0 0] rfl rfl _ _ (Blk.new w1 48 rowZ) info_item3 rfl (by simp [Value.oneCell']) ?_; refine list_at (EnxI w x Ap np cp Av nv cv Ac nc cc Ak 16 kk w1.heap.size 0 none 0 [] []) hI2.out ?_; intro w2 hI; have c0 := hI.f.c0; have c1 := hI.f.c1; have c2 := hI.f.c2; have c37 := hI.f.c37; have g2 := hI.box.cell 2; generalize w1.heap.size = gx at *; clear hI2; replace hI := Lib.hid hI)
        | fail)
      clear c0 c1 c2 c37 g2
      go_loopw [6] (fun i wr => ∃ (j : Nat) (A' : Option Addr) (c' : Nat) (vs' : List Value), j ≤ 16 ∧ i = .int .i64 j ∧ EnxI w x Ap np cp Av nv cv Ac nc cc Ak 16 kk gx j A' c' vs' ((x.kids.take j).map Nd.itOf) wr) (fun i _ => 16 - (intOf i).toNat)
      case atStart => exact ⟨0, none, 0, [], by omega, rfl, hI.out⟩
      case round =>
        clear hI
        obtain ⟨j, A', c', vs', hj, rfl, hIr⟩ := hrel
        have hbs := hIr.f.bel.size
        have hbl := hIr.f.blk.lt
        by_cases hlt : j < 16
        · have hlt' : (j : Int) < 16 := by omega
          have hkl : j < x.kids.length := by rw [hk16.out]; exact hlt
          have hmv : ∀ q, q < w.heap.size → q < w.heap.size → q < w.heap.size ∧ wr.heap[q]? = w.heap[q]? := fun q h1 h2 => ⟨h1, hIr.f.bel.block q h2⟩
          obtain ⟨g, o, Ar, nr, cr, rfl, hg, hrg, hdl, hri⟩ := refs_in (hin.out.move hmv hbs) (hall.out.imp fun v x hx => hx.move hmv hbs) hnk.out j hkl
          have hgw : g < w.heap.size := by
            obtain ⟨g', o', e, h1, _⟩ := hin.out.2 (by omega)
            injection e with e
            injection e with e1 e2
            omega
          have hrk := hrr.out x.kids[j] (List.getElem_mem hkl)
          have hst1 := Lib.hid (hst.out j hkl)
          generalize x.kids[j] = r at *
          have hcall : ∀ w2, Below wr.heap.size wr w2 → Calls Try.prog 30 #[.agg (refRow r.kind r.dig Ar nr cr)] w2 (ItmQ r w2) := fun w2 hb => ref_item (fun q => q < wr.heap.size) _ r w2 (hri.move (fun q h1 h2 => ⟨h1, hb.block q h2⟩) hb.size) (fun q h => by have := hb.size; omega) hrk
          have hR6 : EnxR w gx (.slice A' j c') (.slice (some ⟨g, o, none⟩) 16 kk) g (o + j * 34) (refCells r.kind r.dig Ar nr cr) wr.drew := ⟨hIr.box.cell 2, hIr.f.c37, hrg⟩
          generalize r.kind = rk at *
          generalize r.dig = rd at *
          clear hri hrk hmv hrg
          replace hcall := Lib.hid hcall
          replace hIr := Lib.hid hIr
          replace hdl := Lib.hid hdl
          replace hR6 := Lib.hid hR6
          go_wp2_with fail
          refine wp_region_M (M := [11]) (S := (EnxR w gx (.slice A' j c') (.slice (some ⟨g, o, none⟩) 16 kk) g (o + j * 34) (refCells rk rd Ar nr cr))) (by kernel_rfl) (by exact hR6.out) (fun hS => ?_)
          (refine mPure (i := 0) (v := ?v5) rfl (by kernel_rfl) (fun _ _ _ h => h) (Or.inl ⟨by rfl, ?y5⟩) (.inr hS) ?r5; (case y5 => (intro W hW; clear hW; go_simp; (try with_reducible rfl); done)); try simp only [Act.put, List.setIfInBounds_toArray, List.set_cons_zero, List.set_cons_succ])
          (refine mTake (i := 1) (v := ?v6) rfl (by kernel_rfl) (fun _ _ _ h => h) (Or.inl ⟨by rfl, ?y6⟩) hS ?r6; (case y6 => (intro W hW; ((have g := hW.c2; go_simp)); (try with_reducible rfl); done)); try simp only [Act.put, List.setIfInBounds_toArray, List.set_cons_zero, List.set_cons_succ])
          (refine mPure (i := 2) (v := ?v7) rfl (by kernel_rfl) (fun _ _ _ h => h) (Or.inl ⟨by rfl, ?y7⟩) (.inr hS) ?r7; (case y7 => (intro W hW; clear hW; go_simp; (try with_reducible rfl); done)); try simp only [Act.put, List.setIfInBounds_toArray, List.set_cons_zero, List.set_cons_succ])
          (refine mTake (i := 3) (v := ?v8) rfl (by kernel_rfl) (fun _ _ _ h => h) (Or.inl ⟨by rfl, ?y8⟩) hS ?r8; (case y8 => (intro W hW; ((have g := hW.c37; go_simp)); (try with_reducible rfl); done)); try simp only [Act.put, List.setIfInBounds_toArray, List.set_cons_zero, List.set_cons_succ])
          (refine mPure (i := 4) (v := ?v9) rfl (by kernel_rfl) (fun _ _ _ h => h) (Or.inl ⟨by rfl, ?y9⟩) (.inr hS) ?r9; (case y9 => (intro W hW; clear hW; go_simp; (try with_reducible rfl); done)); try simp only [Act.put, List.setIfInBounds_toArray, List.set_cons_zero, List.set_cons_succ])
          (refine mPure (i := 5) (v := ?v10) rfl (by kernel_rfl) (fun _ _ _ h => h) (Or.inl ⟨by rfl, ?y10⟩) (.inr hS) ?r10; (case y10 => (intro W hW; clear hW; go_simp; (try with_reducible rfl); done)); try simp only [Act.put, List.setIfInBounds_toArray, List.set_cons_zero, List.set_cons_succ])
          (refine mTake (i := 6) rfl (by kernel_rfl) (fun _ _ _ h => h) (yieldsIf_load_mid (by rfl) _ _ rfl _ _ rfl (refCells rk rd Ar nr cr) _ (fun W hW => (by exact hW.r)) Try.underlying26 rfl (by rw [refCells_length hdl.out]; exact info_ref)) hS ?_; try simp only [Act.put, List.setIfInBounds_toArray, List.set_cons_zero, List.set_cons_succ])
          (refine mOne (i := 7) rfl (by kernel_rfl) (fun K hK => ?_))
          rw [if_pos (by rfl)]
          go_simp
          refine (hcall.out wr.drew ((Below.refl _ _).drew)).mono ?_
          rintro e w7 ⟨v7, rfl, hs7, hb7⟩
          obtain ⟨p7, q7, z7, rfl, -, hone7⟩ := hs7.cells
          have hb67 : Below wr.heap.size wr w7 := ((Below.refl _ _).drew).trans hb7
          have hI7 := hIr.out.step hcd.out hb67
          have hsv7 := hIr.out.apart hb67.size (hs7.move (S' := fun q => q < w.heap.size ∨ wr.heap.size ≤ q) _ _ _ (fun q h1 h2 => ⟨.inr h1, rfl⟩) (Nat.le_refl _))
          have hw0 := hI7.f.blk.lt
          have hgl := hI7.box.lt
          have hR7 := hR6.out.step hb7 (by exact hIr.out.box.lt) (by exact hIr.out.f.blk.lt) (by exact hg)
          have hR8 := hR7.step ((Below.refl _ _).alloc (Nat.le_refl _) (.cells #[p7, q7, z7] 48)) hgl hw0 (by omega)
          clear hcall
          (have hS := (by exact hR7); refine hK.out _ _ (.inr hS) ?_; clear hK K; try simp only [Act.put, List.setIfInBounds_toArray, List.set_cons_zero, List.set_cons_succ])
          (refine mOne (i := 8) rfl (by kernel_rfl) (fun K hK => ?_))
          go_simp
          (have hS := (by exact hR8); refine hK.out _ _ (.inr hS) ?_; clear hK K; try simp only [Act.put, List.setIfInBounds_toArray, List.set_cons_zero, List.set_cons_succ])
          (refine mOne (i := 9) rfl (by kernel_rfl) (fun K hK => ?_))
          rw [if_pos (by rfl)]
          refine wp_append_it (v := .agg #[p7, q7, z7]) _ _ rfl (hI7.lst.below ((Below.refl _ _).alloc (Nat.le_refl _) _)) (fun q h => by have := hI7.f.bel.size; simp; omega) (by simp; omega) rfl rfl (by simp) (Blk.new w7 48 #[p7, q7, z7]) hsv7 (by omega) ?_
          intro A9 c9 w9 hL9 hg9
          have hn := hI7.next hcd.out hL9 hg9
          have hlow : ∀ q, q ≤ gx → some q ≠ (Value.slice A' j c').ownBlock := fun q hq e => by have := (hI7.lst.own.lt q e.symm).1; omega
          have hgt := hI7.gt
          have hR9 := hR8.to hg9 (by simp; omega) (by simp; omega) (by simp; omega) (hlow _ (Nat.le_refl _)) (hlow _ (by omega)) (hlow _ (by omega))
          have gb := hn.1.cell 2
          have fb := hn.1.frozen 2
          replace hn := Lib.hid hn.2
          (have hS := (by exact hR9); refine hK.out _ _ (.inr hS) ?_; clear hK K; try simp only [Act.put, List.setIfInBounds_toArray, List.set_cons_zero, List.set_cons_succ])
          (refine mPure (i := 10) (v := ?v11) rfl (by kernel_rfl) (fun _ _ _ h => h) (Or.inl ⟨by rfl, ?y11⟩) (.inr hS) ?r11; (case y11 => (intro W hW; clear hW; go_simp; (try with_reducible rfl); done)); try simp only [Act.put, List.setIfInBounds_toArray, List.set_cons_zero, List.set_cons_succ])
          (refine mOne (i := 11) rfl (by kernel_rfl) (fun K hK => ?_))
          go_simp
          (refine hK.out _ _ (.inl ⟨11, by simp, by kernel_rfl⟩) ?_; clear hK K; try simp only [Act.put, List.setIfInBounds_toArray, List.set_cons_zero, List.set_cons_succ])
          refine wpAnyM_done (by kernel_rfl) ?_ _
          have hI9 : EnxI w x Ap np cp Av nv cv Ac nc cc (some ⟨g, o, none⟩) 16 kk gx (j + 1) A9 c9 (vs' ++ [.agg #[p7, q7, z7]]) ((x.kids.take (j + 1)).map Nd.itOf) (w9.setCell ⟨gx, 2, none⟩ (.slice A9 (j + 1) c9)) := by rw [hst1.out]; exact hn.out
          replace hI9 := Lib.hid hI9
          clear hn gb fb hR7 hR8 hR9 hL9 hg9 hsv7 hI7 hs7 hb7 hb67 hlow hS
          go_wp2_with fail
          refine ⟨⟨j + 1, A9, c9, _, by omega, by go_num, hI9.out⟩, ?_⟩
          simp [intOf]; omega
        · obtain rfl : j = 16 := by omega
          have hlt' : ¬ ((16 : Nat) : Int) < 16 := by omega
          have htk : x.kids.take 16 = x.kids := List.take_of_length_le (by rw [hk16.out]; omega)
          rw [htk] at hIr
          have c2 := hIr.f.c2
          have g2 := hIr.box.cell 2
          have hvs : Sits (fun q => q < w.heap.size ∨ wr.heap.size ≤ q) wr 8 (.agg #[.bool false, .slice Av nv cv, .slice none 0 0]) (Ns.tx x.value) :=
            ⟨Av, nv, cv, rfl, hv1.out, hv2.out, hv3.out, hvS.out.move (fun q h1 h2 => ⟨.inl h1, hIr.f.bel.block q h2⟩) hIr.f.bel.size⟩
          have hsv2 := Lib.hid (hIr.apart (Nat.le_refl _) hvs)
          clear hvs htk
          replace hIr := Lib.hid hIr
          go_upto_region 16 with (first
            | (at_builtin; refine wpList_append_it (v := .agg #[.bool false, .slice Av nv cv, .slice none 0 0]) rfl _ _ rfl (hIr.out.lst.below ((Below.refl _ _).alloc (Nat.le_refl _) _)) (fun q h => by have := hIr.out.f.bel.size; simp; omega) (by have := hIr.out.box.lt; simp; omega) rfl rfl (by simp) (Blk.new wr 48 #[.bool false, .slice Av nv cv, .slice none 0 0]) hsv2.out (by omega) ?_; intro A9 c9 w9 hL5 hg5; have hn := hIr.out.next hcd.out hL5 hg5; have gb := hn.1.cell 2; have fb := hn.1.frozen 2; replace hn := Lib.hid hn.2; clear hL5 hg5)
            | fail)
          have hI9 : EnxI w x Ap np cp Av nv cv Ac nc cc Ak 16 kk gx 17 A9 c9 (vs' ++ [.agg #[.bool false, .slice Av nv cv, .slice none 0 0]]) (Nd.items x) (w9.setCell ⟨gx, 2, none⟩ (.slice A9 17 c9)) := by rw [hits.out]; exact hn.out
          generalize (vs' ++ [.agg #[.bool false, .slice Av nv cv, .slice none 0 0]] : List Value) = vsF at hI9
          refine code_at (EnxI w x Ap np cp Av nv cv Ac nc cc Ak 16 kk gx 17 A9 c9 vsF (Nd.items x)) hI9 ?_
          clear hI9 hn gb fb g2 c2 hIr hsv2
          intro w8 hI8
          have hlk := hI8.lst.len
          have hO := Own.of_row hI8.lst.own
          have hbx := hI8.box
          have hb8 := Lib.hid hI8.f.bel
          have hlst : Sits (fun q => q < w8.heap.size) w8 9 (lsV A9 17 c9) (.inr (Nd.items x)) :=
            ⟨A9, 17, c9, vsF, rfl, hlk, hO.cap, hO.lim, (InS.of_own hO).move (fun q h1 h2 => ⟨h2, rfl⟩) (Nat.le_refl _), hI8.lst.all.imp fun v x hx => hx.move _ _ _ (fun q h1 h2 => ⟨h2, rfl⟩) (Nat.le_refl _)⟩
          have hen := ref_Encode02 (fun q => q < w8.heap.size) _ (.inr (Nd.items x)) w8 hlst (fun q h => h) hfe.out.1 (by have := hfe.out.2; unfold Nd.enc at this; omega)
          unfold lsV at hen
          clear hlst hO hI8
          replace hlk := Lib.hid hlk
          go_wp2_with (first
            | (refine wpList_load_row rfl 48 _ rfl gx rfl _ _ _ _ hbx Try.underlying48 rfl info_item3 ?_)
            | fail)
          refine hen.mono ?_
          rintro e w7 ⟨A7, m7, c7, rfl, hN7⟩
          have hN := Lib.hid (NewB.later hb8.out hN7)
          clear hen hN7
          go_wp2_with fail
          go_ret2
          exact ⟨A7, m7, c7, rfl, hN.out⟩
end Go.Proofs.Yteknhmhmepnfjaa

/-
  The reference of chapter 5: ref (what an item may name).
-/
namespace Go.Proofs.Yteknhmhmepnfjaa
open Go.RowKit

/-- what ref answers -/
def RrfQ (x : Ns.It 8) (w : World) (e : Ending) (w' : World) : Prop := Below w.heap.size w w' ∧ ∃ v, e = .returned v ∧ RefIn (fun q => w.heap.size ≤ q) w' v (Nd.rref x)
/-- the digest, of which so many bytes are copied -/
def digK (d : List UInt8) (i : Nat) : List UInt8 := d.take i ++ Nd.z32.drop i
theorem digK_len (d : List UInt8) (hd : d.length = 32) (i : Nat) (h : i ≤ 32) : (digK d i).length = 32 := by
  have : Nd.z32.length = 32 := rfl
  simp [digK]; omega
theorem digK_set (d : List UInt8) (hd : d.length = 32) (i : Nat) (h : i < 32) : (digK d i).set i (d[i]'(by omega)) = digK d (i + 1) := by
  have hz : Nd.z32.length = 32 := rfl
  unfold digK
  apply List.ext_getElem
  · simp; omega
  · intro j h1 h2
    rw [List.getElem_set]
    by_cases hj : i = j
    · subst hj
      rw [if_pos rfl, List.getElem_append_left (by simp; omega), List.getElem_take]
    · rw [if_neg hj]
      by_cases hlt : j < i
      · rw [List.getElem_append_left (by simp; omega), List.getElem_append_left (by simp; omega), List.getElem_take, List.getElem_take]
      · rw [List.getElem_append_right (by simp; omega), List.getElem_append_right (by simp; omega), List.getElem_drop, List.getElem_drop]
        congr 1
        simp only [List.length_take]
        omega
theorem refRow_set (k : Int) (e : List UInt8) (i : Nat) (y : UInt8) (A : Option Addr) (n c : Nat) (h : i < e.length) : (refRow k e A n c).setIfInBounds (1 + i) (.int .u8 (y.toNat : Int)) = refRow k (e.set i y) A n c := by
  apply Array.ext'
  have hl : i < (bv e).length := by rw [bv_length]; exact h
  simp only [refRow, refCells, List.setIfInBounds_toArray]
  rw [Nat.add_comm 1 i, List.set_cons_succ, List.set_append_left _ _ hl]
  simp [bv, List.map_set]
/-- in the midst of ref -/
structure RrfI (w : World) (row : Array Value) (W : World) : Prop where
  it : Blk W w.heap.size 48 row
  res : Blk W (w.heap.size + 1) 26 refZ
  bel : Below w.heap.size w W
structure RrfC (w : World) (row : Array Value) (d : List UInt8) (i : Nat) (W : World) : Prop where
  b : RrfI w row W
  r : Blk W (w.heap.size + 2) 26 (refRow 2 (digK d i) none 0 0)
set_option maxHeartbeats 2000000 in
set_option maxRecDepth 100000 in
theorem ref_ref05 (S : Nat → Prop) (v : Value) (x : Ns.It 8) (w : World) (hsit : Sits S w 8 v x) (hS : ∀ q, S q → q < w.heap.size) (hfit : Ns.fit 7 x) (hlim : (Ns.enc 8 x).length ≤ 16777215) :
    Calls Try.prog 38 #[v] w (RrfQ x w) := by
  have hslot := hsit.row
  have hup := Sits.up 8 v x hsit
  obtain ⟨A, n, c, z, rfl, hn, hc, hm, hin, hz⟩ := hslot
  have hI0 : RrfI w #[.bool (isList x), .slice A n c, z] ((w.alloc (.cells #[.bool (isList x), .slice A n c, z] 48)).alloc (.cells refZ 26)) := ⟨(Blk.new w _ _).alloc _, Blk.new' (by simp), ((Below.refl _ _).alloc (Nat.le_refl _) _).alloc (by simp) _⟩
  have hs2 : ((w.alloc (.cells #[.bool (isList x), .slice A n c, z] 48)).alloc (.cells refZ 26)).heap.size = w.heap.size + 2 := by simp
  have hBy : Bytes w w.heap.size A n c (bytesOf x) := ⟨hn, hc, hm, hin.reads fun g _ h => h⟩
  have g0 := hI0.it.cell 0
  have g1 := hI0.it.cell 1
  have hb1 := hI0.it
  replace hBy := Lib.hid hBy
  replace hS := Lib.hid hS
  replace hfit := Lib.hid hfit
  replace hI0 := Lib.hid hI0
  replace hs2 := Lib.hid hs2
  clear hin hsit hc hm
  cases hl : isList x with
  | true =>
    rw [hl] at hb1 hI0 g0 g1 hup hs2
    have hro : Nd.rref x = ⟨1, Nd.z32, Ns.enc 8 x⟩ := by unfold Nd.rref; rw [if_pos hl]
    have hen := ref_Encode02 S (.agg #[.bool true, .slice A n c, z]) (Ns.up 8 x) _ (hup.move _ _ _ (fun q h1 h2 => ⟨h1, hI0.out.bel.block q h2⟩) hI0.out.bel.size) (fun q h => by have := hS.out q h; rw [hs2.out]; omega) (Ns.fit_up 7 x hfit.out) (by rw [Ns.enc_up]; exact hlim)
    rw [Ns.enc_up] at hen
    replace hro := Lib.hid hro
    replace hn := Lib.hid hn
    clear hup
    go_enter Try.func38, Try.ntmps38
    go_wp2_with (refine wpList_load_row rfl 48 _ rfl w.heap.size rfl _ _ _ _ hb1 Try.underlying48 rfl info_item3 ?_)
    refine hen.mono ?_
    rintro e w2 ⟨A2, n2, c2, rfl, hN⟩
    have hn2 := hN.1
    have hr2 := hI0.out.res.below hN.2.2 (by rw [hs2.out]; omega)
    have hbe2 := hI0.out.bel.trans (hN.2.2.mono hI0.out.bel.size)
    have hO := Own.of_row hN.2.1
    have hres : RefIn (fun q => w.heap.size ≤ q) (w2.setRow (w.heap.size + 1) (refRow 1 Nd.z32 A2 n2 c2)) (.agg (refRow 1 Nd.z32 A2 n2 c2)) ⟨1, Nd.z32, Ns.enc 8 x⟩ :=
      ⟨A2, n2, c2, rfl, rfl, hn2, hO.cap, hO.lim, (InS.of_own hO).move (fun q h1 h2 => ⟨by rw [hs2.out] at h1; omega, setRow_other w2 _ q _ (by rw [hs2.out] at h1; omega)⟩) (by simp)⟩
    have hbe3 := below_row hbe2 (show w.heap.size ≤ w.heap.size + 1 by omega) (refRow 1 Nd.z32 A2 n2 c2)
    clear hen hN hO hb1 g0 g1 hlim
    replace hn2 := Lib.hid hn2
    replace hres := Lib.hid hres
    replace hbe3 := Lib.hid hbe3
    go_wp2_with (refine wpList_store_row rfl 26 _ _ rfl (w.heap.size + 1) (refRow 1 Nd.z32 A2 n2 c2) rfl rfl _ _ hr2 (by rw [refRow_size rfl]; exact info_ref) (by rw [refRow_size rfl]; rfl) (refRow_one _ _ _ _ _) ?_)
    refine bodyPost_ret (v := .agg (refRow 1 Nd.z32 A2 n2 c2)) (results_cell_row rfl _ _ (w.heap.size + 1) _ (refRow 1 Nd.z32 A2 n2 c2) _ _ rfl (hr2.row _) Try.underlying26 rfl (by rw [refRow_size rfl]; exact info_ref)) rfl ?_
    exact ⟨hbe3.out, _, rfl, by rw [hro.out]; exact hres.out⟩
  | false =>
    rw [hl] at hb1 hI0 g0 g1 hs2
    have hro0 : Nd.rref x = if (bytesOf x).length = 32 then ⟨2, bytesOf x, []⟩ else Nd.rf0 := by unfold Nd.rref; rw [if_neg (by rw [hl]; simp)]
    generalize bytesOf x = b at *
    clear hup hb1
    by_cases h32 : n = 32
    · have hbl : b.length = 32 := by rw [← hn]; exact h32
      have hro := Lib.hid (show Nd.rref x = ⟨2, b, []⟩ by rw [hro0, if_pos hbl])
      obtain ⟨ga, oa, rfl, hga, hcl⟩ := hBy.out.reads.2 (by omega)
      subst h32
      have hby : ∀ W, Below w.heap.size w W → ∀ (i : Nat) (hi : i < b.length), W.cell? ⟨ga, oa + i, none⟩ = some (.int .u8 (b[i].toNat : Int)) := fun W hb i hi => (hb.cell (p := ⟨ga, oa + i, none⟩) hga).trans (hcl i _ (bv_at b i hi))
      have hC0 : RrfC w #[.bool false, .slice (some ⟨ga, oa, none⟩) 32 c, z] b 0 ((((w.alloc (.cells #[.bool false, .slice (some ⟨ga, oa, none⟩) 32 c, z] 48)).alloc (.cells refZ 26)).alloc (.cells refZ 26)).setRow (w.heap.size + 2) (refRow 2 Nd.z32 none 0 0)) := by
        refine ⟨⟨(hI0.out.it.alloc _).row_far _ (by omega), (hI0.out.res.alloc _).row_far _ (by omega), below_row (hI0.out.bel.alloc hI0.out.bel.size _) (by omega) _⟩, ?_⟩
        exact (Blk.new' hs2.out.symm).row _
      replace hby := Lib.hid hby
      replace hbl := Lib.hid hbl
      replace hC0 := Lib.hid hC0
      clear hro0 hcl hn
      go_enter Try.func38, Try.ntmps38
      go_wp2_with (refine wpList_store_row rfl 26 _ _ rfl (w.heap.size + 2) (refRow 2 Nd.z32 none 0 0) rfl rfl _ _ (Blk.new' (w := ((w.alloc (.cells #[.bool false, .slice (some ⟨ga, oa, none⟩) 32 c, z] 48)).alloc (.cells refZ 26))) (cs := refZ) (t := 26) hs2.out.symm) (by rw [refRow_size rfl]; exact info_ref) (by rw [refRow_size rfl]; rfl) (refRow_one _ _ _ _ _) ?_; refine list_at (RrfC w #[.bool false, .slice (some ⟨ga, oa, none⟩) 32 c, z] b 0) hC0.out ?_; intro w3 hC; clear hC0; replace hC := Lib.hid hC)
      clear g0 g1
      go_loopw [6] (fun i wr => ∃ j : Nat, j ≤ 32 ∧ i = .int .i64 j ∧ RrfC w #[.bool false, .slice (some ⟨ga, oa, none⟩) 32 c, z] b j wr) (fun i _ => 32 - (intOf i).toNat)
      case atStart => exact ⟨0, Nat.zero_le _, rfl, hC.out⟩
      case round =>
        clear hC
        obtain ⟨j, hj, rfl, hCr⟩ := hrel
        by_cases hlt : j < 32
        · have hlt' : (j : Int) < 32 := by omega
          have hjb : j < b.length := by rw [hbl.out]; exact hlt
          have g1 := hCr.b.it.cell 1
          have gy := hby.out wr hCr.b.bel j hjb
          have hset := hCr.r.set_ (1 + j) (.int .u8 (b[j].toNat : Int))
          rw [refRow_set _ _ _ _ _ _ _ (by rw [digK_len b hbl.out j (by omega)]; exact hlt), digK_set b hbl.out j hlt] at hset
          have hrc : wr.cell? ⟨w.heap.size + 2, 1 + j, none⟩ = some (.int .u8 (((digK b j)[j]'(by rw [digK_len b hbl.out j (by omega)]; exact hlt)).toNat : Int)) := hCr.r.dig j _ (bv_at _ j _)
          have hrf := hCr.r.frozen (1 + j)
          have hC2 : RrfC w #[.bool false, .slice (some ⟨ga, oa, none⟩) 32 c, z] b (j + 1) (wr.setCell ⟨w.heap.size + 2, 1 + j, none⟩ (.int .u8 (b[j].toNat : Int))) :=
            ⟨⟨hCr.b.it.far (by show w.heap.size ≠ w.heap.size + 2; omega) _, hCr.b.res.far (by show w.heap.size + 1 ≠ w.heap.size + 2; omega) _, hCr.b.bel.setCell (by show w.heap.size ≤ w.heap.size + 2; omega) _⟩, hset⟩
          replace hC2 := Lib.hid hC2
          clear hset hCr
          generalize b[j] = y at *
          generalize ((digK b j)[j]'(by rw [digK_len b hbl.out j (by omega)]; exact hlt)) = y0 at *
          have hy := y.toNat_lt
          go_wp2_with fail
          refine ⟨⟨j + 1, by omega, by go_num, hC2.out⟩, ?_⟩
          simp [intOf]; omega
        · obtain rfl : j = 32 := by omega
          have hlt' : ¬ ((32 : Nat) : Int) < 32 := by omega
          have hdk : digK b 32 = b := by unfold digK; rw [List.take_of_length_le (by rw [hbl.out]; exact Nat.le_refl _)]; simp [Nd.z32]
          have hrb := hCr.r
          rw [hdk] at hrb
          have hres := hCr.b.res
          have hbe := below_row hCr.b.bel (show w.heap.size ≤ w.heap.size + 1 by omega) (refRow 2 b none 0 0)
          replace hbe := Lib.hid hbe
          clear hCr hdk
          go_wp2_with (first
            | (refine wpList_load_row rfl 26 _ rfl (w.heap.size + 2) rfl _ _ _ _ hrb Try.underlying26 rfl (by rw [refRow_size hbl.out]; exact info_ref) ?_)
            | (refine wpList_store_row rfl 26 _ _ rfl (w.heap.size + 1) (refRow 2 b none 0 0) rfl rfl _ _ hres (by rw [refRow_size hbl.out]; exact info_ref) (by rw [refRow_size hbl.out]; rfl) (refRow_one _ _ _ _ _) ?_)
            | fail)
          refine bodyPost_ret (v := .agg (refRow 2 b none 0 0)) (results_cell_row rfl _ _ (w.heap.size + 1) _ (refRow 2 b none 0 0) _ _ rfl (hres.row _) Try.underlying26 rfl (by rw [refRow_size hbl.out]; exact info_ref)) rfl ?_
          exact ⟨hbe.out, _, rfl, by rw [hro.out]; exact ⟨none, 0, 0, rfl, hbl.out, rfl, Nat.le_refl _, by unfold maxLen; omega, ⟨rfl, fun h => by omega⟩⟩⟩
    · have hro := Lib.hid (show Nd.rref x = Nd.rf0 by rw [hro0, if_neg (by rw [← hn]; exact h32)])
      have h32' : ¬ (n : Int) = 32 := by omega
      have hres := hI0.out.res
      have hbe := Lib.hid (below_row hI0.out.bel (show w.heap.size ≤ w.heap.size + 1 by omega) (refRow 0 Nd.z32 none 0 0))
      replace hn := Lib.hid hn
      clear hro0
      go_enter Try.func38, Try.ntmps38
      go_wp2_with (refine wpList_store_row rfl 26 _ _ rfl (w.heap.size + 1) (refRow 0 Nd.z32 none 0 0) rfl rfl _ _ hres (by rw [refRow_size rfl]; exact info_ref) (by rw [refRow_size rfl]; rfl) (refRow_one _ _ _ _ _) ?_)
      refine bodyPost_ret (v := .agg (refRow 0 Nd.z32 none 0 0)) (results_cell_row rfl _ _ (w.heap.size + 1) _ (refRow 0 Nd.z32 none 0 0) _ _ rfl (hres.row _) Try.underlying26 rfl (by rw [refRow_size rfl]; exact info_ref)) rfl ?_
      exact ⟨hbe.out, _, rfl, by rw [hro.out]; exact ⟨none, 0, 0, rfl, rfl, rfl, Nat.le_refl _, by unfold maxLen; omega, ⟨rfl, fun h => by omega⟩⟩⟩
end Go.Proofs.Yteknhmhmepnfjaa

/-
  The reference of chapter 5: Decode.
-/
namespace Go.Proofs.Yteknhmhmepnfjaa
open Go.RowKit

namespace Nd
theorem rref_inl (x : Ns.It 8) : (rref x).inl.length ≤ (Ns.enc 8 x).length := by
  unfold rref
  split
  · exact Nat.le_refl _
  · split <;> exact Nat.zero_le _
theorem flat_short {b : List UInt8} {xs : List (Ns.It 8)} (h : Ns.dec b = .ok (.inr xs)) : (xs.flatMap (Ns.enc 8)).length < b.length := by
  obtain ⟨hb, -⟩ := Ns.dec_ok b _ h
  rw [hb]
  show _ < (Ns.head 192 (xs.flatMap (Ns.enc 8)).length ++ xs.flatMap (Ns.enc 8)).length
  have := Ns.head_pos 192 (xs.flatMap (Ns.enc 8)).length
  rw [List.length_append]; omega
theorem rref_short {b : List UInt8} {xs : List (Ns.It 8)} (h : Ns.dec b = .ok (.inr xs)) (x : Ns.It 8) (hx : x ∈ xs) : (rref x).inl.length < b.length :=
  Nat.lt_of_le_of_lt (Nat.le_trans (rref_inl x) (enc_mem 8 xs x hx)) (flat_short h)
theorem rtwo_short {b : List UInt8} {p o : Ns.It 8} (h : Ns.dec b = .ok (.inr [p, o])) (r : Rf) (hr : r ∈ refs (rtwo p o)) : r.inl.length < b.length := by
  have h0 := flat_short h
  unfold rtwo at hr
  split at hr
  · simp only [refs, List.mem_cons, List.not_mem_nil, or_false] at hr
    subst hr
    show (0 : Nat) < _
    omega
  · simp only [refs, List.mem_cons, List.not_mem_nil, or_false] at hr
    subst hr
    exact rref_short h o (by simp)
theorem rmany_short {b : List UInt8} {xs l : List (Ns.It 8)} {z : Ns.It 8} (h : Ns.dec b = .ok (.inr xs)) (hl : ∀ x ∈ l, x ∈ xs) (r : Rf) (hr : r ∈ refs (rmany l z)) : r.inl.length < b.length := by
  have h0 := flat_short h
  simp only [refs, rmany, List.mem_cons, List.mem_map] at hr
  rcases hr with rfl | ⟨x, hx, rfl⟩
  · show (0 : Nat) < _
    omega
  · exact rref_short h x (hl x hx)
end Nd
theorem slot_in {S : Nat → Prop} {w : World} {d n : Nat} {g o : Nat} {vs : List Value} {xs : List (Ns.It d)} (hin : InS S w 3 (some ⟨g, o, none⟩) n (flat vs)) (hall : All2 (Sits S w d) vs xs) (hn : n = xs.length) (i : Nat) (hi : i < xs.length) :
    ∃ (A' : Option Addr) (n' c' : Nat), w.cell? ⟨g, o + 3 * i + 1, none⟩ = some (.slice A' n' c') ∧ n' = (bytesOf xs[i]).length ∧ n' ≤ c' ∧ c' ≤ maxLen ∧ InS S w 1 A' n' (bv (bytesOf xs[i])) := by
  obtain ⟨g', o', a, b, c, he, h1, h2, hr, _, hs⟩ := items_at hin hall hn i hi
  injection he with he
  injection he with e1 e2
  subst e1; subst e2
  obtain ⟨A', n', c', z, hv, hn', hc, hm, hin', _⟩ := hs.row
  simp only [Value.agg.injEq, Array.mk.injEq, List.cons.injEq, and_true] at hv
  obtain ⟨rfl, rfl, rfl⟩ := hv
  exact ⟨A', n', c', hr 1 _ rfl, hn', hc, hm, hin'⟩
/-- '[]api.Ref{r}', as a step -/
theorem wp_build_ref {o : Oper} {a : Act} {w : World} {K : Act → World → Prop} {Q : Exit → Act → World → Prop} (parts : Array (Nat × Operand)) (ho : o.op = .buildSlice 27 1 parts)
    (k : Int) (d : List UInt8) (A : Option Addr) (n c : Nat) (hd : d.length = 32) (hp : parts.toList.map (fun (i, x) => (i, a.eval x)) = [(0, .agg (refRow k d A n c))])
    (h : K (a.put o.dst (.slice (some ⟨w.heap.size, 0, none⟩) 1 1)) (w.alloc (.cells (refRow k d A n c) 26))) : o.wp Try.prog a w K Q := by
  obtain ⟨i0, hi, hz0, hz1, hz2⟩ := info_parts info_ref4
  refine wp_buildSlice 27 26 1 parts ho (refRow k d A n c) i0 (.agg refZ) Try.underlying27 hi hz0 (by rw [hz1]; decide) (by rw [hz1]; decide) ?_ h
  rw [Array.toList_map, hp, hz1]
  have hl : (refCells k d A n c).length = 34 := refCells_length hd
  have hc0 : ((Array.range (1 * 34)).map ((Value.agg refZ).cells[· % (Value.agg refZ).cells.size]!)).size = 34 := by simp
  generalize (Array.range (1 * 34)).map ((Value.agg refZ).cells[· % (Value.agg refZ).cells.size]!) = cs0 at *
  have hf := fold_set (.agg (refRow k d A n c)) (refCells k d A n c) rfl 0 cs0 (by rw [hl, hc0]; omega)
  unfold Instr.fill
  rw [show (some (0 * 34, 34) : Option (Nat × Nat)) = some (0, 34) from rfl]
  simp only
  rw [if_neg (by
    show ¬ ((decide ((refRow k d A n c).size ≠ 34) || decide (0 + (refRow k d A n c).size > cs0.size)) = true)
    rw [refRow_size hd, hc0]; decide)]
  unfold Instr.fill
  rw [hf]
  congr 1
  have : cs0.toList.drop (0 + 34) = [] := List.drop_eq_nil_of_le (by rw [Array.length_toList, hc0]; omega)
  rw [hl, this]
  simp [refRow]
/-- 'append(x, r)' of references, as a step -/
theorem wp_append_ref {B m c : Nat} {w : World} {A : Option Addr} {vs : List Value} {rs : List Nd.Rf} {o : Oper} {a : Act} {K : Act → World → Prop} {Q : Exit → Act → World → Prop} {gx : Nat} {k : Int} {d : List UInt8} {A1 : Option Addr} {n1 c1 : Nat} {x : Nd.Rf} (s y : Operand)
    (ho : o.op = .call { callee := .builtin .append, args := #[s, y], argTypes := #[27, 27] })
    (h : RfL B w A m c vs rs) (hB : B ≤ w.heap.size) (hs : a.eval s = .slice A m c) (hx : a.eval y = .slice (some ⟨gx, 0, none⟩) 1 1) (hgx : gx < w.heap.size) (hd : d.length = 32) (hb : Blk w gx 26 (refRow k d A1 n1 c1)) (hv : RefIn (Apart (fun _ => False) B (.slice A m c)) w (.agg (refRow k d A1 n1 c1)) x)
    (hlim : m < 16777216)
    (H : ∀ A' c' w', RfL B w' A' (m + 1) c' (vs ++ [.agg (refRow k d A1 n1 c1)]) (rs ++ [x]) → w.grownBy w' (Value.slice A m c).ownBlock → K (a.put o.dst (.slice A' (m + 1) c')) w') : o.wp Try.prog a w K Q := by
  obtain ⟨i0, hi, hz0, hz1, hz2⟩ := info_parts info_ref4
  have hl : (refCells k d A1 n1 c1).length = 34 := refCells_length hd
  have hr : Reads w (gx + 1) 34 (some ⟨gx, 0, none⟩) 1 (refCells k d A1 n1 c1) := ⟨by rw [hl], fun _ => ⟨gx, 0, rfl, by omega, fun j u hu => by
    rw [Nat.zero_add, hb.cell j, ← Array.getElem?_toList]; exact hu⟩⟩
  refine wp_append_any w s y 27 ho B 26 i0 (.agg refZ) 34 64 Try.underlying27 hi hz0 hz1 hz2 rfl (by omega) (.slice A m c) m (flat vs) hs h.own (gx + 1) _ 1 1 (refCells k d A1 n1 c1) hx hr (refCells_one _ _ _ _ _) (by unfold maxLen; omega) (by omega) hB ?_
  intro v' w' hown hg hob
  obtain ⟨A', c', rfl⟩ : ∃ A' c', v' = .slice A' (m + 1) c' := by
    rcases hown.2 with ⟨rfl, h0⟩ | ⟨g, cap, cur, rfl, _⟩
    · omega
    · exact ⟨_, _, rfl⟩
  exact H A' c' w' (h.snoc hv hown hg (hob.imp id fun e => ⟨_, e, Nat.le_refl _⟩)) hg
/-- .. and the node that the item says -/
structure DecX8 (w : World) (gn : Nat) (cs : List Value) (x : Nd.No) (W : World) : Prop where
  res : Blk W w.heap.size 29 noZ
  n : Blk W gn 29 cs.toArray
  gt : w.heap.size < gn
  nin : NodIn (fun q => w.heap.size < q ∧ q ≠ gn) W (.agg cs.toArray) x
  bel : Below w.heap.size w W
theorem DecX8.step {w W W' : World} {gn : Nat} {cs : List Value} {x : Nd.No} (h : DecX8 w gn cs x W) (hb : Below W.heap.size W W') : DecX8 w gn cs x W' :=
  ⟨h.res.below hb h.res.lt, h.n.below hb h.n.lt, h.gt, h.nin.move (fun q h1 h2 => ⟨h1, hb.block q h2⟩) hb.size, h.bel.trans (hb.mono h.bel.size)⟩
theorem DecX8.range {w W : World} {gn : Nat} {cs : List Value} {x : Nd.No} (h : DecX8 w gn cs x W) : W.rangeAt gn 0 cs := by
  intro j u hu
  rw [Nat.zero_add, h.n.cell j, List.getElem?_toArray]
  exact hu
/-- in the midst of Decode: the items, the node that is put together -/
structure RndI (w w1 : World) (A2 : Option Addr) (n2 c2 : Nat) (vs : List Value) (xs : List (Ns.It 8)) (gn : Nat) (nrow : Array Value) (W : World) : Prop where
  d : DecI w #[.bool true, .slice none 0 0, .slice A2 n2 c2] w1 W
  n : Blk W gn 29 nrow
  gt : w1.heap.size < gn
  its : InS (fun q => w.heap.size < q ∧ q < w1.heap.size) W 3 A2 n2 (flat vs)
  all : All2 (Sits (fun q => w.heap.size < q ∧ q < w1.heap.size) W 8) vs xs
section
variable {w w1 W W' : World} {A2 : Option Addr} {n2 c2 gn : Nat} {vs : List Value} {xs : List (Ns.It 8)} {nrow : Array Value}
theorem RndI.step (h : RndI w w1 A2 n2 c2 vs xs gn nrow W) (hb : Below W.heap.size W W') : RndI w w1 A2 n2 c2 vs xs gn nrow W' :=
  have hmv : ∀ q, (w.heap.size < q ∧ q < w1.heap.size) → q < W.heap.size → (w.heap.size < q ∧ q < w1.heap.size) ∧ W'.heap[q]? = W.heap[q]? := fun q h1 h2 => ⟨h1, hb.block q h2⟩
  ⟨h.d.step hb, h.n.below hb h.n.lt, h.gt, h.its.move hmv hb.size, h.all.imp fun v x hx => hx.move _ _ _ hmv hb.size⟩
theorem RndI.row (h : RndI w w1 A2 n2 c2 vs xs gn nrow W) (cs : Array Value) : RndI w w1 A2 n2 c2 vs xs gn cs (W.setRow gn cs) := by
  have hgt := h.gt
  have hd := h.d.gt
  have hmv : ∀ q, (w.heap.size < q ∧ q < w1.heap.size) → q < W.heap.size → (w.heap.size < q ∧ q < w1.heap.size) ∧ (W.setRow gn cs).heap[q]? = W.heap[q]? := fun q h1 h2 => ⟨h1, setRow_other _ _ q _ (by omega)⟩
  exact ⟨⟨h.d.res.row_far _ (by omega), h.d.it.row_far _ (by omega), hd, below_row h.d.bel (by omega) _, below_row h.d.b1 (by omega) _⟩, h.n.row _, hgt, h.its.move hmv (by simp), h.all.imp fun v x hx => hx.move _ _ _ hmv (by simp)⟩
theorem rnd_stored {S : Nat → Prop} (h : DecI w #[.bool true, .slice none 0 0, .slice A2 n2 c2] w1 W) (hin : InS S w1 3 A2 n2 (flat vs)) (hall : All2 (Sits S w1 8) vs xs) (hS : ∀ q, S q → w.heap.size < q) (cs : Array Value) :
    RndI w w1 A2 n2 c2 vs xs W.heap.size cs ((W.alloc (.cells noZ 29)).setRow W.heap.size cs) := by
  have hlt := h.it.lt
  have hb : Below W.heap.size W (W.alloc (.cells noZ 29)) := (Below.refl _ _).alloc (Nat.le_refl _) _
  have hmv : ∀ q, S q → q < w1.heap.size → (w.heap.size < q ∧ q < w1.heap.size) ∧ (W.alloc (.cells noZ 29)).heap[q]? = w1.heap[q]? := fun q h1 h2 => ⟨⟨hS q h1, h2⟩, (hb.block q (by omega)).trans (h.b1.block q h2)⟩
  have hs : w1.heap.size ≤ (W.alloc (.cells noZ 29)).heap.size := Nat.le_trans h.b1.size hb.size
  exact RndI.row (nrow := noZ) ⟨h.step hb, Blk.new W _ _, hlt, hin.move hmv hs, hall.imp fun v x hx => hx.move _ _ _ hmv hs⟩ cs
/-- the node stands -/
theorem RndI.dec {cs : List Value} {x : Nd.No} {S : Nat → Prop} (h : RndI w w1 A2 n2 c2 vs xs gn cs.toArray W) (hx : NodIn S W (.agg cs.toArray) x) (hS : ∀ q, S q → w.heap.size < q ∧ q ≠ gn) : DecX8 w gn cs x W :=
  ⟨h.d.res, h.n, by have := h.d.gt; have := h.gt; omega, hx.move (fun q h1 _ => ⟨hS q h1, rfl⟩) (Nat.le_refl _), h.d.bel⟩
end
/-- .. and the path's memory -/
structure RndP (w w1 : World) (A2 : Option Addr) (n2 c2 : Nat) (vs : List Value) (xs : List (Ns.It 8)) (gn : Nat) (nrow : Array Value) (A5 : Option Addr) (m5 : Nat) (l : List UInt8) (W : World) : Prop where
  i : RndI w w1 A2 n2 c2 vs xs gn nrow W
  p : InS (fun q => w.heap.size < q ∧ q ≠ gn) W 1 A5 m5 (bv l)
/-- what the drawn region reads -/
structure RndR (w1 : World) (gn : Nat) (s1 s2 : Value) (b o : Nat) (l : List Value) (W : World) : Prop where
  c37 : W.cell? ⟨gn, 37, none⟩ = some s1
  c2 : W.cell? ⟨w1.heap.size, 2, none⟩ = some s2
  r : W.rangeAt b o l
theorem RndR.step {w1 W W' : World} {gn b o : Nat} {s1 s2 : Value} {l : List Value} (h : RndR w1 gn s1 s2 b o l W) (hb : Below W.heap.size W W') (h1 : gn < W.heap.size) (h2 : w1.heap.size < W.heap.size) (h3 : b < W.heap.size) : RndR w1 gn s1 s2 b o l W' :=
  ⟨(hb.cell (p := ⟨gn, 37, none⟩) h1).trans h.c37, (hb.cell (p := ⟨w1.heap.size, 2, none⟩) h2).trans h.c2, fun j u hu => (hb.cell (p := ⟨b, o + j, none⟩) h3).trans (h.r j u hu)⟩
theorem RndR.to {w1 W w5 : World} {gn b o : Nat} {s1 s2 : Value} {l : List Value} {B : Option Nat} (h : RndR w1 gn s1 s2 b o l W) (hb : W.grownBy w5 B) (h1 : gn < W.heap.size) (h2 : w1.heap.size < W.heap.size) (h3 : b < W.heap.size) (k1 : some gn ≠ B) (k2 : some w1.heap.size ≠ B) (k3 : some b ≠ B) : RndR w1 gn s1 s2 b o l w5 :=
  ⟨(World.cell?_of_block (a := ⟨gn, 37, none⟩) (hb.block gn h1 k1)).trans h.c37, (World.cell?_of_block (a := ⟨w1.heap.size, 2, none⟩) (hb.block _ h2 k2)).trans h.c2, fun j u hu => (World.cell?_of_block (a := ⟨b, o + j, none⟩) (hb.block b h3 k3)).trans (h.r j u hu)⟩
/-- .. and the references so far -/
structure RndK (w w1 : World) (A2 : Option Addr) (n2 c2 : Nat) (vs : List Value) (xs : List (Ns.It 8)) (gn : Nat) (Av : Option Addr) (nv cv : Nat) (A : Option Addr) (k c : Nat) (us : List Value) (rs : List Nd.Rf) (W : World) : Prop where
  i : RndI w w1 A2 n2 c2 vs xs gn (nodRow 3 none 0 0 Av nv cv 0 Nd.z32 none 0 0 A k c) W
  lst : RfL (gn + 1) W A k c us rs
section
variable {w w1 W W' w5 : World} {A2 Av A A5 : Option Addr} {n2 c2 gn nv cv k c c5 : Nat} {vs us : List Value} {xs : List (Ns.It 8)} {rs : List Nd.Rf} {row : Array Value} {v : Value} {r : Nd.Rf}
theorem RndK.step (h : RndK w w1 A2 n2 c2 vs xs gn Av nv cv A k c us rs W) (hb : Below W.heap.size W W') : RndK w w1 A2 n2 c2 vs xs gn Av nv cv A k c us rs W' := ⟨h.i.step hb, h.lst.below hb⟩
theorem RndK.next (h : RndK w w1 A2 n2 c2 vs xs gn Av nv cv A k c us rs W) (hL5 : RfL (gn + 1) w5 A5 (k + 1) c5 (us ++ [v]) (rs ++ [r])) (hg5 : (W.alloc (.cells row 26)).grownBy w5 (Value.slice A k c).ownBlock) :
    Blk w5 gn 29 (nodRow 3 none 0 0 Av nv cv 0 Nd.z32 none 0 0 A k c) ∧ RndK w w1 A2 n2 c2 vs xs gn Av nv cv A5 (k + 1) c5 (us ++ [v]) (rs ++ [r]) (w5.setCell ⟨gn, 37, none⟩ (.slice A5 (k + 1) c5)) := by
  have hgt := h.i.gt
  have hd := h.i.d.gt
  have hlow : ∀ q, q ≤ gn → some q ≠ (Value.slice A k c).ownBlock := fun q hq e => by have := (h.lst.own.lt q e.symm).1; omega
  have hsz := hg5.size
  have hs1 : (W.alloc (.cells row 26)).heap.size = W.heap.size + 1 := by simp
  have hbl := h.i.n.lt
  have hblk : ∀ q, q ≤ gn → w5.heap[q]? = W.heap[q]? := fun q hq => (hg5.block q (by omega) (hlow q hq)).trans (Below.heap_alloc W _ q (by omega))
  have hX : Blk w5 gn 29 (nodRow 3 none 0 0 Av nv cv 0 Nd.z32 none 0 0 A k c) := (hblk gn (Nat.le_refl _)).trans h.i.n
  have hb1 := h.i.d.b1.size
  have hbw := h.i.d.bel.size
  have hset : ∀ q, q ≠ gn → (w5.setCell ⟨gn, 37, none⟩ (.slice A5 (k + 1) c5)).heap[q]? = w5.heap[q]? := fun q hq => Below.heap_setCell w5 _ _ q (by show q ≠ gn; exact hq)
  have hbel : Below w.heap.size w w5 := (h.i.d.bel.alloc hbw (.cells row 26)).trans ⟨hg5.os, hg5.tape, hg5.output, hg5.size, fun q hq => hg5.block q (by omega) (hlow q (by omega))⟩
  have hbel1 : Below w1.heap.size w1 w5 := (h.i.d.b1.alloc hb1 (.cells row 26)).trans ⟨hg5.os, hg5.tape, hg5.output, hg5.size, fun q hq => hg5.block q (by omega) (hlow q (by omega))⟩
  have hmv : ∀ q, (w.heap.size < q ∧ q < w1.heap.size) → q < W.heap.size → (w.heap.size < q ∧ q < w1.heap.size) ∧ (w5.setCell ⟨gn, 37, none⟩ (.slice A5 (k + 1) c5)).heap[q]? = W.heap[q]? := fun q h1 h2 => ⟨h1, (hset q (by omega)).trans (hblk q (by omega))⟩
  have hss : W.heap.size ≤ (w5.setCell ⟨gn, 37, none⟩ (.slice A5 (k + 1) c5)).heap.size := by rw [size_set]; omega
  refine ⟨hX, ⟨⟨⟨(hset _ (by omega)).trans ((hblk _ (by omega)).trans h.i.d.res), (hset _ (by omega)).trans ((hblk _ (by omega)).trans h.i.d.it), hd, hbel.setCell (by show w.heap.size ≤ gn; omega) _, hbel1.setCell (by show w1.heap.size ≤ gn; omega) _⟩, (hX.set_ 37 _).eq rfl, hgt, h.i.its.move hmv hss, h.i.all.imp fun v x hx => hx.move _ _ _ hmv hss⟩, hL5.far (grown_set (World.grownBy.refl w5 (some gn))) (Nat.lt_succ_self gn)⟩⟩
end
set_option maxHeartbeats 4000000 in
set_option maxRecDepth 100000 in
theorem ref_DecodeI (b : List UInt8) (ih : ∀ b' : List UInt8, b'.length < b.length → RodC b') : RodC b := by
  intro A n c w hB
  have hdc := ref_Decode02 A n c b (w.alloc (.cells noZ 29)) ((hB.alloc (Nat.le_refl _) _).more (by simp))
  have hlen := hB.len
  have hr0 : Blk (w.alloc (.cells noZ 29)) w.heap.size 29 noZ := Blk.new w _ _
  have hbe0 : Below w.heap.size w (w.alloc (.cells noZ 29)) := (Below.refl _ _).alloc (Nat.le_refl _) _
  have hs0 : (w.alloc (.cells noZ 29)).heap.size = w.heap.size + 1 := by simp
  have hnq : NodQ b w = fun e w' => Below w.heap.size w w' ∧ match Nd.dec b with
  | some x => ∃ v, e = .returned (.tuple #[v, .int .i64 0]) ∧ NodIn (fun q => w.heap.size ≤ q) w' v x
  | none => e = .returned (.tuple #[.agg noZ, .int .i64 50]) := rfl
  generalize NodQ b w = Q at *
  obtain ⟨R, hD⟩ : ∃ R, Nd.dec b = R := ⟨_, rfl⟩
  rw [hD] at hnq
  subst hlen
  replace ih := Lib.hid ih
  replace hnq := Lib.hid hnq
  replace hr0 := Lib.hid hr0
  replace hbe0 := Lib.hid hbe0
  replace hs0 := Lib.hid hs0
  replace hD := Lib.hid hD
  replace hB := Lib.hid hB
  go_enter Try.func14, Try.ntmps14
  go_wp2_with fail
  refine hdc.mono ?_
  rintro e w1 ⟨hb1, hq⟩
  clear hdc
  have hr1 := hr0.out.below hb1 (by have := hs0.out; omega)
  have hbe1 := hbe0.out.trans (hb1.mono hbe0.out.size)
  cases hx : Ns.dec b with
  | error k =>
    rw [hx] at hq
    obtain ⟨rfl, hk⟩ := hq
    have hR := Lib.hid (show R = none by rw [← hD.out, Nd.rdec_error hx])
    have hst := Lib.hid (dec_stored (w := w) (w1 := w1) #[.bool false, .slice none 0 0, .slice none 0 0] hr1 hbe1)
    clear hD hx hb1 hr1 hr0 hbe0
    rw [show itemZ = .agg #[.bool false, .slice none 0 0, .slice none 0 0] from rfl]
    go_wp2_with (first
      | (refine wpList_store_row rfl 48 _ _ rfl w1.heap.size #[.bool false, .slice none 0 0, .slice none 0 0] rfl rfl _ _ (Blk.new w1 48 rowZ) info_item3 rfl (by simp [Value.oneCell']) ?_; refine list_at (DecI w #[.bool false, .slice none 0 0, .slice none 0 0] w1) hst.out ?_; intro w2 hI2; have k2 : w2.cell? ⟨w1.heap.size, 2, none⟩ = some (.slice none 0 0) := hI2.it.cell 2; replace hI2 := Lib.hid hI2)
      | (refine wpList_store_row rfl 29 _ _ rfl w.heap.size noZ rfl rfl _ _ hI2.out.res info_node rfl noZ_one ?_)
      | fail)
    refine bodyPost_ret (v := .tuple #[.agg noZ, .int .i64 50]) (results_row_tmp rfl _ _ w.heap.size _ noZ _ _ _ rfl rfl (hI2.out.res.row _) Try.underlying29 rfl info_node) rfl ?_
    rw [hnq.out, hR.out]
    exact ⟨below_row hI2.out.bel (Nat.le_refl _) _, rfl⟩
  | ok y =>
    rw [hx] at hq
    obtain ⟨v, rfl, hv⟩ := hq
    cases y with
    | inl bb =>
      have hR := Lib.hid (show R = none by rw [← hD.out, Nd.rdec_text hx])
      obtain ⟨A2, n2, c2, rfl, -⟩ := hv
      unfold txV
      have hst := Lib.hid (dec_stored (w := w) (w1 := w1) #[.bool false, .slice A2 n2 c2, .slice none 0 0] hr1 hbe1)
      clear hD hx hb1 hr1 hr0 hbe0
      go_wp2_with (first
        | (refine wpList_store_row rfl 48 _ _ rfl w1.heap.size #[.bool false, .slice A2 n2 c2, .slice none 0 0] rfl rfl _ _ (Blk.new w1 48 rowZ) info_item3 rfl (by simp [Value.oneCell']) ?_; refine list_at (DecI w #[.bool false, .slice A2 n2 c2, .slice none 0 0] w1) hst.out ?_; intro w2 hI2; have k2 : w2.cell? ⟨w1.heap.size, 2, none⟩ = some (.slice none 0 0) := hI2.it.cell 2; replace hI2 := Lib.hid hI2)
        | (refine wpList_store_row rfl 29 _ _ rfl w.heap.size noZ rfl rfl _ _ hI2.out.res info_node rfl noZ_one ?_)
        | fail)
      refine bodyPost_ret (v := .tuple #[.agg noZ, .int .i64 50]) (results_row_tmp rfl _ _ w.heap.size _ noZ _ _ _ rfl rfl (hI2.out.res.row _) Try.underlying29 rfl info_node) rfl ?_
      rw [hnq.out, hR.out]
      exact ⟨below_row hI2.out.bel (Nat.le_refl _) _, rfl⟩
    | inr xs =>
      obtain ⟨A2, n2, c2, vs, rfl, hn2, hc2, hm2, hin, hall⟩ := hv
      obtain ⟨hbl, hft⟩ := Ns.dec_ok b _ hx
      have hfit : ∀ x ∈ xs, Ns.fit 7 x := hft.2
      have hlim : ∀ x ∈ xs, (Ns.enc 8 x).length ≤ 16777215 := fun x hx => Nat.le_trans (enc_mem 8 xs x hx) hft.1
      unfold lsV
      have hst := Lib.hid (dec_stored (w := w) (w1 := w1) #[.bool true, .slice none 0 0, .slice A2 n2 c2] hr1 hbe1)
      have hS0 : ∀ q, (w.alloc (.cells noZ 29)).heap.size ≤ q → w.heap.size < q := fun q h => by have := hs0.out; omega
      clear hb1 hr1 hr0 hbe0 hbl hft
      replace hfit := Lib.hid hfit
      replace hlim := Lib.hid hlim
      replace hS0 := Lib.hid hS0
      replace hx := Lib.hid hx
      by_cases h2 : n2 = 2
      · subst h2
        obtain ⟨p, o', rfl⟩ := Nd.list_two xs hn2.symm
        have hdx := Nd.rdec_two hx.out
        rw [hD.out] at hdx
        obtain ⟨g, o, a1, b1, z1, rfl, hSg, hg3, hr1, -, hs1'⟩ := items_at hin hall rfl 0 (by simp)
        obtain ⟨A3, m3, d3, hc3, hm3, hd3, hl3, hi3⟩ := slot_in hin hall rfl 0 (by simp)
        obtain ⟨A4, m4, d4, hc4, hm4, hd4, hl4, hi4⟩ := slot_in hin hall rfl 1 (by simp)
        obtain ⟨g', o2, a2, b2, z2, he, -, -, hr2, -, hs2'⟩ := items_at hin hall rfl 1 (by simp)
        injection he with he
        injection he with he1 he2
        subst he1 he2
        simp only [List.getElem_cons_zero, List.getElem_cons_succ] at hm3 hi3 hm4 hi4 hs2'
        have hcel : ∀ W, Below w1.heap.size w1 W → W.cell? ⟨g, o + 1, none⟩ = some (.slice A3 m3 d3) ∧ W.cell? ⟨g, o + 3 + 1, none⟩ = some (.slice A4 m4 d4) ∧ W.rangeAt g (o + 3) [a2, b2, z2] := fun W hb =>
          ⟨(hb.cell (p := ⟨g, o + 1, none⟩) hg3).trans hc3, (hb.cell (p := ⟨g, o + 3 + 1, none⟩) hg3).trans hc4, fun j u hu => (hb.cell (p := ⟨g, o + 3 + j, none⟩) hg3).trans (hr2 j u hu)⟩
        have hB3 : ∀ W, Below w1.heap.size w1 W → Bytes W W.heap.size A3 m3 d3 (bytesOf p) := fun W hb => ⟨hm3, hd3, hl3, (hi3.move (S' := fun _ => True) (fun q _ h2 => ⟨trivial, hb.block q h2⟩) hb.size).reads fun g _ h => h⟩
        have hple := bytesOf_le 7 p (hfit.out p (by simp))
        have hun := fun (W : World) (hb : Below w1.heap.size w1 W) => rnib_Unpack (bytesOf p) A3 m3 d3 W.heap.size W (hB3 W hb) (Nat.le_refl _) (by omega)
        have hrf := fun (W : World) (hb : Below w1.heap.size w1 W) => ref_ref05 (fun q => q < W.heap.size) (.agg #[a2, b2, z2]) o' W (hs2'.move _ _ _ (fun q _ h2 => ⟨Nat.lt_of_lt_of_le h2 hb.size, hb.block q h2⟩) hb.size) (fun q h => h) (hfit.out o' (by simp)) (hlim.out o' (by simp))
        have hrs := fun (W : World) (h : DecI w #[.bool true, .slice none 0 0, .slice (some ⟨g, o, none⟩) 2 c2] w1 W) => rnd_stored h hin hall hS0.out (nodRow 3 none 0 0 A4 m4 d4 0 Nd.z32 none 0 0 none 0 0)
        have hshort := Lib.hid (Nd.rtwo_short hx.out)
        have hwf := Nd.rtwo_wf p o'
        have hi4' : ∀ W, Below w1.heap.size w1 W → InS (fun q => w.heap.size < q ∧ q < w1.heap.size) W 1 A4 m4 (bv (bytesOf o')) := fun W hb => hi4.move (fun q h1 h2 => ⟨⟨hS0.out q h1, h2⟩, hb.block q h2⟩) hb.size
        have hrt : Nd.rtwo p o' = if Nib.unpackB (bytesOf p) = true then ⟨1, Nib.unpackL (bytesOf p), bytesOf o', Nd.rf0, []⟩ else ⟨2, Nib.unpackL (bytesOf p), [], Nd.rref o', []⟩ := rfl
        replace hi4' := Lib.hid hi4'
        replace hcel := Lib.hid hcel
        replace hun := Lib.hid hun
        replace hrf := Lib.hid hrf
        replace hrs := Lib.hid hrs
        replace hrt := Lib.hid hrt
        replace hdx := Lib.hid hdx
        replace hm4 := Lib.hid hm4
        replace hd4 := Lib.hid hd4
        replace hl4 := Lib.hid hl4
        generalize Nd.rtwo p o' = X at *
        clear hin hall hs1' hs2' hr1 hr2 hi3 hi4 hB3 hm3 hc3 hc4 hD hx
        go_wp2_with (first
          | (refine wpList_store_row rfl 48 _ _ rfl w1.heap.size #[.bool true, .slice none 0 0, .slice (some ⟨g, o, none⟩) 2 c2] rfl rfl _ _ (Blk.new w1 48 rowZ) info_item3 rfl (by simp [Value.oneCell']) ?_; refine list_at (DecI w #[.bool true, .slice none 0 0, .slice (some ⟨g, o, none⟩) 2 c2] w1) hst.out ?_; intro w2 hI2; have k2 : w2.cell? ⟨w1.heap.size, 2, none⟩ = some (.slice (some ⟨g, o, none⟩) 2 c2) := hI2.it.cell 2; have k4 := (hcel.out w2 hI2.b1).2.1; have hst2 := Lib.hid (hrs.out w2 hI2); clear hst; clear hrs)
          | (refine wpList_store_row rfl 29 _ _ rfl w2.heap.size (nodRow 3 none 0 0 A4 m4 d4 0 Nd.z32 none 0 0 none 0 0) rfl rfl _ _ (Blk.new w2 29 noZ) (by rw [nodRow_size rfl]; exact info_node) (by rw [nodRow_size rfl]; rfl) (nodRow_one _ _ _ _ _ _ _ _ _ _ _ _ _ _ _) ?_; refine list_at (RndI w w1 (some ⟨g, o, none⟩) 2 c2 vs [p, o'] w2.heap.size (nodRow 3 none 0 0 A4 m4 d4 0 Nd.z32 none 0 0 none 0 0)) hst2.out ?_; clear k2 k4 hst2; generalize w2.heap.size = gn at *; intro w3 hN; have k2 : w3.cell? ⟨w1.heap.size, 2, none⟩ = some (.slice (some ⟨g, o, none⟩) 2 c2) := hN.d.it.cell 2; have k1 := (hcel.out w3 hN.d.b1).1; replace hN := Lib.hid hN)
          | fail)
        refine (hun.out w3 hN.out.d.b1).mono ?_
        rintro e w4 ⟨A5, m5, c5, rfl, hm5, hO5, hb5⟩
        have hN4 := hN.out.step hb5
        have k2 : w4.cell? ⟨w1.heap.size, 2, none⟩ = some (.slice (some ⟨g, o, none⟩) 2 c2) := hN4.d.it.cell 2
        have k3 := (hcel.out w4 hN4.d.b1).2.2
        have hgn3 := hN.out.n.lt
        replace hN4 := Lib.hid hN4
        replace hO5 := Lib.hid hO5
        replace hm5 := Lib.hid hm5
        clear hun k1 hb5 hN
        go_wp2_with (first
          | (refine wpList_load_mid rfl 48 _ rfl g (o + 3) rfl [a2, b2, z2] _ k3 Try.underlying48 rfl info_item3 ?_)
          | fail)
        refine (hrf.out w4 hN4.out.d.b1).mono ?_
        rintro e w5 ⟨hb6, v6, rfl, A6, m6, c6, rfl, hd6, hm6, hl6, hx6, hi6⟩
        have hN5 := hN4.out.step hb6
        have hnr := hN5.n
        have hN6 := hN5.row (nodRow 2 A5 m5 c5 none 0 0 (Nd.rref o').kind (Nd.rref o').dig A6 m6 c6 none 0 0)
        have hgl4 := hN4.out.n.lt
        have hp6 : InS (fun q => w.heap.size < q ∧ q ≠ gn) (w5.setRow gn (nodRow 2 A5 m5 c5 none 0 0 (Nd.rref o').kind (Nd.rref o').dig A6 m6 c6 none 0 0)) 1 A5 m5 (bv (Nib.unpackL (bytesOf p))) := by
          have hgg := hN4.out.gt
          have hdg := hN4.out.d.gt
          have h1 := (InS.of_own hO5.out).move (S' := fun q => w3.heap.size ≤ q) (w' := w5) (fun q h1 h2 => ⟨h1, hb6.block q h2⟩) hb6.size
          exact h1.move (fun q h1 h2 => ⟨⟨by omega, by omega⟩, setRow_other _ _ q _ (by omega)⟩) (by simp)
        have hi6' : InS (fun q => w.heap.size < q ∧ q ≠ gn) (w5.setRow gn (nodRow 2 A5 m5 c5 none 0 0 (Nd.rref o').kind (Nd.rref o').dig A6 m6 c6 none 0 0)) 1 A6 m6 (bv (Nd.rref o').inl) := by
          have hgg := hN4.out.gt
          have hdg := hN4.out.d.gt
          exact hi6.move (fun q h1 h2 => ⟨⟨by omega, by omega⟩, setRow_other _ _ q _ (by omega)⟩) (by simp)
        generalize Nd.rref o' = RR at *
        obtain ⟨rk, rd, ri⟩ := RR
        simp only at hd6 hm6 hp6 hi6' hN6
        have hO5c := Lib.hid hO5.out.cap
        have hO5l := Lib.hid hO5.out.lim
        replace hN6 := Lib.hid hN6
        replace hp6 := Lib.hid hp6
        replace hi6' := Lib.hid hi6'
        replace hd6 := Lib.hid hd6
        replace hm6 := Lib.hid hm6
        clear hrf k2 k3 hi6 hb6 hN5
        generalize Nib.unpackL (bytesOf p) = PL at *
        cases hub : Nib.unpackB (bytesOf p) with
        | false =>
          replace hrt := Lib.hid (hrt.out.trans (if_neg (by rw [hub]; simp)))
          clear hub
          have hX6 : DecX8 w gn (nodCells 2 A5 m5 c5 none 0 0 rk rd A6 m6 c6 none 0 0) X (w5.setRow gn (nodRow 2 A5 m5 c5 none 0 0 rk rd A6 m6 c6 none 0 0)) :=
            hN6.out.dec ⟨A5, m5, c5, none, 0, 0, A6, m6, c6, none, 0, 0, [], by rw [hrt.out], by rw [hrt.out]; exact hd6.out, ⟨by rw [hrt.out]; exact hm5.out, hO5c.out, hO5l.out, by rw [hrt.out]; exact hp6.out⟩, ⟨by rw [hrt.out]; rfl, Nat.le_refl _, Nat.zero_le _, ⟨by rw [hrt.out]; rfl, fun h => by omega⟩⟩, ⟨by rw [hrt.out]; exact hm6.out, hl6, hx6, by rw [hrt.out]; exact hi6'.out⟩, by rw [hrt.out]; rfl, Nat.le_refl _, Nat.zero_le _, ⟨rfl, fun h => by omega⟩, by rw [hrt.out]; exact All2.nil⟩ (fun q h => h)
          replace hX6 := Lib.hid hX6
          go_upto_region 14 with (first
            | (refine wpList_built rfl 29 _ rfl (nodRow 2 A5 m5 c5 none 0 0 rk rd A6 m6 c6 none 0 0) (by rw [Array.toList_map]; exact built_ext 2 A5 m5 c5 rk rd hd6.out A6 m6 c6) ?_)
            | (refine wpList_store_row rfl 29 _ _ rfl gn (nodRow 2 A5 m5 c5 none 0 0 rk rd A6 m6 c6 none 0 0) rfl rfl _ _ hnr (by rw [nodRow_size hd6.out]; exact info_node) (by rw [nodRow_size hd6.out]; rfl) (nodRow_one _ _ _ _ _ _ _ _ _ _ _ _ _ _ _) ?_; refine list_at (DecX8 w gn (nodCells 2 A5 m5 c5 none 0 0 rk rd A6 m6 c6 none 0 0) X) hX6.out ?_; clear hX6 hnr hN6; intro w6 hX6; replace hX6 := Lib.hid hX6)
            | fail)
          have hEn := ref_Encode05 (.agg (nodCells 2 A5 m5 c5 none 0 0 rk rd A6 m6 c6 none 0 0).toArray) X w6 (hX6.out.nin.move (S' := fun q => q < w6.heap.size) (fun q h1 h2 => ⟨h2, rfl⟩) (Nat.le_refl _)) (fun r hr _ _ => ih.out _ (hshort.out r hr))
          rw [show (nodCells 2 A5 m5 c5 none 0 0 rk rd A6 m6 c6 none 0 0).toArray = (nodRow 2 A5 m5 c5 none 0 0 rk rd A6 m6 c6 none 0 0) from rfl] at hEn
          have hdx1 := hdx.out
          cases hrx : Nd.right Nd.dec X with
          | false =>
            rw [hrx] at hEn hdx1
            have hRn := Lib.hid (show R = none by rw [hdx1]; simp)
            simp only [Bool.false_eq_true, if_false] at hEn
            clear hdx1 hrx
            have hrb : Blk w6 gn 29 (nodRow 2 A5 m5 c5 none 0 0 rk rd A6 m6 c6 none 0 0) := hX6.out.n
            go_wp2_with (first
              | (refine wpList_load_row rfl 29 _ rfl gn rfl _ _ _ _ hrb Try.underlying29 rfl (by rw [nodRow_size hd6.out]; exact info_node) ?_)
              | fail)
            refine hEn.mono ?_
            rintro e w7 ⟨A7, m7, c7, rfl, -, -, hb7⟩
            have hX7 := Lib.hid (hX6.out.step hb7)
            clear hEn hb7 hrb hX6
            go_wp2_with (first
              | (refine wpList_store_row rfl 29 _ _ rfl w.heap.size noZ rfl rfl _ _ hX7.out.res info_node rfl noZ_one ?_)
              | fail)
            refine bodyPost_ret (v := .tuple #[.agg noZ, .int .i64 50]) (results_row_tmp rfl _ _ w.heap.size _ noZ _ _ _ rfl rfl (hX7.out.res.row _) Try.underlying29 rfl info_node) rfl ?_
            rw [hnq.out, hRn.out]
            exact ⟨below_row hX7.out.bel (Nat.le_refl _) _, rfl⟩
          | true =>
            rw [hrx] at hEn hdx1
            simp only [if_true] at hEn
            clear hrx
            by_cases he : Nd.enc X = b
            · have hRn := Lib.hid (show R = some X by rw [hdx1, if_pos ⟨rfl, he⟩])
              rw [he] at hEn
              replace he := Lib.hid he
              clear hdx1
              have hrb : Blk w6 gn 29 (nodRow 2 A5 m5 c5 none 0 0 rk rd A6 m6 c6 none 0 0) := hX6.out.n
              go_wp2_with (first
                | (refine wpList_load_row rfl 29 _ rfl gn rfl _ _ _ _ hrb Try.underlying29 rfl (by rw [nodRow_size hd6.out]; exact info_node) ?_)
                | fail)
              refine hEn.mono ?_
              rintro e w7 ⟨A7, m7, c7, rfl, hN7⟩
              have hX7 := hX6.out.step hN7.2.2
              have t1 := hN7.bytes.toStr (P := Try.prog) Try.underlying22 Try.underlying5 9 Try.underlying9
              have t2 := (hB.out.below hX7.bel).toStr (P := Try.prog) Try.underlying22 Try.underlying5 9 Try.underlying9
              have hrb7 : Blk w7 gn 29 (nodRow 2 A5 m5 c5 none 0 0 rk rd A6 m6 c6 none 0 0) := hX7.n
              have hres := hX7.res
              replace hX7 := Lib.hid hX7
              clear hEn hN7 hrb hX6
              go_wp2_with (first
                | (refine wpList_load_row rfl 29 _ rfl gn rfl _ _ _ _ hrb7 Try.underlying29 rfl (by rw [nodRow_size hd6.out]; exact info_node) ?_)
                | (refine wpList_store_row rfl 29 _ _ rfl w.heap.size ((nodRow 2 A5 m5 c5 none 0 0 rk rd A6 m6 c6 none 0 0)) rfl rfl _ _ hres (by rw [nodRow_size hd6.out]; exact info_node) (by rw [nodRow_size hd6.out]; rfl) (nodRow_one _ _ _ _ _ _ _ _ _ _ _ _ _ _ _) ?_)
                | fail)
              refine bodyPost_ret (v := .tuple #[.agg ((nodRow 2 A5 m5 c5 none 0 0 rk rd A6 m6 c6 none 0 0)), .int .i64 0]) (results_row_tmp rfl _ _ w.heap.size _ ((nodRow 2 A5 m5 c5 none 0 0 rk rd A6 m6 c6 none 0 0)) _ _ _ rfl rfl (hres.row _) Try.underlying29 rfl (by rw [nodRow_size hd6.out]; exact info_node)) rfl ?_
              rw [hnq.out, hRn.out]
              exact ⟨below_row hX7.out.bel (Nat.le_refl _) _, _, rfl, hX7.out.nin.move (fun q h1 h2 => ⟨Nat.le_of_lt h1.1, setRow_other _ _ q _ (by omega)⟩) (by simp)⟩
            · have hRn := Lib.hid (show R = none by rw [hdx1, if_neg (fun h => he h.2)])
              have hne := str_ne he
              have hne2 : (Nd.enc X == b) = false := beq_eq_false_iff_ne.2 he
              replace he := Lib.hid he
              clear hdx1
              have hrb : Blk w6 gn 29 (nodRow 2 A5 m5 c5 none 0 0 rk rd A6 m6 c6 none 0 0) := hX6.out.n
              go_wp2_with (first
                | (refine wpList_load_row rfl 29 _ rfl gn rfl _ _ _ _ hrb Try.underlying29 rfl (by rw [nodRow_size hd6.out]; exact info_node) ?_)
                | fail)
              refine hEn.mono ?_
              rintro e w7 ⟨A7, m7, c7, rfl, hN7⟩
              have hX7 := hX6.out.step hN7.2.2
              have t1 := hN7.bytes.toStr (P := Try.prog) Try.underlying22 Try.underlying5 9 Try.underlying9
              have t2 := (hB.out.below hX7.bel).toStr (P := Try.prog) Try.underlying22 Try.underlying5 9 Try.underlying9
              replace hX7 := Lib.hid hX7
              clear hEn hN7 hrb hX6
              go_wp2_with (first
                | (refine wpList_store_row rfl 29 _ _ rfl w.heap.size noZ rfl rfl _ _ hX7.out.res info_node rfl noZ_one ?_)
                | fail)
              refine bodyPost_ret (v := .tuple #[.agg noZ, .int .i64 50]) (results_row_tmp rfl _ _ w.heap.size _ noZ _ _ _ rfl rfl (hX7.out.res.row _) Try.underlying29 rfl info_node) rfl ?_
              rw [hnq.out, hRn.out]
              exact ⟨below_row hX7.out.bel (Nat.le_refl _) _, rfl⟩
        | true =>
          replace hrt := Lib.hid (hrt.out.trans (if_pos hub))
          clear hub
          have hP6 : RndP w w1 (some ⟨g, o, none⟩) 2 c2 vs [p, o'] gn (nodRow 2 A5 m5 c5 none 0 0 rk rd A6 m6 c6 none 0 0) A5 m5 PL (w5.setRow gn (nodRow 2 A5 m5 c5 none 0 0 rk rd A6 m6 c6 none 0 0)) := ⟨hN6.out, hp6.out⟩
          have hX6 : ∀ W, RndP w w1 (some ⟨g, o, none⟩) 2 c2 vs [p, o'] gn (nodRow 2 A5 m5 c5 none 0 0 rk rd A6 m6 c6 none 0 0) A5 m5 PL W → DecX8 w gn (nodCells 1 A5 m5 c5 A4 m4 d4 0 Nd.z32 none 0 0 none 0 0) X (W.setRow gn (nodRow 1 A5 m5 c5 A4 m4 d4 0 Nd.z32 none 0 0 none 0 0)) := fun W h => by
            have hgg := h.i.gt
            have hdg := h.i.d.gt
            exact (h.i.row (nodCells 1 A5 m5 c5 A4 m4 d4 0 Nd.z32 none 0 0 none 0 0).toArray).dec ⟨A5, m5, c5, A4, m4, d4, none, 0, 0, none, 0, 0, [], by rw [hrt.out]; rfl, by rw [hrt.out]; rfl, ⟨by rw [hrt.out]; exact hm5.out, hO5c.out, hO5l.out, by rw [hrt.out]; exact h.p.move (fun q h1 h2 => ⟨h1, setRow_other _ _ q _ (by omega)⟩) (by simp)⟩, ⟨by rw [hrt.out]; exact hm4.out, hd4.out, hl4.out, by rw [hrt.out]; exact (hi4'.out W h.i.d.b1).move (fun q h1 h2 => ⟨⟨h1.1, by omega⟩, setRow_other _ _ q _ (by omega)⟩) (by simp)⟩, ⟨by rw [hrt.out]; rfl, Nat.le_refl _, Nat.zero_le _, ⟨by rw [hrt.out]; rfl, fun h => by omega⟩⟩, by rw [hrt.out]; rfl, Nat.le_refl _, Nat.zero_le _, ⟨rfl, fun h => by omega⟩, by rw [hrt.out]; exact All2.nil⟩ (fun q h => h)
          replace hP6 := Lib.hid hP6
          replace hX6 := Lib.hid hX6
          clear hp6 hi6' hN6
          go_upto_region 9 with (first
            | (refine wpList_built rfl 29 _ rfl (nodRow 2 A5 m5 c5 none 0 0 rk rd A6 m6 c6 none 0 0) (by rw [Array.toList_map]; exact built_ext 2 A5 m5 c5 rk rd hd6.out A6 m6 c6) ?_)
            | (refine wpList_store_row rfl 29 _ _ rfl gn (nodRow 2 A5 m5 c5 none 0 0 rk rd A6 m6 c6 none 0 0) rfl rfl _ _ hnr (by rw [nodRow_size hd6.out]; exact info_node) (by rw [nodRow_size hd6.out]; rfl) (nodRow_one _ _ _ _ _ _ _ _ _ _ _ _ _ _ _) ?_; refine list_at (RndP w w1 (some ⟨g, o, none⟩) 2 c2 vs [p, o'] gn (nodRow 2 A5 m5 c5 none 0 0 rk rd A6 m6 c6 none 0 0) A5 m5 PL) hP6.out ?_; clear hP6 hnr; intro w6 hP6; have k2 : w6.cell? ⟨w1.heap.size, 2, none⟩ = some (.slice (some ⟨g, o, none⟩) 2 c2) := hP6.i.d.it.cell 2; have k4 := (hcel.out w6 hP6.i.d.b1).2.1; have hnr := hP6.i.n; replace hX6 := Lib.hid (hX6.out w6 hP6); replace hP6 := Lib.hid hP6)
            | fail)
          go_upto_region 14 with (first
            | (refine wpList_store_row rfl 29 _ _ rfl gn (nodRow 1 A5 m5 c5 A4 m4 d4 0 Nd.z32 none 0 0 none 0 0) rfl rfl _ _ hnr (by rw [nodRow_size rfl]; exact info_node) (by rw [nodRow_size hd6.out]; rfl) (nodRow_one _ _ _ _ _ _ _ _ _ _ _ _ _ _ _) ?_; refine list_at (DecX8 w gn (nodCells 1 A5 m5 c5 A4 m4 d4 0 Nd.z32 none 0 0 none 0 0) X) hX6.out ?_; clear hX6 hnr hP6 k2 k4; intro w8 hX6; replace hX6 := Lib.hid hX6)
            | fail)
          have hEn := ref_Encode05 (.agg (nodCells 1 A5 m5 c5 A4 m4 d4 0 Nd.z32 none 0 0 none 0 0).toArray) X w8 (hX6.out.nin.move (S' := fun q => q < w8.heap.size) (fun q h1 h2 => ⟨h2, rfl⟩) (Nat.le_refl _)) (fun r hr _ _ => ih.out _ (hshort.out r hr))
          rw [show (nodCells 1 A5 m5 c5 A4 m4 d4 0 Nd.z32 none 0 0 none 0 0).toArray = (nodRow 1 A5 m5 c5 A4 m4 d4 0 Nd.z32 none 0 0 none 0 0) from rfl] at hEn
          have hdx1 := hdx.out
          cases hrx : Nd.right Nd.dec X with
          | false =>
            rw [hrx] at hEn hdx1
            have hRn := Lib.hid (show R = none by rw [hdx1]; simp)
            simp only [Bool.false_eq_true, if_false] at hEn
            clear hdx1 hrx
            have hrb : Blk w8 gn 29 (nodRow 1 A5 m5 c5 A4 m4 d4 0 Nd.z32 none 0 0 none 0 0) := hX6.out.n
            go_wp2_with (first
              | (refine wpList_load_row rfl 29 _ rfl gn rfl _ _ _ _ hrb Try.underlying29 rfl (by rw [nodRow_size rfl]; exact info_node) ?_)
              | fail)
            refine hEn.mono ?_
            rintro e w7 ⟨A7, m7, c7, rfl, -, -, hb7⟩
            have hX7 := Lib.hid (hX6.out.step hb7)
            clear hEn hb7 hrb hX6
            go_wp2_with (first
              | (refine wpList_store_row rfl 29 _ _ rfl w.heap.size noZ rfl rfl _ _ hX7.out.res info_node rfl noZ_one ?_)
              | fail)
            refine bodyPost_ret (v := .tuple #[.agg noZ, .int .i64 50]) (results_row_tmp rfl _ _ w.heap.size _ noZ _ _ _ rfl rfl (hX7.out.res.row _) Try.underlying29 rfl info_node) rfl ?_
            rw [hnq.out, hRn.out]
            exact ⟨below_row hX7.out.bel (Nat.le_refl _) _, rfl⟩
          | true =>
            rw [hrx] at hEn hdx1
            simp only [if_true] at hEn
            clear hrx
            by_cases he : Nd.enc X = b
            · have hRn := Lib.hid (show R = some X by rw [hdx1, if_pos ⟨rfl, he⟩])
              rw [he] at hEn
              replace he := Lib.hid he
              clear hdx1
              have hrb : Blk w8 gn 29 (nodRow 1 A5 m5 c5 A4 m4 d4 0 Nd.z32 none 0 0 none 0 0) := hX6.out.n
              go_wp2_with (first
                | (refine wpList_load_row rfl 29 _ rfl gn rfl _ _ _ _ hrb Try.underlying29 rfl (by rw [nodRow_size rfl]; exact info_node) ?_)
                | fail)
              refine hEn.mono ?_
              rintro e w7 ⟨A7, m7, c7, rfl, hN7⟩
              have hX7 := hX6.out.step hN7.2.2
              have t1 := hN7.bytes.toStr (P := Try.prog) Try.underlying22 Try.underlying5 9 Try.underlying9
              have t2 := (hB.out.below hX7.bel).toStr (P := Try.prog) Try.underlying22 Try.underlying5 9 Try.underlying9
              have hrb7 : Blk w7 gn 29 (nodRow 1 A5 m5 c5 A4 m4 d4 0 Nd.z32 none 0 0 none 0 0) := hX7.n
              have hres := hX7.res
              replace hX7 := Lib.hid hX7
              clear hEn hN7 hrb hX6
              go_wp2_with (first
                | (refine wpList_load_row rfl 29 _ rfl gn rfl _ _ _ _ hrb7 Try.underlying29 rfl (by rw [nodRow_size rfl]; exact info_node) ?_)
                | (refine wpList_store_row rfl 29 _ _ rfl w.heap.size ((nodRow 1 A5 m5 c5 A4 m4 d4 0 Nd.z32 none 0 0 none 0 0)) rfl rfl _ _ hres (by rw [nodRow_size rfl]; exact info_node) (by rw [nodRow_size rfl]; rfl) (nodRow_one _ _ _ _ _ _ _ _ _ _ _ _ _ _ _) ?_)
                | fail)
              refine bodyPost_ret (v := .tuple #[.agg ((nodRow 1 A5 m5 c5 A4 m4 d4 0 Nd.z32 none 0 0 none 0 0)), .int .i64 0]) (results_row_tmp rfl _ _ w.heap.size _ ((nodRow 1 A5 m5 c5 A4 m4 d4 0 Nd.z32 none 0 0 none 0 0)) _ _ _ rfl rfl (hres.row _) Try.underlying29 rfl (by rw [nodRow_size rfl]; exact info_node)) rfl ?_
              rw [hnq.out, hRn.out]
              exact ⟨below_row hX7.out.bel (Nat.le_refl _) _, _, rfl, hX7.out.nin.move (fun q h1 h2 => ⟨Nat.le_of_lt h1.1, setRow_other _ _ q _ (by omega)⟩) (by simp)⟩
            · have hRn := Lib.hid (show R = none by rw [hdx1, if_neg (fun h => he h.2)])
              have hne := str_ne he
              have hne2 : (Nd.enc X == b) = false := beq_eq_false_iff_ne.2 he
              replace he := Lib.hid he
              clear hdx1
              have hrb : Blk w8 gn 29 (nodRow 1 A5 m5 c5 A4 m4 d4 0 Nd.z32 none 0 0 none 0 0) := hX6.out.n
              go_wp2_with (first
                | (refine wpList_load_row rfl 29 _ rfl gn rfl _ _ _ _ hrb Try.underlying29 rfl (by rw [nodRow_size rfl]; exact info_node) ?_)
                | fail)
              refine hEn.mono ?_
              rintro e w7 ⟨A7, m7, c7, rfl, hN7⟩
              have hX7 := hX6.out.step hN7.2.2
              have t1 := hN7.bytes.toStr (P := Try.prog) Try.underlying22 Try.underlying5 9 Try.underlying9
              have t2 := (hB.out.below hX7.bel).toStr (P := Try.prog) Try.underlying22 Try.underlying5 9 Try.underlying9
              replace hX7 := Lib.hid hX7
              clear hEn hN7 hrb hX6
              go_wp2_with (first
                | (refine wpList_store_row rfl 29 _ _ rfl w.heap.size noZ rfl rfl _ _ hX7.out.res info_node rfl noZ_one ?_)
                | fail)
              refine bodyPost_ret (v := .tuple #[.agg noZ, .int .i64 50]) (results_row_tmp rfl _ _ w.heap.size _ noZ _ _ _ rfl rfl (hX7.out.res.row _) Try.underlying29 rfl info_node) rfl ?_
              rw [hnq.out, hRn.out]
              exact ⟨below_row hX7.out.bel (Nat.le_refl _) _, rfl⟩
      by_cases h17 : n2 = 17
      · subst h17
        have hdx := Nd.rdec_many hx.out hn2.symm
        rw [hD.out] at hdx
        obtain ⟨g, o, a0, b0, z0, rfl, hSg, hg3, -, -, -⟩ := items_at hin hall hn2 0 (by omega)
        obtain ⟨A4, m4, d4, hc4, hm4, hd4, hl4, hi4⟩ := slot_in hin hall hn2 16 (by omega)
        have hcel : ∀ W, Below w1.heap.size w1 W → W.cell? ⟨g, o + 48 + 1, none⟩ = some (.slice A4 m4 d4) := fun W hb => (hb.cell (p := ⟨g, o + 48 + 1, none⟩) hg3).trans hc4
        have hrs := fun (W : World) (h : DecI w #[.bool true, .slice none 0 0, .slice (some ⟨g, o, none⟩) 17 c2] w1 W) => (⟨rnd_stored h hin hall hS0.out (nodRow 3 none 0 0 A4 m4 d4 0 Nd.z32 none 0 0 none 0 0), RfL.start⟩ : RndK w w1 (some ⟨g, o, none⟩) 17 c2 vs xs W.heap.size A4 m4 d4 none 0 0 [] [] _)
        have hshort := Lib.hid (Nd.rmany_short (z := xs[16]'(by omega)) hx.out (fun x (hx : x ∈ xs.take 16) => List.mem_of_mem_take hx))
        have hwf := Nd.rmany_wf (xs.take 16) (xs[16]'(by omega))
        have hi4' : ∀ W, Below w1.heap.size w1 W → InS (fun q => w.heap.size < q ∧ q < w1.heap.size) W 1 A4 m4 (bv (bytesOf (xs[16]'(by omega)))) := fun W hb => hi4.move (fun q h1 h2 => ⟨⟨hS0.out q h1, h2⟩, hb.block q h2⟩) hb.size
        have hrt : Nd.rmany (xs.take 16) (xs[16]'(by omega)) = ⟨3, [], bytesOf (xs[16]'(by omega)), Nd.rf0, (xs.take 16).map Nd.rref⟩ := rfl
        have hst' : ∀ j (h : j < xs.length), (xs.take (j + 1)).map Nd.rref = (xs.take j).map Nd.rref ++ [Nd.rref xs[j]] := by
          intro j h
          rw [List.take_succ_eq_append_getElem h, List.map_append]; rfl
        generalize bytesOf (xs[16]'(by omega)) = bz at *
        generalize Nd.rmany (xs.take 16) (xs[16]'(by omega)) = X at *
        replace hi4' := Lib.hid hi4'
        replace hcel := Lib.hid hcel
        replace hrs := Lib.hid hrs
        replace hrt := Lib.hid hrt
        replace hdx := Lib.hid hdx
        replace hm4 := Lib.hid hm4
        replace hd4 := Lib.hid hd4
        replace hl4 := Lib.hid hl4
        replace hst' := Lib.hid hst'
        replace hn2 := Lib.hid hn2
        clear hin hall hi4 hc4 hD hx
        go_wp2_with (first
          | (refine wpList_store_row rfl 48 _ _ rfl w1.heap.size #[.bool true, .slice none 0 0, .slice (some ⟨g, o, none⟩) 17 c2] rfl rfl _ _ (Blk.new w1 48 rowZ) info_item3 rfl (by simp [Value.oneCell']) ?_; refine list_at (DecI w #[.bool true, .slice none 0 0, .slice (some ⟨g, o, none⟩) 17 c2] w1) hst.out ?_; intro w2 hI2; have k2 : w2.cell? ⟨w1.heap.size, 2, none⟩ = some (.slice (some ⟨g, o, none⟩) 17 c2) := hI2.it.cell 2; have k4 := hcel.out w2 hI2.b1; have hst2 := Lib.hid (hrs.out w2 hI2); clear hst; clear hrs)
          | (refine wpList_store_row rfl 29 _ _ rfl w2.heap.size (nodRow 3 none 0 0 A4 m4 d4 0 Nd.z32 none 0 0 none 0 0) rfl rfl _ _ (Blk.new w2 29 noZ) (by rw [nodRow_size rfl]; exact info_node) (by rw [nodRow_size rfl]; rfl) (nodRow_one _ _ _ _ _ _ _ _ _ _ _ _ _ _ _) ?_; refine list_at (RndK w w1 (some ⟨g, o, none⟩) 17 c2 vs xs w2.heap.size A4 m4 d4 none 0 0 [] []) hst2.out ?_; clear k2 k4 hst2; generalize w2.heap.size = gn at *; intro w3 hN; have k2 : w3.cell? ⟨w1.heap.size, 2, none⟩ = some (.slice (some ⟨g, o, none⟩) 17 c2) := hN.i.d.it.cell 2; replace hN := Lib.hid hN)
          | fail)
        clear k2
        go_loopw [10] (fun i wr => ∃ (j : Nat) (A' : Option Addr) (c' : Nat) (us : List Value), j ≤ 16 ∧ i = .int .i64 j ∧ RndK w w1 (some ⟨g, o, none⟩) 17 c2 vs xs gn A4 m4 d4 A' j c' us ((xs.take j).map Nd.rref) wr) (fun i _ => 16 - (intOf i).toNat)
        case atStart => exact ⟨0, none, 0, [], by omega, rfl, hN.out⟩
        case round =>
          clear hN
          obtain ⟨j, A', c', us, hj, rfl, hKr⟩ := hrel
          by_cases hlt : j < 16
          · have hlt' : (j : Int) < 16 := by omega
            have hlt17 : (j : Int) < 17 := by omega
            have hjx : j < xs.length := by rw [← hn2.out]; omega
            obtain ⟨g', o', a1, b1, z1, he, hSg1, hg1, hr1, hone1, hs1⟩ := items_at hKr.i.its hKr.i.all hn2.out j hjx
            injection he with he
            injection he with he1 he2
            subst he1 he2
            have hr1' : wr.rangeAt g (o + j * 3) [a1, b1, z1] := by rw [Nat.mul_comm j 3]; exact hr1
            have hst1 := Lib.hid (hst'.out j hjx)
            have hcall : ∀ w2, Below wr.heap.size wr w2 → Calls Try.prog 38 #[.agg #[a1, b1, z1]] w2 (RrfQ xs[j] w2) := fun w2 hb => ref_ref05 (fun q => q < wr.heap.size) (.agg #[a1, b1, z1]) xs[j] w2 (hs1.move _ _ _ (fun q h1 h2 => ⟨h2, hb.block q h2⟩) hb.size) (fun q h => Nat.lt_of_lt_of_le h hb.size) (hfit.out _ (List.getElem_mem hjx)) (hlim.out _ (List.getElem_mem hjx))
            have hR6 : RndR w1 gn (.slice A' j c') (.slice (some ⟨g, o, none⟩) 17 c2) g (o + j * 3) [a1, b1, z1] wr.drew := ⟨(hKr.i.n.cell 37).trans (nodRow_last rfl), hKr.i.d.it.cell 2, hr1'⟩
            unfold RrfQ at hcall
            generalize Nd.rref xs[j] = RR at *
            have hgw : g < wr.heap.size := hg1
            clear hs1 hr1 hr1' hone1
            replace hcall := Lib.hid hcall
            replace hKr := Lib.hid hKr
            replace hR6 := Lib.hid hR6
            go_wp2_with fail
            refine wp_region_M (M := [11]) (S := (RndR w1 gn (.slice A' j c') (.slice (some ⟨g, o, none⟩) 17 c2) g (o + j * 3) [a1, b1, z1])) (by kernel_rfl) (by exact hR6.out) (fun hS => ?_)
            (refine mPure (i := 0) (v := ?v1) rfl (by kernel_rfl) (fun _ _ _ h => h) (Or.inl ⟨by rfl, ?y1⟩) (.inr hS) ?r1; (case y1 => (intro W hW; clear hW; go_simp; (try with_reducible rfl); done)); try simp only [Act.put, List.setIfInBounds_toArray, List.set_cons_zero, List.set_cons_succ])
            (refine mTake (i := 1) (v := ?v2) rfl (by kernel_rfl) (fun _ _ _ h => h) (Or.inl ⟨by rfl, ?y2⟩) hS ?r2; (case y2 => (intro W hW; ((have g := hW.c37; go_simp)); (try with_reducible rfl); done)); try simp only [Act.put, List.setIfInBounds_toArray, List.set_cons_zero, List.set_cons_succ])
            (refine mPure (i := 2) (v := ?v3) rfl (by kernel_rfl) (fun _ _ _ h => h) (Or.inl ⟨by rfl, ?y3⟩) (.inr hS) ?r3; (case y3 => (intro W hW; clear hW; go_simp; (try with_reducible rfl); done)); try simp only [Act.put, List.setIfInBounds_toArray, List.set_cons_zero, List.set_cons_succ])
            (refine mTake (i := 3) (v := ?v4) rfl (by kernel_rfl) (fun _ _ _ h => h) (Or.inl ⟨by rfl, ?y4⟩) hS ?r4; (case y4 => (intro W hW; ((have g := hW.c2; go_simp)); (try with_reducible rfl); done)); try simp only [Act.put, List.setIfInBounds_toArray, List.set_cons_zero, List.set_cons_succ])
            (refine mPure (i := 4) (v := ?v5) rfl (by kernel_rfl) (fun _ _ _ h => h) (Or.inl ⟨by rfl, ?y5⟩) (.inr hS) ?r5; (case y5 => (intro W hW; clear hW; go_simp; (try with_reducible rfl); done)); try simp only [Act.put, List.setIfInBounds_toArray, List.set_cons_zero, List.set_cons_succ])
            (refine mPure (i := 5) (v := ?v6) rfl (by kernel_rfl) (fun _ _ _ h => h) (Or.inl ⟨by rfl, ?y6⟩) (.inr hS) ?r6; (case y6 => (intro W hW; clear hW; go_simp; (try with_reducible rfl); done)); try simp only [Act.put, List.setIfInBounds_toArray, List.set_cons_zero, List.set_cons_succ])
            (refine mTake (i := 6) rfl (by kernel_rfl) (fun _ _ _ h => h) (yieldsIf_load_mid (by rfl) _ _ rfl _ _ rfl [a1, b1, z1] _ (fun W hW => (by exact hW.r)) Try.underlying48 rfl (by exact info_item3)) hS ?_; try simp only [Act.put, List.setIfInBounds_toArray, List.set_cons_zero, List.set_cons_succ])
            (refine mOne (i := 7) rfl (by kernel_rfl) (fun K hK => ?_))
            rw [if_pos (by rfl)]
            go_simp
            refine (hcall.out wr.drew ((Below.refl _ _).drew)).mono ?_
            rintro e w7 ⟨hb7, v7, rfl, A7, m7, c7, rfl, hd7, hm7, hl7, hx7, hi7⟩
            obtain ⟨rk, rd, ri⟩ := RR
            simp only at hd7 hm7 hi7
            have hb67 : Below wr.heap.size wr w7 := ((Below.refl _ _).drew).trans hb7
            have hK7 := hKr.out.step hb67
            have how := hKr.out.lst.own.lt
            have hgnw := hKr.out.i.n.lt
            have hwsz : wr.heap.size ≤ w7.heap.size := hb67.size
            have hsv7 : RefIn (Apart (fun _ => False) (gn + 1) (.slice A' j c')) (w7.alloc (.cells (refRow rk rd A7 m7 c7) 26)) (.agg (refRow rk rd A7 m7 c7)) ⟨rk, rd, ri⟩ :=
              ⟨A7, m7, c7, rfl, hd7, hm7, hl7, hx7, hi7.move (fun q h1 h2 => ⟨⟨.inr (by have h1' : wr.heap.size ≤ q := h1; omega), fun e => by have := (how _ e).2; have h1' : wr.heap.size ≤ q := h1; omega⟩, Below.heap_alloc w7 _ q h2⟩) (by simp)⟩
            have hgl := hK7.i.n.lt
            have hw1l := hK7.i.d.it.lt
            have hR7 := hR6.out.step hb7 (by exact hgnw) (by exact hKr.out.i.d.it.lt) (by exact hgw)
            have hR8 := hR7.step ((Below.refl _ _).alloc (Nat.le_refl _) (.cells (refRow rk rd A7 m7 c7) 26)) hgl hw1l (by omega)
            clear hcall
            (have hS := (by exact hR7); refine hK.out _ _ (.inr hS) ?_; clear hK K; try simp only [Act.put, List.setIfInBounds_toArray, List.set_cons_zero, List.set_cons_succ])
            (refine mOne (i := 8) rfl (by kernel_rfl) (fun K hK => ?_))
            rw [if_pos (by rfl)]
            refine wp_build_ref _ rfl rk rd A7 m7 c7 hd7 rfl ?_
            (have hS := (by exact hR8); refine hK.out _ _ (.inr hS) ?_; clear hK K; try simp only [Act.put, List.setIfInBounds_toArray, List.set_cons_zero, List.set_cons_succ])
            (refine mOne (i := 9) rfl (by kernel_rfl) (fun K hK => ?_))
            rw [if_pos (by rfl)]
            refine wp_append_ref _ _ rfl (hK7.lst.below ((Below.refl _ _).alloc (Nat.le_refl _) _)) (by simp; omega) rfl rfl (by simp) hd7 (Blk.new w7 26 (refRow rk rd A7 m7 c7)) hsv7 (by omega) ?_
            intro A9 c9 w9 hL9 hg9
            have hn := hK7.next hL9 hg9
            have hlow : ∀ q, q ≤ gn → some q ≠ (Value.slice A' j c').ownBlock := fun q hq e => by have := (how q e.symm).1; omega
            have hgt := hK7.i.gt
            have hgg : g < w1.heap.size := hSg1.2
            have hR9 := hR8.to hg9 (by simp; omega) (by simp; omega) (by simp; omega) (hlow _ (Nat.le_refl _)) (hlow _ (by omega)) (hlow _ (by omega))
            have gb := (hn.1.cell 37).trans (nodRow_last rfl)
            have fb := hn.1.frozen 37
            replace hn := Lib.hid hn.2
            (have hS := (by exact hR9); refine hK.out _ _ (.inr hS) ?_; clear hK K; try simp only [Act.put, List.setIfInBounds_toArray, List.set_cons_zero, List.set_cons_succ])
            (refine mPure (i := 10) (v := ?v7) rfl (by kernel_rfl) (fun _ _ _ h => h) (Or.inl ⟨by rfl, ?y7⟩) (.inr hS) ?r7; (case y7 => (intro W hW; clear hW; go_simp; (try with_reducible rfl); done)); try simp only [Act.put, List.setIfInBounds_toArray, List.set_cons_zero, List.set_cons_succ])
            (refine mOne (i := 11) rfl (by kernel_rfl) (fun K hK => ?_))
            go_simp
            (refine hK.out _ _ (.inl ⟨11, by simp, by kernel_rfl⟩) ?_; clear hK K; try simp only [Act.put, List.setIfInBounds_toArray, List.set_cons_zero, List.set_cons_succ])
            refine wpAnyM_done (by kernel_rfl) ?_ _
            have hI9 : RndK w w1 (some ⟨g, o, none⟩) 17 c2 vs xs gn A4 m4 d4 A9 (j + 1) c9 (us ++ [.agg (refRow rk rd A7 m7 c7)]) ((xs.take (j + 1)).map Nd.rref) (w9.setCell ⟨gn, 37, none⟩ (.slice A9 (j + 1) c9)) := by rw [hst1.out]; exact hn.out
            replace hI9 := Lib.hid hI9
            clear hn gb fb hR7 hR8 hR9 hL9 hg9 hsv7 hK7 hb7 hb67 hlow hS
            go_wp2_with fail
            refine ⟨⟨j + 1, A9, c9, _, by omega, by go_num, hI9.out⟩, ?_⟩
            simp [intOf]; omega
          · obtain rfl : j = 16 := by omega
            have hlt' : ¬ ((16 : Nat) : Int) < 16 := by omega
            have hO := Own.of_row hKr.lst.own
            have hgg := hKr.i.gt
            have hdg := hKr.i.d.gt
            have hkl := hKr.lst.len
            have hX6 : DecX8 w gn (nodCells 3 none 0 0 A4 m4 d4 0 Nd.z32 none 0 0 A' 16 c') X wr :=
              hKr.i.dec (cs := nodCells 3 none 0 0 A4 m4 d4 0 Nd.z32 none 0 0 A' 16 c') ⟨none, 0, 0, A4, m4, d4, none, 0, 0, A', 16, c', us, by rw [hrt.out]; rfl, by rw [hrt.out]; rfl, ⟨by rw [hrt.out]; rfl, Nat.le_refl _, Nat.zero_le _, ⟨by rw [hrt.out]; rfl, fun h => by omega⟩⟩, ⟨by rw [hrt.out]; exact hm4.out, hd4.out, hl4.out, by rw [hrt.out]; exact (hi4'.out wr hKr.i.d.b1).move (fun q h1 h2 => ⟨⟨h1.1, by omega⟩, rfl⟩) (Nat.le_refl _)⟩, ⟨by rw [hrt.out]; rfl, Nat.le_refl _, Nat.zero_le _, ⟨by rw [hrt.out]; rfl, fun h => by omega⟩⟩, by rw [hrt.out]; exact hkl, hO.cap, hO.lim, (InS.of_own hO).move (fun q h1 h2 => ⟨⟨by omega, by omega⟩, rfl⟩) (Nat.le_refl _), by rw [hrt.out]; exact hKr.lst.all.imp fun v x hx => hx.move (fun q h1 h2 => ⟨by rcases h1.1 with h | h; exact h.elim; exact ⟨by omega, by omega⟩, rfl⟩) (Nat.le_refl _)⟩ (fun q h => h)
            replace hX6 := Lib.hid hX6
            replace hkl := Lib.hid hkl
            clear hKr hO
            have hEn := ref_Encode05 (.agg (nodCells 3 none 0 0 A4 m4 d4 0 Nd.z32 none 0 0 A' 16 c').toArray) X wr (hX6.out.nin.move (S' := fun q => q < wr.heap.size) (fun q h1 h2 => ⟨h2, rfl⟩) (Nat.le_refl _)) (fun r hr _ _ => ih.out _ (hshort.out r hr))
            rw [show (nodCells 3 none 0 0 A4 m4 d4 0 Nd.z32 none 0 0 A' 16 c').toArray = (nodRow 3 none 0 0 A4 m4 d4 0 Nd.z32 none 0 0 A' 16 c') from rfl] at hEn
            have hdx1 := hdx.out
            cases hrx : Nd.right Nd.dec X with
            | false =>
              rw [hrx] at hEn hdx1
              have hRn := Lib.hid (show R = none by rw [hdx1]; simp)
              simp only [Bool.false_eq_true, if_false] at hEn
              clear hdx1 hrx
              have hrb : Blk wr gn 29 (nodRow 3 none 0 0 A4 m4 d4 0 Nd.z32 none 0 0 A' 16 c') := hX6.out.n
              go_wp2_with (first
                | (refine wpList_load_row rfl 29 _ rfl gn rfl _ _ _ _ hrb Try.underlying29 rfl (by rw [nodRow_size rfl]; exact info_node) ?_)
                | fail)
              refine hEn.mono ?_
              rintro e w7 ⟨A7, m7, c7, rfl, -, -, hb7⟩
              have hX7 := Lib.hid (hX6.out.step hb7)
              clear hEn hb7 hrb hX6
              go_wp2_with (first
                | (refine wpList_store_row rfl 29 _ _ rfl w.heap.size noZ rfl rfl _ _ hX7.out.res info_node rfl noZ_one ?_)
                | fail)
              refine bodyPost_ret (v := .tuple #[.agg noZ, .int .i64 50]) (results_row_tmp rfl _ _ w.heap.size _ noZ _ _ _ rfl rfl (hX7.out.res.row _) Try.underlying29 rfl info_node) rfl ?_
              rw [hnq.out, hRn.out]
              exact ⟨below_row hX7.out.bel (Nat.le_refl _) _, rfl⟩
            | true =>
              rw [hrx] at hEn hdx1
              simp only [if_true] at hEn
              clear hrx
              by_cases he : Nd.enc X = b
              · have hRn := Lib.hid (show R = some X by rw [hdx1, if_pos ⟨rfl, he⟩])
                rw [he] at hEn
                replace he := Lib.hid he
                clear hdx1
                have hrb : Blk wr gn 29 (nodRow 3 none 0 0 A4 m4 d4 0 Nd.z32 none 0 0 A' 16 c') := hX6.out.n
                go_wp2_with (first
                  | (refine wpList_load_row rfl 29 _ rfl gn rfl _ _ _ _ hrb Try.underlying29 rfl (by rw [nodRow_size rfl]; exact info_node) ?_)
                  | fail)
                refine hEn.mono ?_
                rintro e w7 ⟨A7, m7, c7, rfl, hN7⟩
                have hX7 := hX6.out.step hN7.2.2
                have t1 := hN7.bytes.toStr (P := Try.prog) Try.underlying22 Try.underlying5 9 Try.underlying9
                have t2 := (hB.out.below hX7.bel).toStr (P := Try.prog) Try.underlying22 Try.underlying5 9 Try.underlying9
                have hrb7 : Blk w7 gn 29 (nodRow 3 none 0 0 A4 m4 d4 0 Nd.z32 none 0 0 A' 16 c') := hX7.n
                have hres := hX7.res
                replace hX7 := Lib.hid hX7
                clear hEn hN7 hrb hX6
                go_wp2_with (first
                  | (refine wpList_load_row rfl 29 _ rfl gn rfl _ _ _ _ hrb7 Try.underlying29 rfl (by rw [nodRow_size rfl]; exact info_node) ?_)
                  | (refine wpList_store_row rfl 29 _ _ rfl w.heap.size ((nodRow 3 none 0 0 A4 m4 d4 0 Nd.z32 none 0 0 A' 16 c')) rfl rfl _ _ hres (by rw [nodRow_size rfl]; exact info_node) (by rw [nodRow_size rfl]; rfl) (nodRow_one _ _ _ _ _ _ _ _ _ _ _ _ _ _ _) ?_)
                  | fail)
                refine bodyPost_ret (v := .tuple #[.agg ((nodRow 3 none 0 0 A4 m4 d4 0 Nd.z32 none 0 0 A' 16 c')), .int .i64 0]) (results_row_tmp rfl _ _ w.heap.size _ ((nodRow 3 none 0 0 A4 m4 d4 0 Nd.z32 none 0 0 A' 16 c')) _ _ _ rfl rfl (hres.row _) Try.underlying29 rfl (by rw [nodRow_size rfl]; exact info_node)) rfl ?_
                rw [hnq.out, hRn.out]
                exact ⟨below_row hX7.out.bel (Nat.le_refl _) _, _, rfl, hX7.out.nin.move (fun q h1 h2 => ⟨Nat.le_of_lt h1.1, setRow_other _ _ q _ (by omega)⟩) (by simp)⟩
              · have hRn := Lib.hid (show R = none by rw [hdx1, if_neg (fun h => he h.2)])
                have hne := str_ne he
                have hne2 : (Nd.enc X == b) = false := beq_eq_false_iff_ne.2 he
                replace he := Lib.hid he
                clear hdx1
                have hrb : Blk wr gn 29 (nodRow 3 none 0 0 A4 m4 d4 0 Nd.z32 none 0 0 A' 16 c') := hX6.out.n
                go_wp2_with (first
                  | (refine wpList_load_row rfl 29 _ rfl gn rfl _ _ _ _ hrb Try.underlying29 rfl (by rw [nodRow_size rfl]; exact info_node) ?_)
                  | fail)
                refine hEn.mono ?_
                rintro e w7 ⟨A7, m7, c7, rfl, hN7⟩
                have hX7 := hX6.out.step hN7.2.2
                have t1 := hN7.bytes.toStr (P := Try.prog) Try.underlying22 Try.underlying5 9 Try.underlying9
                have t2 := (hB.out.below hX7.bel).toStr (P := Try.prog) Try.underlying22 Try.underlying5 9 Try.underlying9
                replace hX7 := Lib.hid hX7
                clear hEn hN7 hrb hX6
                go_wp2_with (first
                  | (refine wpList_store_row rfl 29 _ _ rfl w.heap.size noZ rfl rfl _ _ hX7.out.res info_node rfl noZ_one ?_)
                  | fail)
                refine bodyPost_ret (v := .tuple #[.agg noZ, .int .i64 50]) (results_row_tmp rfl _ _ w.heap.size _ noZ _ _ _ rfl rfl (hX7.out.res.row _) Try.underlying29 rfl info_node) rfl ?_
                rw [hnq.out, hRn.out]
                exact ⟨below_row hX7.out.bel (Nat.le_refl _) _, rfl⟩
      have h2' : ¬ (n2 : Int) = 2 := by omega
      have h17' : ¬ (n2 : Int) = 17 := by omega
      have hb2 : ((n2 : Int) != 2) = true := bne_iff_ne.2 h2'
      have hb17 : ((n2 : Int) != 17) = true := bne_iff_ne.2 h17'
      have hR := Lib.hid (show R = none by rw [← hD.out]; exact Nd.rdec_else hx.out (by rw [← hn2]; exact h2) (by rw [← hn2]; exact h17))
      replace hn2 := Lib.hid hn2
      clear hD hx hin hall
      go_wp2_with (first
        | (refine wpList_store_row rfl 48 _ _ rfl w1.heap.size #[.bool true, .slice none 0 0, .slice A2 n2 c2] rfl rfl _ _ (Blk.new w1 48 rowZ) info_item3 rfl (by simp [Value.oneCell']) ?_; refine list_at (DecI w #[.bool true, .slice none 0 0, .slice A2 n2 c2] w1) hst.out ?_; intro w2 hI2; have k2 : w2.cell? ⟨w1.heap.size, 2, none⟩ = some (.slice A2 n2 c2) := hI2.it.cell 2; replace hI2 := Lib.hid hI2)
        | (refine wpList_store_row rfl 29 _ _ rfl w.heap.size noZ rfl rfl _ _ hI2.out.res info_node rfl noZ_one ?_)
        | fail)
      refine bodyPost_ret (v := .tuple #[.agg noZ, .int .i64 50]) (results_row_tmp rfl _ _ w.heap.size _ noZ _ _ _ rfl rfl (hI2.out.res.row _) Try.underlying29 rfl info_node) rfl ?_
      rw [hnq.out, hR.out]
      exact ⟨below_row hI2.out.bel (Nat.le_refl _) _, rfl⟩
/-- the reference's Decode -/
theorem ref_Decode05 (b : List UInt8) : RodC b := by
  obtain ⟨n, hn⟩ : ∃ n, b.length = n := ⟨_, rfl⟩
  induction n using Nat.strongRecOn generalizing b with
  | _ n ih => exact ref_DecodeI b fun b' h => ih _ (by omega) b' rfl
end Go.Proofs.Yteknhmhmepnfjaa

/-
  The laws of chapter 05: NodeRights.
-/
namespace Go.Proofs.Yteknhmhmepnfjaa
open Go.RowKit

set_option maxHeartbeats 1000000 in
set_option maxRecDepth 100000 in
theorem law_NodeRights (v : Value) (x : Nd.No) (w : World) (hv : NodIn (fun q => q < w.heap.size) w v x) (hbig : Nd.Big x) : Calls Try.prog 3 #[v] w (PostT w) := by
  obtain ⟨cs, rfl, hcl, hone, -⟩ := hv.row
  have hV := Lib.hid (nodV_boxed hv)
  have hcs := Lib.hid (show cs.toArray.size = 38 by simp [hcl])
  have hC := law_copied _ x _ (hV.out.nin.move (S' := fun q => q < (w.alloc (.cells cs.toArray 29)).heap.size) (fun q h1 h2 => ⟨h2, rfl⟩) (Nat.le_refl _)) hbig
  have hR := Lib.hid (fun (W wr : World) (cs : List Value) (h : NodV wr cs x W) => node_Right _ _ x W h.nin h.lim (fun r _ _ => node_Decode r.inl))
  have hR2 := Lib.hid (fun (W wr : World) (cs : List Value) (h : NodV wr cs x W) => ref_Right05 _ _ x W h.nin h.lim (fun r _ _ _ => ref_Decode05 r.inl))
  have hS := Lib.hid (fun (W wr wr' : World) (cs cs' : List Value) (h : NodV wr cs x W) (h' : NodV wr' cs' x W) => same_self _ _ _ _ x W h.nin h'.nin h.lim h'.lim)
  generalize Nd.right Nd.dec x = RB at *
  replace hcl := Lib.hid hcl
  clear hv hone hbig
  go_enter Try.func3, Try.ntmps3
  go_wp2_with (first
    | (refine wpList_load_row rfl 29 _ rfl w.heap.size rfl _ _ _ _ hV.out.it Try.underlying29 rfl (by rw [hcs.out]; exact info_node) ?_)
    | fail)
  refine hC.mono ?_
  rintro e w1 ⟨⟨v1, rfl, hn1⟩, hb1⟩
  obtain ⟨cs1, rfl, hcl1, hone1, -⟩ := hn1.row
  have hV1 := Lib.hid (hV.out.step hb1)
  have hst := Lib.hid (nodV_stored hn1)
  have hcs1 := Lib.hid (show cs1.toArray.size = 38 by simp [hcl1])
  have hone1' := Lib.hid (show cs1.toArray.all (·.oneCell') = true by simpa using hone1)
  replace hcl1 := Lib.hid hcl1
  clear hC hb1 hV hone1 hn1
  go_wp2_with (first
    | (refine wpList_store_row rfl 29 _ _ rfl w1.heap.size cs1.toArray rfl rfl _ _ (Blk.new w1 29 noZ) (by rw [hcs1.out]; exact info_node) (by rw [hcs1.out]; rfl) hone1'.out ?_; refine list_at (NodV w1 cs1 x) hst.out ?_; intro w2 hU2; have hV2 := Lib.hid (hV1.out.step hU2.bel); replace hU2 := Lib.hid hU2)
    | (refine wpList_load_row rfl 29 _ rfl w1.heap.size rfl _ _ _ _ hU2.out.it Try.underlying29 rfl (by rw [hcs1.out]; exact info_node) ?_)
    | fail)
  refine (hR.out _ _ _ hU2.out).mono ?_
  rintro e w3 ⟨rfl, hb3⟩
  have hV3 := Lib.hid (hV2.out.step hb3)
  have hU3 := Lib.hid (hU2.out.step hb3)
  clear hb3 hV2 hU2 hV1 hst
  go_wp2_with fail
  refine (law05_alive w3).mono ?_
  rintro e w4 ⟨rfl, hb4⟩
  have hV4 := Lib.hid (hV3.out.step hb4)
  have hU4 := Lib.hid (hU3.out.step hb4)
  clear hb4 hV3 hU3
  go_wp2_with (first
    | (refine wpList_mid_g (by rfl) 29 _ rfl w.heap.size 0 rfl cs _ hV4.out.range Try.underlying29 rfl (by rw [hcl.out]; exact info_node) ?_)
    | fail)
  refine (hR2.out _ _ _ hV4.out).mono ?_
  rintro e w5 ⟨rfl, hb5⟩
  have hV5 := Lib.hid (hV4.out.step hb5)
  have hU5 := Lib.hid (hU4.out.step hb5)
  clear hb5 hV4 hU4
  go_wp2_with (first
    | (refine wpList_mid_g (by rfl) 29 _ rfl w.heap.size 0 rfl cs _ hV5.out.range Try.underlying29 rfl (by rw [hcl.out]; exact info_node) ?_)
    | (refine wpList_mid_g (by rfl) 29 _ rfl w1.heap.size 0 rfl cs1 _ hU5.out.range Try.underlying29 rfl (by rw [hcl1.out]; exact info_node) ?_)
    | fail)
  refine (hS.out _ _ _ _ _ hU5.out hV5.out).mono ?_
  rintro e w6 ⟨rfl, hb6⟩
  have hbe := Lib.hid (hV5.out.step hb6).bel
  clear hb6
  go_wp2_with fail
  go_ret
  exact ⟨rfl, hbe.out⟩
end Go.Proofs.Yteknhmhmepnfjaa

/-
  The laws of chapter 05: NodeEncodes.
-/
namespace Go.Proofs.Yteknhmhmepnfjaa
open Go.RowKit

set_option maxHeartbeats 2000000 in
set_option maxRecDepth 100000 in
theorem law_NodeEncodes (v : Value) (x : Nd.No) (w : World) (hv : NodIn (fun q => q < w.heap.size) w v x) (hbig : Nd.Big x) : Calls Try.prog 4 #[v] w (PostT w) := by
  obtain ⟨cs, rfl, hcl, hone, -⟩ := hv.row
  have hV := Lib.hid (nodV_boxed hv)
  have hcs := Lib.hid (show cs.toArray.size = 38 by simp [hcl])
  have hC := law_copied _ x _ (hV.out.nin.move (S' := fun q => q < (w.alloc (.cells cs.toArray 29)).heap.size) (fun q h1 h2 => ⟨h2, rfl⟩) (Nat.le_refl _)) hbig
  have hE := fun (W wr : World) (cs : List Value) (h : NodV wr cs x W) => node_Encode _ _ x W h.nin h.lim
  have hE2 := fun (W wr : World) (cs : List Value) (h : NodV wr cs x W) => ref_Encode05 _ x W (h.nin.move (S' := fun q => q < W.heap.size) (fun q h1 h2 => ⟨h2, rfl⟩) (Nat.le_refl _)) (fun r _ _ _ => ref_Decode05 r.inl)
  have hS := Lib.hid (fun (W wr wr' : World) (cs cs' : List Value) (h : NodV wr cs x W) (h' : NodV wr' cs' x W) => same_self _ _ _ _ x W h.nin h'.nin h.lim h'.lim)
  generalize (if Nd.right Nd.dec x = true then Nd.enc x else []) = L at *
  generalize (if Nd.right Nd.dec x = true then (0 : Int) else 50) = K at *
  replace hE := Lib.hid hE
  replace hE2 := Lib.hid hE2
  replace hcl := Lib.hid hcl
  clear hv hone hbig
  go_enter Try.func4, Try.ntmps4
  go_wp2_with (first
    | (refine wpList_load_row rfl 29 _ rfl w.heap.size rfl _ _ _ _ hV.out.it Try.underlying29 rfl (by rw [hcs.out]; exact info_node) ?_)
    | fail)
  refine hC.mono ?_
  rintro e w1 ⟨⟨v1, rfl, hn1⟩, hb1⟩
  obtain ⟨cs1, rfl, hcl1, hone1, -⟩ := hn1.row
  have hV1 := Lib.hid (hV.out.step hb1)
  have hst := Lib.hid (nodV_stored hn1)
  have hcs1 := Lib.hid (show cs1.toArray.size = 38 by simp [hcl1])
  have hone1' := Lib.hid (show cs1.toArray.all (·.oneCell') = true by simpa using hone1)
  replace hcl1 := Lib.hid hcl1
  clear hC hb1 hV hone1 hn1
  go_wp2_with (first
    | (refine wpList_store_row rfl 29 _ _ rfl w1.heap.size cs1.toArray rfl rfl _ _ (Blk.new w1 29 noZ) (by rw [hcs1.out]; exact info_node) (by rw [hcs1.out]; rfl) hone1'.out ?_; refine list_at (NodV w1 cs1 x) hst.out ?_; intro w2 hU2; have hV2 := Lib.hid (hV1.out.step hU2.bel); replace hU2 := Lib.hid hU2)
    | (refine wpList_load_row rfl 29 _ rfl w1.heap.size rfl _ _ _ _ hU2.out.it Try.underlying29 rfl (by rw [hcs1.out]; exact info_node) ?_)
    | fail)
  refine (hE.out _ _ _ hU2.out).mono ?_
  rintro e w3 ⟨A3, n3, c3, rfl, hm3, hO3, hb3⟩
  have hV3 := Lib.hid (hV2.out.step hb3)
  have hU3 := Lib.hid (hU2.out.step hb3)
  have hA3 : ∀ g o, A3 = some ⟨g, o, none⟩ → 0 < n3 → g < w3.heap.size := fun g o e h => by
    obtain ⟨g', o', e', _, h2, _⟩ := hO3.at_ h
    rw [e] at e'
    injection e' with e'
    injection e' with e1 e2
    omega
  have hcap3 := hO3.cap
  have hlim3 := hO3.lim
  have hn63 : (n3 : Int) ≤ 9223372036854775807 := by unfold maxLen at hlim3; omega
  replace hA3 := Lib.hid hA3
  replace hO3 := Lib.hid hO3
  replace hm3 := Lib.hid hm3
  have hs23 := Lib.hid hb3.size
  replace hb3 := Lib.hid hb3
  have hbel2 := Lib.hid hV2.out.bel
  clear hV2 hV1 hst
  go_wp2_with (first
    | (refine wpList_load_row rfl 29 _ rfl w.heap.size rfl _ _ _ _ hV3.out.it Try.underlying29 rfl (by rw [hcs.out]; exact info_node) ?_)
    | fail)
  refine (hE2.out _ _ _ hV3.out).mono ?_
  rintro e w4 ⟨A4, n4, c4, rfl, hN4⟩
  have hV4 := Lib.hid (hV3.out.step hN4.2.2)
  have hU4 := Lib.hid (hU3.out.step hN4.2.2)
  have hO4 := Lib.hid (Own.of_row hN4.2.1)
  have hm4 := Lib.hid hN4.1
  have hb4 := Lib.hid hN4.2.2
  clear hN4 hV3 hU3 hE2
  go_wp2_with fail
  refine (law05_alive w4).mono ?_
  rintro e w5 ⟨rfl, hb5⟩
  have hV5 := Lib.hid (hV4.out.step hb5)
  have hU5 := Lib.hid (hU4.out.step hb5)
  have hb45 := hb4.out.trans (hb5.mono hb4.out.size)
  have hb35 := hb3.out.trans (hb45.mono hb3.out.size)
  have hO35 := hO3.out.below hb45 (Nat.le_refl _)
  have hO45 := hO4.out.below hb5 (Nat.le_refl _)
  have hB3 : Bytes w5 w5.heap.size A3 n3 c3 L := ⟨hm3.out, hcap3, hlim3, hO35.reads⟩
  have hB4 : Bytes w5 w5.heap.size A4 n4 c4 L := ⟨hm4.out, hO45.cap, hO45.lim, hO45.reads⟩
  have t1 := hB3.toStr (P := Try.prog) Try.underlying22 Try.underlying5 9 Try.underlying9
  have t2 := hB4.toStr (P := Try.prog) Try.underlying22 Try.underlying5 9 Try.underlying9
  replace hb35 := Lib.hid hb35
  replace hb45 := Lib.hid hb45
  replace hO35 := Lib.hid hO35
  replace hO45 := Lib.hid hO45
  clear hB3 hB4 hb5 hV4 hU4 hO3 hO4 hb4 hb3
  go_wp2_with (first
    | (refine wpList_mid_g (by rfl) 29 _ rfl w.heap.size 0 rfl cs _ hV5.out.range Try.underlying29 rfl (by rw [hcl.out]; exact info_node) ?_)
    | (refine wpList_mid_g (by rfl) 29 _ rfl w1.heap.size 0 rfl cs1 _ hU5.out.range Try.underlying29 rfl (by rw [hcl1.out]; exact info_node) ?_)
    | fail)
  refine (hS.out _ _ _ _ _ hU5.out hV5.out).mono ?_
  rintro e w6 ⟨rfl, hb6⟩
  have hb26 := hb35.out.trans (hb6.mono hb35.out.size)
  have hO36 := hO35.out.below hb6 (Nat.le_refl _)
  have hO46 := hO45.out.below hb6 (Nat.le_refl _)
  replace hb26 := Lib.hid hb26
  replace hO36 := Lib.hid hO36
  replace hO46 := Lib.hid hO46
  clear hV5 hU5 hO35 hO45 hb35 hb45 hb6 t1 t2 hS
  go_wp2_with fail
  go_loopw [45] (fun i wr => ∃ (k : Nat) (xs : List Value), k ≤ n3 ∧ i = .int .i64 k ∧ Below w2.heap.size w2 wr ∧ Own wr w2.heap.size 5 1 A3 n3 c3 xs ∧ Own wr w3.heap.size 5 1 A4 n4 c4 (bv L)) (fun i _ => n3 - (intOf i).toNat)
  case atStart => exact ⟨0, _, Nat.zero_le _, rfl, hb26.out, hO36.out, hO46.out⟩
  case round =>
    clear hb26 hO36 hO46
    obtain ⟨k, xs, hk, rfl, hbr, hq, hc⟩ := hrel
    by_cases hlt : k < n3
    · obtain ⟨g, o, hge, hBg, hgs, hcc⟩ := hq.at_ (by omega)
      have hgw3 := hA3.out g o hge (by omega)
      subst hge
      obtain ⟨⟨v, hv⟩, hf⟩ := hcc k hlt
      have HP := Lib.hid (hq.stored k hlt (.int .u8 99))
      have hlt' : (k : Int) < n3 := by omega
      replace hbr := Lib.hid hbr
      replace hc := Lib.hid hc
      clear hcc hq
      go_wp2_with fail
      refine ⟨⟨k + 1, _, by omega, by go_num, hbr.out.setCell hBg _, HP.out, hc.out.far hgw3 _⟩, ?_⟩
      simp [intOf]; omega
    · obtain rfl : k = n3 := by omega
      have hlt' : ¬ (k : Int) < k := by omega
      have hUr := Lib.hid (hU2.out.step hbr)
      have hbw := hbel2.out.trans (hbr.mono hbel2.out.size)
      replace hbw := Lib.hid hbw
      replace hc := Lib.hid hc
      clear hq hbr
      go_wp2_with (first
        | (refine wpList_load_row rfl 29 _ rfl w1.heap.size rfl _ _ _ _ hUr.out.it Try.underlying29 rfl (by rw [hcs1.out]; exact info_node) ?_)
        | fail)
      refine (hE.out _ _ _ hUr.out).mono ?_
      rintro e w7 ⟨A7, n7, c7, rfl, hN7⟩
      have hc7 := hc.out.below hN7.2.2 (Nat.le_refl _)
      have hB4 : Bytes w7 w7.heap.size A4 n4 c4 L := ⟨hm4.out, hc7.cap, hc7.lim, hc7.reads⟩
      have hB7 : Bytes w7 w7.heap.size A7 n7 c7 L := ⟨hN7.1, hN7.2.1.cap, hN7.2.1.lim, hN7.2.1.reads⟩
      have t1 := hB7.toStr (P := Try.prog) Try.underlying22 Try.underlying5 9 Try.underlying9
      have t2 := hB4.toStr (P := Try.prog) Try.underlying22 Try.underlying5 9 Try.underlying9
      have hbe := Lib.hid (hbw.out.trans (hN7.2.2.mono hbw.out.size))
      clear hN7 hB4 hB7 hc7
      go_wp2_with fail
      go_ret
      exact ⟨ret_bool (by simp), hbe.out⟩
end Go.Proofs.Yteknhmhmepnfjaa
