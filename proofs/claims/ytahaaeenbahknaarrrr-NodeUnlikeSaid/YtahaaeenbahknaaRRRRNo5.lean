/-
  Package node: Decode.
-/
import Derived.Test.YtahaaeenbahknaaRRRRNo4
import Derived.Deep.Cut
namespace Go.Proofs.YtahaaeenbahknaaRRRR
open Go.RowKit

theorem NodIn.move {S S' : Nat → Prop} {w w' : World} {v : Value} {x : Nd.No} (h : NodIn S w v x) (hS : ∀ g, S g → g < w.heap.size → S' g ∧ w'.heap[g]? = w.heap[g]?) (hs : w.heap.size ≤ w'.heap.size) : NodIn S' w' v x := by
  obtain ⟨Ap, np, cp, Av, nv, cv, Ac, nc, cc, Ak, nk, kk, vs, h1, h2, ⟨p1, p2, p3, p4⟩, ⟨v1, v2, v3, v4⟩, ⟨c1, c2, c3, c4⟩, k1, k2, k3, k4, k5⟩ := h
  exact ⟨Ap, np, cp, Av, nv, cv, Ac, nc, cc, Ak, nk, kk, vs, h1, h2, ⟨p1, p2, p3, p4.move hS hs⟩, ⟨v1, v2, v3, v4.move hS hs⟩, ⟨c1, c2, c3, c4.move hS hs⟩, k1, k2, k3, k4.move hS hs, k5.imp fun v x hx => hx.move hS hs⟩
namespace Nd
theorem shape_many (xs : List (Ns.It 8)) (h : xs.length = 17) : shape xs = many (xs.take 16) (xs[16]'(by omega)) := by
  unfold shape
  split
  · simp at h
  · rw [dif_pos h]
theorem shape_else (xs : List (Ns.It 8)) (h : xs.length ≠ 17) (h2 : xs.length ≠ 2) : shape xs = (no0, false) := by
  unfold shape
  split
  · simp at h2
  · rw [dif_neg h]
theorem list_two {α : Type} (xs : List α) (h : xs.length = 2) : ∃ p o, xs = [p, o] := by
  match xs, h with
  | [p, o], _ => exact ⟨p, o, rfl⟩
end Nd
theorem enc_mem (d : Nat) (xs : List (Ns.It d)) (x : Ns.It d) (hx : x ∈ xs) : (Ns.enc d x).length ≤ (xs.flatMap (Ns.enc d)).length := by
  induction xs with
  | nil => cases hx
  | cons y ys ih =>
    rw [List.flatMap_cons, List.length_append]
    rcases List.mem_cons.1 hx with rfl | hx
    · omega
    · have := ih hx; omega
theorem bytesOf_le (d : Nat) (x : Ns.It (d + 1)) (h : Ns.fit d x) : (bytesOf x).length ≤ 16777215 := by
  cases x with
  | inl b => have h2 := Ns.fit_tx d b; exact (h2 ▸ (show Ns.fit d (Ns.tx b) from h) : b.length ≤ Ns.maxBytes)
  | inr xs => exact Nat.zero_le _
/-- in the midst of Decode: the result, the item's row -/
structure DecI (w : World) (row : Array Value) (w1 : World) (W : World) : Prop where
  res : Blk W w.heap.size 29 noZ
  it : Blk W w1.heap.size 46 row
  gt : w.heap.size < w1.heap.size
  bel : Below w.heap.size w W
  b1 : Below w1.heap.size w1 W
theorem DecI.step {w w1 W W' : World} {row : Array Value} (h : DecI w row w1 W) (hb : Below W.heap.size W W') : DecI w row w1 W' :=
  ⟨h.res.below hb h.res.lt, h.it.below hb h.it.lt, h.gt, h.bel.trans (hb.mono h.bel.size), h.b1.trans (hb.mono h.b1.size)⟩
theorem dec_stored {w w1 : World} (row : Array Value) (hr : Blk w1 w.heap.size 29 noZ) (hb : Below w.heap.size w w1) : DecI w row w1 ((w1.alloc (.cells rowZ 46)).setRow w1.heap.size row) :=
  ⟨(hr.alloc _).row_far _ (by have := hr.lt; omega), (Blk.new w1 _ _).row _, hr.lt, below_row (hb.alloc hb.size _) hb.size _, below_row ((Below.refl _ _).alloc (Nat.le_refl _) _) (Nat.le_refl _) _⟩
/-- .. the node variable beside it -/
structure DecN (w : World) (row : Array Value) (w1 : World) (gn : Nat) (W : World) : Prop where
  d : DecI w row w1 W
  n : Blk W gn 29 noZ
  gt : w.heap.size < gn
/-- .. and the node that the item says -/
structure DecX (w : World) (gn : Nat) (cs : List Value) (x : Nd.No) (W : World) : Prop where
  res : Blk W w.heap.size 29 noZ
  n : Blk W gn 29 cs.toArray
  gt : w.heap.size < gn
  nin : NodIn (fun q => w.heap.size < q ∧ q ≠ gn) W (.agg cs.toArray) x
  bel : Below w.heap.size w W
theorem decX_stored {w w2 w3 : World} {row : Array Value} {w1 : World} {gn : Nat} {cs : List Value} {x : Nd.No} {S : Nat → Prop} (h : DecN w row w1 gn w2) (hb : Below w2.heap.size w2 w3) (hx : NodIn (fun q => S q ∨ w2.heap.size ≤ q) w3 (.agg cs.toArray) x) (hS : ∀ q, S q → w.heap.size < q ∧ q ≠ gn) :
    DecX w gn cs x (w3.setRow gn cs.toArray) := by
  have hl := h.n.lt
  have hs := hb.size
  refine ⟨(h.d.res.below hb h.d.res.lt).row_far _ (by have := h.gt; omega), (h.n.below hb h.n.lt).row _, h.gt, hx.move (fun q h1 h2 => ?_) (by simp), below_row (h.d.bel.trans (hb.mono h.d.bel.size)) (by have := h.gt; omega) _⟩
  have h3 : w.heap.size < q ∧ q ≠ gn := by
    rcases h1 with h1 | h1
    · exact hS q h1
    · have := h.gt; exact ⟨by omega, by omega⟩
  exact ⟨h3, setRow_other _ _ q _ h3.2⟩
theorem DecX.step {w W W' : World} {gn : Nat} {cs : List Value} {x : Nd.No} (h : DecX w gn cs x W) (hb : Below W.heap.size W W') : DecX w gn cs x W' :=
  ⟨h.res.below hb h.res.lt, h.n.below hb h.n.lt, h.gt, h.nin.move (fun q h1 h2 => ⟨h1, hb.block q h2⟩) hb.size, h.bel.trans (hb.mono h.bel.size)⟩
theorem DecX.range {w W : World} {gn : Nat} {cs : List Value} {x : Nd.No} (h : DecX w gn cs x W) : W.rangeAt gn 0 cs := by
  intro j u hu
  rw [Nat.zero_add, h.n.cell j, List.getElem?_toArray]
  exact hu
/-- what region 8 reads -/
structure Dec8 (g1 g o : Nat) (c2 : Nat) (l1 l2 : List Value) (W : World) : Prop where
  it : W.cell? ⟨g1, 2, none⟩ = some (.slice (some ⟨g, o, none⟩) 2 c2)
  r1 : W.rangeAt g o l1
  r2 : W.rangeAt g (o + 3) l2
theorem Dec8.step {g1 g o c2 : Nat} {l1 l2 : List Value} {W W' : World} (h : Dec8 g1 g o c2 l1 l2 W) (hb : Below W.heap.size W W') (h1 : g1 < W.heap.size) (h2 : g < W.heap.size) : Dec8 g1 g o c2 l1 l2 W' :=
  ⟨(hb.cell (p := ⟨g1, 2, none⟩) h1).trans h.it, fun j u hu => (hb.cell (p := ⟨g, o + j, none⟩) h2).trans (h.r1 j u hu), fun j u hu => (hb.cell (p := ⟨g, o + 3 + j, none⟩) h2).trans (h.r2 j u hu)⟩
theorem Dec8.row {g1 g o c2 gn : Nat} {l1 l2 : List Value} {W : World} (cs : Array Value) (h : Dec8 g1 g o c2 l1 l2 W) (h1 : g1 ≠ gn) (h2 : g ≠ gn) : Dec8 g1 g o c2 l1 l2 (W.setRow gn cs) := by
  have e1 : (W.setRow gn cs).heap[g1]? = W.heap[g1]? := setRow_other _ _ _ _ h1
  have e2 : (W.setRow gn cs).heap[g]? = W.heap[g]? := setRow_other _ _ _ _ h2
  exact ⟨(World.cell?_of_block (a := ⟨g1, 2, none⟩) e1).trans h.it, fun j u hu => (World.cell?_of_block (a := ⟨g, o + j, none⟩) e2).trans (h.r1 j u hu), fun j u hu => (World.cell?_of_block (a := ⟨g, o + 3 + j, none⟩) e2).trans (h.r2 j u hu)⟩
theorem shape_eq_two (p o : Ns.It 8) : Nd.shape [p, o] = Nd.two p o := rfl
set_option maxHeartbeats 2000000 in
set_option maxRecDepth 100000 in
theorem node_DecodeI (b : List UInt8) (ih : ∀ b' : List UInt8, b'.length < b.length → NodC b') : NodC b := by
  intro A n c w hB
  have hdc := nest_Decode A n c b (w.alloc (.cells noZ 29)) ((hB.alloc (Nat.le_refl _) _).more (by simp))
  have hD := Nd.dec_eq b
  have hlen := hB.len
  have hr0 : Blk (w.alloc (.cells noZ 29)) w.heap.size 29 noZ := Blk.new w _ _
  have hbe0 : Below w.heap.size w (w.alloc (.cells noZ 29)) := (Below.refl _ _).alloc (Nat.le_refl _) _
  have hs0 : (w.alloc (.cells noZ 29)).heap.size = w.heap.size + 1 := by simp
  have hnq : NodQ b w = fun e w' => Below w.heap.size w w' ∧ match Nd.dec b with
  | some x => ∃ v, e = .returned (.tuple #[v, .int .i64 0]) ∧ NodIn (fun q => w.heap.size ≤ q) w' v x
  | none => e = .returned (.tuple #[.agg noZ, .int .i64 50]) := rfl
  generalize NodQ b w = Q at *
  generalize Nd.dec b = R at *
  subst hlen
  clear hB
  replace ih := Lib.hid ih
  replace hnq := Lib.hid hnq
  replace hr0 := Lib.hid hr0
  replace hbe0 := Lib.hid hbe0
  replace hs0 := Lib.hid hs0
  replace hD := Lib.hid hD
  go_enter Try.func10, Try.ntmps10
  go_wp2_with fail
  refine hdc.mono ?_
  rintro e w1 ⟨hb1, hq⟩
  clear hdc
  have hr1 := hr0.out.below hb1 (by have := hs0.out; omega)
  have hbe1 := hbe0.out.trans (hb1.mono hbe0.out.size)
  cases hx : Ns.dec b with
  | error k =>
    rw [hx] at hq
    obtain ⟨rfl, hk⟩ := hq
    have hR := Lib.hid (show R = none by rw [hD.out, hx])
    have hst := Lib.hid (dec_stored (w := w) (w1 := w1) #[.bool false, .slice none 0 0, .slice none 0 0] hr1 hbe1)
    clear hD hx hb1 hr1 hr0 hbe0
    rw [show itemZ = .agg #[.bool false, .slice none 0 0, .slice none 0 0] from rfl]
    go_wp2_with (first
      | (refine wpList_store_row rfl 46 _ _ rfl w1.heap.size #[.bool false, .slice none 0 0, .slice none 0 0] rfl rfl _ _ (Blk.new w1 46 rowZ) info_item3 rfl (by simp [Value.oneCell']) ?_; refine list_at (DecI w #[.bool false, .slice none 0 0, .slice none 0 0] w1) hst.out ?_; intro w2 hI2; have k0 : w2.cell? ⟨w1.heap.size, 0, none⟩ = some (.bool false) := hI2.it.cell 0; have k2 : ∀ o : Obj, (w2.alloc o).cell? ⟨w1.heap.size, 2, none⟩ = some (.slice none 0 0) := fun o => (World.cell?_alloc_lt w2 _ _ (by exact hI2.it.lt)).trans (hI2.it.cell 2); replace hI2 := Lib.hid hI2)
      | (refine wpList_store_row rfl 29 _ _ rfl w.heap.size noZ rfl rfl _ _ hI2.out.res info_node rfl noZ_one ?_)
      | fail)
    refine bodyPost_ret (v := .tuple #[.agg noZ, .int .i64 50]) (results_row_tmp rfl _ _ w.heap.size _ noZ _ _ _ rfl rfl (hI2.out.res.row _) Try.underlying29 rfl info_node) rfl ?_
    rw [hnq.out, hR.out]
    exact ⟨below_row hI2.out.bel (Nat.le_refl _) _, rfl⟩
  | ok y =>
    rw [hx] at hq
    obtain ⟨v, rfl, hv⟩ := hq
    cases y with
    | inl bb =>
      have hR := Lib.hid (show R = none by rw [hD.out, hx])
      obtain ⟨A2, n2, c2, rfl, -⟩ := hv
      unfold txV
      have hst := Lib.hid (dec_stored (w := w) (w1 := w1) #[.bool false, .slice A2 n2 c2, .slice none 0 0] hr1 hbe1)
      clear hD hx hb1 hr1 hr0 hbe0
      go_wp2_with (first
        | (refine wpList_store_row rfl 46 _ _ rfl w1.heap.size #[.bool false, .slice A2 n2 c2, .slice none 0 0] rfl rfl _ _ (Blk.new w1 46 rowZ) info_item3 rfl (by simp [Value.oneCell']) ?_; refine list_at (DecI w #[.bool false, .slice A2 n2 c2, .slice none 0 0] w1) hst.out ?_; intro w2 hI2; have k0 : w2.cell? ⟨w1.heap.size, 0, none⟩ = some (.bool false) := hI2.it.cell 0; have k2 : ∀ o : Obj, (w2.alloc o).cell? ⟨w1.heap.size, 2, none⟩ = some (.slice none 0 0) := fun o => (World.cell?_alloc_lt w2 _ _ (by exact hI2.it.lt)).trans (hI2.it.cell 2); replace hI2 := Lib.hid hI2)
        | (refine wpList_store_row rfl 29 _ _ rfl w.heap.size noZ rfl rfl _ _ hI2.out.res info_node rfl noZ_one ?_)
        | fail)
      refine bodyPost_ret (v := .tuple #[.agg noZ, .int .i64 50]) (results_row_tmp rfl _ _ w.heap.size _ noZ _ _ _ rfl rfl (hI2.out.res.row _) Try.underlying29 rfl info_node) rfl ?_
      rw [hnq.out, hR.out]
      exact ⟨below_row hI2.out.bel (Nat.le_refl _) _, rfl⟩
    | inr xs =>
      obtain ⟨A2, n2, c2, vs, rfl, hn2, hc2, hm2, hin, hall⟩ := hv
      have hR : R = if (Nd.shape xs).2 = true ∧ Nd.right Nd.dec (Nd.shape xs).1 = true then some (Nd.shape xs).1 else none := by rw [hD.out, hx]
      have hsh := Nd.shape_shorter hx
      obtain ⟨hbl, hft⟩ := Ns.dec_ok b _ hx
      have hfit : ∀ x ∈ xs, Ns.fit 7 x := hft.2
      have hlim : ∀ x ∈ xs, (Ns.enc 8 x).length ≤ 16777215 := fun x hx => Nat.le_trans (enc_mem 8 xs x hx) hft.1
      unfold lsV
      have hst := Lib.hid (dec_stored (w := w) (w1 := w1) #[.bool true, .slice none 0 0, .slice A2 n2 c2] hr1 hbe1)
      clear hD hx hb1 hr1 hr0 hbe0 hbl hft
      replace hR := Lib.hid hR
      replace hsh := Lib.hid hsh
      replace hfit := Lib.hid hfit
      replace hlim := Lib.hid hlim
      replace hin := Lib.hid hin
      replace hall := Lib.hid hall
      replace hn2 := Lib.hid hn2
      go_upto_region 5 with (refine wpList_store_row rfl 46 _ _ rfl w1.heap.size #[.bool true, .slice none 0 0, .slice A2 n2 c2] rfl rfl _ _ (Blk.new w1 46 rowZ) info_item3 rfl (by simp [Value.oneCell']) ?_; refine list_at (DecI w #[.bool true, .slice none 0 0, .slice A2 n2 c2] w1) hst.out ?_; intro w2 hI2; have k0 : w2.cell? ⟨w1.heap.size, 0, none⟩ = some (.bool true) := hI2.it.cell 0; have k2 : ∀ o : Obj, (w2.alloc o).cell? ⟨w1.heap.size, 2, none⟩ = some (.slice A2 n2 c2) := fun o => (World.cell?_alloc_lt w2 _ _ (by exact hI2.it.lt)).trans (hI2.it.cell 2); replace hI2 := Lib.hid hI2)
      have hN0 : DecN w #[.bool true, .slice none 0 0, .slice A2 n2 c2] w1 w2.heap.size (w2.alloc (.cells noZ 29)) := ⟨hI2.out.step ((Below.refl _ _).alloc (Nat.le_refl _) _), Blk.new w2 _ _, by have := hI2.out.res.lt; omega⟩
      have hgn : w1.heap.size < w2.heap.size := hI2.out.it.lt
      clear k0 k2 hst hI2
      generalize hgn2 : w2.heap.size = gn at *
      replace hgn2 := Lib.hid hgn2
      refine code_at (DecN w #[.bool true, .slice none 0 0, .slice A2 n2 c2] w1 gn) hN0 ?_
      clear hN0 hgn2 w2
      intro w3 hN
      have k2 : w3.cell? ⟨w1.heap.size, 2, none⟩ = some (.slice A2 n2 c2) := hN.d.it.cell 2
      have hs1 := Lib.hid hbe1.size
      replace hbe1 := Lib.hid hbe1
      replace hN := Lib.hid hN
      have hlt1 := hs0.out
      by_cases h17 : n2 = 17
      · subst h17
        have hxl : xs.length = 17 := hn2.out.symm
        have hcall := node_many (fun q => w.heap.size + 1 ≤ q ∧ q < w1.heap.size) A2 c2 vs xs w3 (hin.out.move (fun q h1 h2 => ⟨⟨by omega, h2⟩, hN.out.d.b1.block q h2⟩) hN.out.d.b1.size) (hall.out.imp fun v x hx => hx.move _ _ _ (fun q h1 h2 => ⟨⟨by omega, h2⟩, hN.out.d.b1.block q h2⟩) hN.out.d.b1.size) hxl hc2 hm2 (fun q h => by have := hN.out.d.b1.size; omega) hfit.out hlim.out
        rw [← Nd.shape_many xs hxl] at hcall
        have hdx : ∀ (w4 : World) (cs : List Value), Below w3.heap.size w3 w4 → NodIn (fun q => (w.heap.size + 1 ≤ q ∧ q < w1.heap.size) ∨ w3.heap.size ≤ q) w4 (.agg cs.toArray) (Nd.shape xs).1 → DecX w gn cs (Nd.shape xs).1 (w4.setRow gn cs.toArray) :=
          fun w4 cs hb hx => decX_stored hN.out hb hx (fun q h => by omega)
        clear hlt1
        replace hdx := Lib.hid hdx
        go_wp2_with fail
        refine hcall.mono ?_
        rintro e w4 ⟨hb4, v, rfl, hx4⟩
        obtain ⟨cs, rfl, hcl, hone, -⟩ := hx4.row
        have hX := Lib.hid (hdx.out w4 cs hb4 hx4)
        have hn4 := Lib.hid (hN.out.n.below hb4 hN.out.n.lt)
        clear hcall hx4 hb4 hdx k2
        have hcs := Lib.hid (show cs.toArray.size = 38 by simp [hcl])
        replace hcl := Lib.hid hcl
        replace hone := Lib.hid hone
        go_upto_region 11 with (refine wpList_store_row rfl 29 _ _ rfl gn cs.toArray rfl rfl _ _ hn4.out (by rw [hcs.out]; exact info_node) (by rw [hcs.out]; rfl) (by simpa using hone.out) ?_)
        refine code_at (DecX w gn cs (Nd.shape xs).1) hX.out ?_
        clear hX hn4 hN w4 w3
        intro w4 hX4
        replace hX4 := Lib.hid hX4
        have hsz4 := hX4.out.bel.size
        have hR4 : (∀ r ∈ Nd.refs (Nd.shape xs).1, r.kind = 1 → NodC r.inl) := fun r hr _ => ih.out _ (hsh.out r hr)
        replace hR4 := Lib.hid hR4
        generalize (Nd.shape xs).1 = X at *
        generalize (Nd.shape xs).2 = ok at *
        cases ok with
        | false =>
          have hRn := Lib.hid (show R = none by rw [hR.out]; simp)
          go_wp2_with (first
            | (refine wpList_store_row rfl 29 _ _ rfl w.heap.size noZ rfl rfl _ _ hX4.out.res info_node rfl noZ_one ?_)
            | fail)
          refine bodyPost_ret (v := .tuple #[.agg noZ, .int .i64 50]) (results_row_tmp rfl _ _ w.heap.size _ noZ _ _ _ rfl rfl (hX4.out.res.row _) Try.underlying29 rfl info_node) rfl ?_
          rw [hnq.out, hRn.out]
          exact ⟨below_row hX4.out.bel (Nat.le_refl _) _, rfl⟩
        | true =>
          have hrgt := node_Right (fun q => q < w4.heap.size) (.agg cs.toArray) X w4 (hX4.out.nin.move (fun q h1 h2 => ⟨h2, rfl⟩) (Nat.le_refl _)) (fun q h => h) hR4.out
          have hrg4 := hX4.out.range
          generalize Nd.right Nd.dec X = RT at *
          go_wp2_with (first
            | (refine wpList_mid_g (by rfl) 29 _ rfl gn 0 rfl cs _ hrg4 Try.underlying29 rfl (by rw [hcl.out]; exact info_node) ?_)
            | fail)
          refine hrgt.mono ?_
          rintro e w5 ⟨rfl, hb5⟩
          have hX5 := Lib.hid (hX4.out.step hb5)
          clear hrg4 hrgt hb5
          cases RT with
          | false =>
            have hRn := Lib.hid (show R = none by rw [hR.out]; simp)
            go_wp2_with (first
              | (refine wpList_store_row rfl 29 _ _ rfl w.heap.size noZ rfl rfl _ _ hX5.out.res info_node rfl noZ_one ?_)
              | fail)
            refine bodyPost_ret (v := .tuple #[.agg noZ, .int .i64 50]) (results_row_tmp rfl _ _ w.heap.size _ noZ _ _ _ rfl rfl (hX5.out.res.row _) Try.underlying29 rfl info_node) rfl ?_
            rw [hnq.out, hRn.out]
            exact ⟨below_row hX5.out.bel (Nat.le_refl _) _, rfl⟩
          | true =>
            have hRn := Lib.hid (show R = some X by rw [hR.out]; simp)
            go_wp2_with (first
              | (refine wpList_load_row rfl 29 _ rfl gn rfl _ _ _ _ hX5.out.n Try.underlying29 rfl (by rw [hcs.out]; exact info_node) ?_)
              | (refine wpList_store_row rfl 29 _ _ rfl w.heap.size cs.toArray rfl rfl _ _ hX5.out.res (by rw [hcs.out]; exact info_node) (by rw [hcs.out]; rfl) (by simpa using hone.out) ?_)
              | fail)
            refine bodyPost_ret (v := .tuple #[.agg cs.toArray, .int .i64 0]) (results_row_tmp rfl _ _ w.heap.size _ cs.toArray _ _ _ rfl rfl (hX5.out.res.row _) Try.underlying29 rfl (by rw [hcs.out]; exact info_node)) rfl ?_
            rw [hnq.out, hRn.out]
            exact ⟨below_row hX5.out.bel (Nat.le_refl _) _, _, rfl, hX5.out.nin.move (fun q h1 h2 => ⟨Nat.le_of_lt h1.1, setRow_other _ _ q _ (by omega)⟩) (by simp)⟩
      by_cases h2 : n2 = 2
      · subst h2
        obtain ⟨p, o', rfl⟩ := Nd.list_two xs hn2.out.symm
        have hb3 := hN.out.d.b1
        have hmv : ∀ q, (w.alloc (.cells noZ 29)).heap.size ≤ q → q < w1.heap.size → (w.heap.size + 1 ≤ q ∧ q < w1.heap.size) ∧ w3.heap[q]? = w1.heap[q]? := fun q h1 h2 => ⟨⟨by omega, h2⟩, hb3.block q h2⟩
        have hin3 := hin.out.move hmv hb3.size
        have hall3 := hall.out.imp fun v x hx => hx.move _ _ _ hmv hb3.size
        obtain ⟨g, o, a1, b1, z1, rfl, hSg, hg3, hr1, -, hs1'⟩ := items_at hin3 hall3 rfl 0 (by simp)
        obtain ⟨g', o2, a2, b2, z2, he, -, -, hr2, -, hs2'⟩ := items_at hin3 hall3 rfl 1 (by simp)
        injection he with he
        injection he with he1 he2
        subst he1 he2
        have hcall : ∀ w4, Below w3.heap.size w3 w4 → Calls Try.prog 25 #[.agg #[a1, b1, z1], .agg #[a2, b2, z2]] w4 (ShpQ (fun q => w.heap.size + 1 ≤ q ∧ q < w1.heap.size) (Nd.two p o').1 (Nd.two p o').2 w4) := fun w4 h4 =>
          node_two (fun q => w.heap.size + 1 ≤ q ∧ q < w1.heap.size) _ _ p o' w4 (hs1'.move _ _ _ (fun q h1 h2 => ⟨h1, h4.block q h2⟩) h4.size) (hs2'.move _ _ _ (fun q h1 h2 => ⟨h1, h4.block q h2⟩) h4.size) (fun q h => by have := hb3.size; have := h4.size; omega) (bytesOf_le 7 p (hfit.out p (by simp))) (hfit.out o' (by simp)) (hlim.out o' (by simp))
        rw [← shape_eq_two] at hcall
        have hdx : ∀ (w4 : World) (cs : List Value), Below w3.heap.size w3 w4 → NodIn (fun q => (w.heap.size + 1 ≤ q ∧ q < w1.heap.size) ∨ w3.heap.size ≤ q) w4 (.agg cs.toArray) (Nd.shape [p, o']).1 → DecX w gn cs (Nd.shape [p, o']).1 (w4.setRow gn cs.toArray) :=
          fun w4 cs hb hx => decX_stored hN.out hb hx (fun q h => by omega)
        have h8 : Dec8 w1.heap.size g o c2 [a1, b1, z1] [a2, b2, z2] w3 := ⟨k2, hr1, hr2⟩
        have hg1 : g < w1.heap.size := hSg.2
        clear hlt1 hin3 hall3 hs1' hs2' hr1 hr2 hmv hb3 hSg
        generalize [p, o'] = xs at *
        replace hdx := Lib.hid hdx
        replace hcall := Lib.hid hcall
        replace h8 := Lib.hid h8
        go_wp2_with fail
        refine wp_region_held_drew (S := (Dec8 w1.heap.size g o c2 [a1, b1, z1] [a2, b2, z2])) (by kernel_rfl) (by exact ⟨h8.out.it, h8.out.r1, h8.out.r2⟩) (fun hS => ?_)
        (refine hTake (i := 0) (v := ?v1) rfl (by kernel_rfl) (by kernel_rfl) (by kernel_rfl) (fun _ _ _ h => h) (Or.inl ⟨by rfl, ?y1⟩) hS ?r1; (case y1 => (intro W hW; (go_simp); (try with_reducible rfl); done)); try simp only [Act.put, List.setIfInBounds_toArray, List.set_cons_zero, List.set_cons_succ])
        (refine hTake (i := 1) (v := ?v2) rfl (by kernel_rfl) (by kernel_rfl) (by kernel_rfl) (fun _ _ _ h => h) (Or.inl ⟨by rfl, ?y2⟩) hS ?r2; (case y2 => (intro W hW; ((have g := hW.it; go_simp)); (try with_reducible rfl); done)); try simp only [Act.put, List.setIfInBounds_toArray, List.set_cons_zero, List.set_cons_succ])
        (refine hTake (i := 2) (v := ?v3) rfl (by kernel_rfl) (by kernel_rfl) (by kernel_rfl) (fun _ _ _ h => h) (Or.inl ⟨by rfl, ?y3⟩) hS ?r3; (case y3 => (intro W hW; (go_simp); (try with_reducible rfl); done)); try simp only [Act.put, List.setIfInBounds_toArray, List.set_cons_zero, List.set_cons_succ])
        (refine hTake (i := 3) rfl (by kernel_rfl) (by kernel_rfl) (by kernel_rfl) (fun _ _ _ h => h) (yieldsIf_load_mid (by rfl) _ _ rfl _ _ rfl [a1, b1, z1] _ (fun W hW => (by exact hW.r1)) Try.underlying46 rfl (by exact info_item3)) hS ?_; try simp only [Act.put, List.setIfInBounds_toArray, List.set_cons_zero, List.set_cons_succ])
        (refine hTake (i := 4) (v := ?v4) rfl (by kernel_rfl) (by kernel_rfl) (by kernel_rfl) (fun _ _ _ h => h) (Or.inl ⟨by rfl, ?y4⟩) hS ?r4; (case y4 => (intro W hW; (go_simp); (try with_reducible rfl); done)); try simp only [Act.put, List.setIfInBounds_toArray, List.set_cons_zero, List.set_cons_succ])
        (refine hTake (i := 5) (v := ?v5) rfl (by kernel_rfl) (by kernel_rfl) (by kernel_rfl) (fun _ _ _ h => h) (Or.inl ⟨by rfl, ?y5⟩) hS ?r5; (case y5 => (intro W hW; ((have g := hW.it; go_simp)); (try with_reducible rfl); done)); try simp only [Act.put, List.setIfInBounds_toArray, List.set_cons_zero, List.set_cons_succ])
        (refine hTake (i := 6) (v := ?v6) rfl (by kernel_rfl) (by kernel_rfl) (by kernel_rfl) (fun _ _ _ h => h) (Or.inl ⟨by rfl, ?y6⟩) hS ?r6; (case y6 => (intro W hW; (go_simp); (try with_reducible rfl); done)); try simp only [Act.put, List.setIfInBounds_toArray, List.set_cons_zero, List.set_cons_succ])
        (refine hTake (i := 7) rfl (by kernel_rfl) (by kernel_rfl) (by kernel_rfl) (fun _ _ _ h => h) (yieldsIf_load_mid (by rfl) _ _ rfl _ _ rfl [a2, b2, z2] _ (fun W hW => (by exact hW.r2)) Try.underlying46 rfl (by exact info_item3)) hS ?_; try simp only [Act.put, List.setIfInBounds_toArray, List.set_cons_zero, List.set_cons_succ])
        (refine hOne (i := 8) rfl (by kernel_rfl) (fun K hK => ?_))
        rw [if_pos (by rfl)]
        go_simp
        refine (hcall.out _ (Below.refl _ _).drew).mono ?_
        rintro e w4 ⟨hb4, v, rfl, hx4⟩
        obtain ⟨cs, rfl, hcl, hone, -⟩ := hx4.row
        have hb4' : Below w3.heap.size w3 w4 := ((Below.refl w3.heap.size w3).drew).trans hb4
        have hX := Lib.hid (hdx.out w4 cs hb4' hx4)
        have hn4 := Lib.hid (hN.out.n.below hb4' hN.out.n.lt)
        have h84 := h8.out.step hb4' (by have := hN.out.d.b1.size; have := hN.out.n.lt; omega) hg3
        have h85 := h84.row (gn := gn) cs.toArray (by omega) (by omega)
        clear hcall hx4 hb4 hb4' hdx k2
        have hcs := Lib.hid (show cs.toArray.size = 38 by simp [hcl])
        replace hcl := Lib.hid hcl
        replace hone := Lib.hid hone
        (refine hK.out _ _ (by exact h84) (fun hS => ?_); clear hK K; try simp only [Act.put, List.setIfInBounds_toArray, List.set_cons_zero, List.set_cons_succ])
        (refine hTake (i := 9) (v := ?v7) rfl (by kernel_rfl) (by kernel_rfl) (by kernel_rfl) (fun _ _ _ h => h) (Or.inl ⟨by rfl, ?y7⟩) hS ?r7; (case y7 => (intro W hW; (go_simp); (try with_reducible rfl); done)); try simp only [Act.put, List.setIfInBounds_toArray, List.set_cons_zero, List.set_cons_succ])
        (refine hTake (i := 10) (v := ?v8) rfl (by kernel_rfl) (by kernel_rfl) (by kernel_rfl) (fun _ _ _ h => h) (Or.inl ⟨by rfl, ?y8⟩) hS ?r8; (case y8 => (intro W hW; (go_simp); (try with_reducible rfl); done)); try simp only [Act.put, List.setIfInBounds_toArray, List.set_cons_zero, List.set_cons_succ])
        (refine hTake (i := 11) (v := ?v9) rfl (by kernel_rfl) (by kernel_rfl) (by kernel_rfl) (fun _ _ _ h => h) (Or.inl ⟨by rfl, ?y9⟩) hS ?r9; (case y9 => (intro W hW; (go_simp); (try with_reducible rfl); done)); try simp only [Act.put, List.setIfInBounds_toArray, List.set_cons_zero, List.set_cons_succ])
        (refine hOne (i := 12) rfl (by kernel_rfl) (fun K hK => ?_))
        rw [if_pos (by rfl)]
        refine wp_store_row 29 _ _ rfl gn cs.toArray rfl rfl _ _ hn4.out (by rw [hcs.out]; exact info_node) (by rw [hcs.out]; rfl) (by simpa using hone.out) ?_
        (refine hK.out _ _ (by exact h85) (fun hS => ?_); clear hK K; try simp only [Act.put, List.setIfInBounds_toArray, List.set_cons_zero, List.set_cons_succ])
        (refine hTake (i := 13) (v := ?v10) rfl (by kernel_rfl) (by kernel_rfl) (by kernel_rfl) (fun _ _ _ h => h) (Or.inl ⟨by rfl, ?y10⟩) hS ?r10; (case y10 => (intro W hW; (go_simp); (try with_reducible rfl); done)); try simp only [Act.put, List.setIfInBounds_toArray, List.set_cons_zero, List.set_cons_succ])
        refine wpAnyH_done (by kernel_rfl) ?_ _
        clear h84 h85 h8
        go_upto_region 11 with fail
        refine code_at (DecX w gn cs (Nd.shape xs).1) hX.out ?_
        clear hX hn4 hN
        clear hS
        clear hS
        clear hS
        clear hg3
        clear w4 w3
        intro w4 hX4
        replace hX4 := Lib.hid hX4
        have hsz4 := hX4.out.bel.size
        have hR4 : (∀ r ∈ Nd.refs (Nd.shape xs).1, r.kind = 1 → NodC r.inl) := fun r hr _ => ih.out _ (hsh.out r hr)
        replace hR4 := Lib.hid hR4
        generalize (Nd.shape xs).1 = X at *
        generalize (Nd.shape xs).2 = ok at *
        cases ok with
        | false =>
          have hRn := Lib.hid (show R = none by rw [hR.out]; simp)
          go_wp2_with (first
            | (refine wpList_store_row rfl 29 _ _ rfl w.heap.size noZ rfl rfl _ _ hX4.out.res info_node rfl noZ_one ?_)
            | fail)
          refine bodyPost_ret (v := .tuple #[.agg noZ, .int .i64 50]) (results_row_tmp rfl _ _ w.heap.size _ noZ _ _ _ rfl rfl (hX4.out.res.row _) Try.underlying29 rfl info_node) rfl ?_
          rw [hnq.out, hRn.out]
          exact ⟨below_row hX4.out.bel (Nat.le_refl _) _, rfl⟩
        | true =>
          have hrgt := node_Right (fun q => q < w4.heap.size) (.agg cs.toArray) X w4 (hX4.out.nin.move (fun q h1 h2 => ⟨h2, rfl⟩) (Nat.le_refl _)) (fun q h => h) hR4.out
          have hrg4 := hX4.out.range
          generalize Nd.right Nd.dec X = RT at *
          go_wp2_with (first
            | (refine wpList_mid_g (by rfl) 29 _ rfl gn 0 rfl cs _ hrg4 Try.underlying29 rfl (by rw [hcl.out]; exact info_node) ?_)
            | fail)
          refine hrgt.mono ?_
          rintro e w5 ⟨rfl, hb5⟩
          have hX5 := Lib.hid (hX4.out.step hb5)
          clear hrg4 hrgt hb5
          cases RT with
          | false =>
            have hRn := Lib.hid (show R = none by rw [hR.out]; simp)
            go_wp2_with (first
              | (refine wpList_store_row rfl 29 _ _ rfl w.heap.size noZ rfl rfl _ _ hX5.out.res info_node rfl noZ_one ?_)
              | fail)
            refine bodyPost_ret (v := .tuple #[.agg noZ, .int .i64 50]) (results_row_tmp rfl _ _ w.heap.size _ noZ _ _ _ rfl rfl (hX5.out.res.row _) Try.underlying29 rfl info_node) rfl ?_
            rw [hnq.out, hRn.out]
            exact ⟨below_row hX5.out.bel (Nat.le_refl _) _, rfl⟩
          | true =>
            have hRn := Lib.hid (show R = some X by rw [hR.out]; simp)
            go_wp2_with (first
              | (refine wpList_load_row rfl 29 _ rfl gn rfl _ _ _ _ hX5.out.n Try.underlying29 rfl (by rw [hcs.out]; exact info_node) ?_)
              | (refine wpList_store_row rfl 29 _ _ rfl w.heap.size cs.toArray rfl rfl _ _ hX5.out.res (by rw [hcs.out]; exact info_node) (by rw [hcs.out]; rfl) (by simpa using hone.out) ?_)
              | fail)
            refine bodyPost_ret (v := .tuple #[.agg cs.toArray, .int .i64 0]) (results_row_tmp rfl _ _ w.heap.size _ cs.toArray _ _ _ rfl rfl (hX5.out.res.row _) Try.underlying29 rfl (by rw [hcs.out]; exact info_node)) rfl ?_
            rw [hnq.out, hRn.out]
            exact ⟨below_row hX5.out.bel (Nat.le_refl _) _, _, rfl, hX5.out.nin.move (fun q h1 h2 => ⟨Nat.le_of_lt h1.1, setRow_other _ _ q _ (by omega)⟩) (by simp)⟩
      have h17' : ¬ (n2 : Int) = 17 := by omega
      have h2' : ¬ (n2 : Int) = 2 := by omega
      have hR2 := Lib.hid (show R = none by rw [hR.out, Nd.shape_else xs (by rw [← hn2.out]; exact h17) (by rw [← hn2.out]; exact h2)]; simp)
      clear hlt1
      go_wp2_with (first
        | (refine wpList_store_row rfl 29 _ _ rfl w.heap.size noZ rfl rfl _ _ hN.out.d.res info_node rfl noZ_one ?_)
        | fail)
      refine bodyPost_ret (v := .tuple #[.agg noZ, .int .i64 50]) (results_row_tmp rfl _ _ w.heap.size _ noZ _ _ _ rfl rfl (hN.out.d.res.row _) Try.underlying29 rfl info_node) rfl ?_
      rw [hnq.out, hR2.out]
      exact ⟨below_row hN.out.d.bel (Nat.le_refl _) _, rfl⟩
/-- package node: Decode -/
theorem node_Decode (b : List UInt8) : NodC b := by
  obtain ⟨n, hn⟩ : ∃ n, b.length = n := ⟨_, rfl⟩
  induction n using Nat.strongRecOn generalizing b with
  | _ n ih => exact node_DecodeI b fun b' h => ih _ (by omega) b' rfl
end Go.Proofs.YtahaaeenbahknaaRRRR
