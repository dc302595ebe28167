/-
  Package node: item (a reference as an item).
-/
import Derived.Test.YtahaaeenbahknaaRRRRNo5
import Derived.Test.YtahaaeenbahknaaRRRRNodL
import Derived.Test.YtahaaeenbahknaaRRRRNe1
namespace Go.Proofs.YtahaaeenbahknaaRRRR
open Go.RowKit

theorem Sits.down {S : Nat → Prop} {w : World} : ∀ (d : Nat) (v : Value) (y : Ns.It d), Sits S w (d + 1) v (Ns.up d y) → Sits S w d v y
  | 0, _, y, _ => nomatch y
  | _ + 1, _, .inl _, h => h
  | d + 1, _, .inr ys, h => by
    obtain ⟨A, n, c, vs, h1, h2, h3, h4, h5, h6⟩ := h
    refine ⟨A, n, c, vs, h1, by rw [h2, List.length_map], h3, h4, h5, by rw [h6.1, List.length_map], fun i y hy => ?_⟩
    obtain ⟨v, hv, hs⟩ := h6.2 i (Ns.up d y) (by rw [List.getElem?_map, hy]; rfl)
    exact ⟨v, hv, Sits.down d v y hs⟩
/-- what item answers -/
def ItmQ (r : Nd.Rf) (w : World) (e : Ending) (w' : World) : Prop := ∃ v, e = .returned v ∧ Sits (fun q => w.heap.size ≤ q) w' 8 v (Nd.itOf r) ∧ Below w.heap.size w w'
/-- in the midst of item -/
structure ItmI (w : World) (row : Array Value) (W : World) : Prop where
  r : Blk W w.heap.size 26 row
  res : Blk W (w.heap.size + 1) 46 rowZ
  bel : Below w.heap.size w W
  sz : w.heap.size + 2 ≤ W.heap.size
theorem ItmI.step {w W W' : World} {row : Array Value} (h : ItmI w row W) (hb : Below W.heap.size W W') : ItmI w row W' := by
  have := h.sz
  exact ⟨h.r.below hb h.r.lt, h.res.below hb h.res.lt, h.bel.trans (hb.mono h.bel.size), Nat.le_trans h.sz hb.size⟩
theorem NewB.sits {w w' : World} {A : Option Addr} {m c : Nat} {l : List UInt8} (h : NewB w w' A m c l) : Sits (fun q => w.heap.size ≤ q) w' 8 (txV A m c) (Ns.tx l) :=
  ⟨A, m, c, rfl, h.1, (Own.of_row h.2.1).cap, (Own.of_row h.2.1).lim, InS.of_own (Own.of_row h.2.1)⟩
theorem itm_done {w w1 w3 : World} {row r3 : Array Value} {x : Ns.It 8} (h : ItmI w row w3) (hb : w.heap.size + 2 ≤ w1.heap.size) (hs : Sits (fun q => w1.heap.size ≤ q) w3 8 (.agg r3) x) :
    Sits (fun q => w.heap.size ≤ q) (w3.setRow (w.heap.size + 1) r3) 8 (.agg r3) x ∧ Below w.heap.size w (w3.setRow (w.heap.size + 1) r3) :=
  ⟨hs.move _ _ _ (fun q h1 h2 => ⟨by omega, setRow_other _ _ q _ (by omega)⟩) (by simp), below_row h.bel (by omega) _⟩
set_option maxHeartbeats 2000000 in
set_option maxRecDepth 100000 in
theorem node_item (S : Nat → Prop) (v : Value) (r : Nd.Rf) (w : World) (hv : RefIn S w v r) (hS : ∀ q, S q → q < w.heap.size) (hr : Nd.rightRef Nd.dec r = true) :
    Calls Try.prog 21 #[v] w (ItmQ r w) := by
  obtain ⟨A, n, c, rfl, hd, hn, hc, hm, hin⟩ := hv
  have hB : Bytes w w.heap.size A n c r.inl := ⟨hn, hc, hm, hin.reads fun q _ h => h⟩
  have hI : ItmI w (refRow r.kind r.dig A n c) ((w.alloc (.cells (refRow r.kind r.dig A n c) 26)).alloc (.cells rowZ 46)) :=
    ⟨(Blk.new w _ _).alloc _, Blk.new' (by simp), ((Below.refl _ _).alloc (Nat.le_refl _) _).alloc (by simp) _, by simp⟩
  obtain ⟨k, d, inl⟩ := r
  simp only at hd hn hB hI ⊢
  clear hin
  have g0 : ((w.alloc (.cells (refRow k d A n c) 26)).alloc (.cells #[.bool false, .slice none 0 0, .slice none 0 0] 46)).cell? ⟨w.heap.size, 0, none⟩ = some (.int .i64 k) := (hI.r.cell 0).trans refRow_zero
  have g33 : ((w.alloc (.cells (refRow k d A n c) 26)).alloc (.cells #[.bool false, .slice none 0 0, .slice none 0 0] 46)).cell? ⟨w.heap.size, 33, none⟩ = some (.slice A n c) := (hI.r.cell 33).trans (refRow_last hd)
  have hBd : Bytes ((w.alloc (.cells (refRow k d A n c) 26)).alloc (.cells rowZ 46)) (w.heap.size + 1) (some ⟨w.heap.size, 1, none⟩) 32 32 d :=
    ⟨hd.symm, Nat.le_refl _, by unfold maxLen; omega, by rw [bv_length, hd], fun _ => ⟨w.heap.size, 1, rfl, by omega, fun j u hu => hI.r.dig j u hu⟩⟩
  generalize refRow k d A n c = R at *
  subst hn
  have hsz := hI.sz
  have hlim := hB.cap
  replace hB := Lib.hid hB
  by_cases h1 : k = 1
  · subst h1
    obtain ⟨hdz, h32, m, hm'⟩ := Nd.rightRef_inline hr rfl
    simp only at h32 hm'
    obtain ⟨y, hy, hl, he, hf⟩ := Nd.inline_item hm' h32
    have hit : Nd.itOf ⟨1, d, inl⟩ = y := by
      unfold Nd.itOf
      rw [if_pos rfl]
      simp only [hy, Nd.down_up]
    have hdc := nest_Decode A inl.length c inl _ ((hB.out.below hI.bel).more (by omega))
    replace hI := Lib.hid hI
    replace hy := Lib.hid hy
    replace hit := Lib.hid hit
    clear hr hdz hm' he hf hl hBd
    go_enter Try.func21, Try.ntmps21
    go_wp2_with fail
    refine hdc.mono ?_
    rintro e w1 ⟨hb1, hq⟩
    rw [hy.out] at hq
    obtain ⟨v, rfl, hv⟩ := hq
    obtain ⟨a, b, z, rfl, hcl, hone⟩ := hv.cells
    have hv8 := Sits.down 8 _ _ hv
    have hI1 := hI.out.step hb1
    have hst := itB_stored (wr := w1) #[a, b, z]
    have hs1 := hb1.size
    clear hdc hv hcl hy hb1 g0 g33
    replace hv8 := Lib.hid hv8
    replace hI1 := Lib.hid hI1
    replace hst := Lib.hid hst
    clear hI
    go_wp2_with (first
      | (refine wpList_load_row rfl 46 _ rfl w1.heap.size rfl _ _ _ _ hI2.out.it Try.underlying46 rfl info_item3 ?_)
      | (refine wpList_store_row rfl 46 _ _ rfl (w.heap.size + 1) #[a, b, z] rfl rfl _ _ (hI1.out.step hI2.out.bel).res info_item3 rfl (by simpa using hone) ?_)
      | (refine wpList_store_row rfl 46 _ _ rfl w1.heap.size #[a, b, z] rfl rfl _ _ (Blk.new w1 46 rowZ) info_item3 rfl (by simpa using hone) ?_; refine list_at (ItB w1 _) hst.out ?_; intro w2 hI2; replace hI2 := Lib.hid hI2)
      | fail)
    refine bodyPost_ret (v := .agg #[a, b, z]) (results_cell_row rfl _ _ (w.heap.size + 1) _ #[a, b, z] _ _ rfl ((hI1.out.step hI2.out.bel).res.row _) Try.underlying46 rfl info_item3) rfl ?_
    have hfin := itm_done (hI1.out.step hI2.out.bel) (w1 := ((w.alloc (.cells R 26)).alloc (.cells rowZ 46))) hsz (hv8.out.move _ _ _ (fun q h1 h2 => ⟨h1, hI2.out.bel.block q h2⟩) hI2.out.bel.size)
    exact ⟨_, rfl, by rw [hit.out]; exact hfin.1, hfin.2⟩
  by_cases h2 : k = 2
  · subst h2
    have hit : Nd.itOf ⟨2, d, inl⟩ = Ns.tx d := rfl
    have htx := nest_Text (some ⟨w.heap.size, 1, none⟩) 32 32 d _ (hBd.more (by omega)) (by omega)
    replace hI := Lib.hid hI
    replace hit := Lib.hid hit
    clear hr hBd
    go_enter Try.func21, Try.ntmps21
    go_wp2_with fail
    refine htx.mono ?_
    rintro e w1 ⟨A1, m1, c1, rfl, hN⟩
    have hI1 := Lib.hid (hI.out.step hN.2.2)
    have hv8 := Lib.hid hN.sits
    clear htx g0 g33 hI hN
    unfold txV at *
    go_wp2_with (first
      | (refine wpList_store_row rfl 46 _ _ rfl (w.heap.size + 1) #[.bool false, .slice A1 m1 c1, .slice none 0 0] rfl rfl _ _ hI1.out.res info_item3 rfl (by simp [Value.oneCell']) ?_)
      | fail)
    refine bodyPost_ret (v := .agg #[.bool false, .slice A1 m1 c1, .slice none 0 0]) (results_cell_row rfl _ _ (w.heap.size + 1) _ #[.bool false, .slice A1 m1 c1, .slice none 0 0] _ _ rfl (hI1.out.res.row _) Try.underlying46 rfl info_item3) rfl ?_
    have hfin := itm_done hI1.out (w1 := ((w.alloc (.cells R 26)).alloc (.cells rowZ 46))) hsz hv8.out
    exact ⟨_, rfl, by rw [hit.out]; exact hfin.1, hfin.2⟩
  · have hit : Nd.itOf ⟨k, d, inl⟩ = Ns.tx [] := by unfold Nd.itOf; rw [if_neg h1, if_neg h2]
    have htx := nest_Text none 0 0 [] ((w.alloc (.cells R 26)).alloc (.cells rowZ 46)) (Bytes.none_ _ _ _ (by unfold maxLen; omega)) (by simp)
    replace hI := Lib.hid hI
    replace hit := Lib.hid hit
    clear hr hBd
    go_enter Try.func21, Try.ntmps21
    go_wp2_with fail
    refine htx.mono ?_
    rintro e w1 ⟨A1, m1, c1, rfl, hN⟩
    have hI1 := Lib.hid (hI.out.step hN.2.2)
    have hv8 := Lib.hid hN.sits
    clear htx g0 g33 hI hN
    unfold txV at *
    go_wp2_with (first
      | (refine wpList_store_row rfl 46 _ _ rfl (w.heap.size + 1) #[.bool false, .slice A1 m1 c1, .slice none 0 0] rfl rfl _ _ hI1.out.res info_item3 rfl (by simp [Value.oneCell']) ?_)
      | fail)
    refine bodyPost_ret (v := .agg #[.bool false, .slice A1 m1 c1, .slice none 0 0]) (results_cell_row rfl _ _ (w.heap.size + 1) _ #[.bool false, .slice A1 m1 c1, .slice none 0 0] _ _ rfl (hI1.out.res.row _) Try.underlying46 rfl info_item3) rfl ?_
    have hfin := itm_done hI1.out (w1 := ((w.alloc (.cells R 26)).alloc (.cells rowZ 46))) hsz hv8.out
    exact ⟨_, rfl, by rw [hit.out]; exact hfin.1, hfin.2⟩
end Go.Proofs.YtahaaeenbahknaaRRRR
