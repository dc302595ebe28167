/-
  The reader of package nest: list.
-/
import Derived.Test.YtahaaeenbahknaaRRRRRd2
import Derived.Test.YtahaaeenbahknaaRRRRRegM
import Derived.Deep.LoopGhost
namespace Go.Proofs.YtahaaeenbahknaaRRRR
open Go.RowKit

namespace Ns
theorem item_shorter {d : Nat} {l : List UInt8} {x : It (d + 1)} {r : List UInt8} (h : item d l = .ok (x, r)) : r.length < l.length := by
  have h1 := (item_ok d l x r h).1
  have h2 := enc_pos (d + 1) x
  rw [h1, List.length_append]; omega
end Ns
/-- the loop of list: so many rounds at most are to come -/
def ListI (d : Nat) (w : World) (g gin : Nat) (A3 : Option Addr) (n3 c3 : Nat) (rest : List UInt8) (t : List UInt8) (k : Nat) (wr : World) : Prop :=
  w.grownBy wr (some g) ∧ RdIs wr g A3 n3 c3 rest ∧ Blk wr w.heap.size 46 rowZ ∧
  ∃ A m c vs, Blk wr (gin + 1) 46 #[.bool true, .slice none 0 0, .slice A m c] ∧ wr.ownsRow (gin + 2) 46 3 (.slice A m c) m (flat vs) ∧ gin + 2 ≤ wr.heap.size ∧ m + k ≤ t.length + 1 ∧
  ((∃ A' n' c' r done j, RdIs wr gin A' n' c' r ∧ r.length + 1 = k ∧ r.length ≤ j ∧ m = done.length ∧ All2 (Sits (fun b => gin + 2 ≤ b ∧ (Value.slice A m c).ownBlock ≠ some b) wr (d + 1)) vs done ∧
      Ns.many (Ns.item d) t.length t = (match Ns.many (Ns.item d) j r with | .ok xs => .ok (done ++ xs) | .error e => .error e))
    ∨ (∃ e, RdBad wr gin e ∧ e ≠ 0 ∧ Ns.many (Ns.item d) t.length t = .error e))

theorem RdIs.keep {w w' : World} {g n c : Nat} {A : Option Addr} {l : List UInt8} (h : RdIs w g A n c l) (hk : ∀ q, q ≤ g → w'.heap[q]? = w.heap[q]?) : RdIs w' g A n c l :=
  ⟨(hk g (Nat.le_refl _)).trans h.cells, ⟨h.txt.len, h.txt.cap, h.txt.lim, h.txt.reads.keep fun p hp => World.cell?_of_block (hk p.block (Nat.le_of_lt hp))⟩⟩
/-- what the callee answers, by its three cells -/
theorem ItemQ.rows {d : Nat} {x : Except Int (Ns.It (d + 1) × List UInt8)} {g : Nat} {w w' : World} {e : Ending} (h : ItemQ x g w e w') : ∃ a b c, e = .returned (.agg #[a, b, c]) ∧ (∀ u ∈ [a, b, c], u.oneCell' = true) ∧ (Value.agg #[a, b, c]).cells.toList = [a, b, c] ∧ w.grownBy w' (some g) ∧
    ((∃ y r, x = .ok (y, r) ∧ Sits (fun b => w.heap.size ≤ b) w' (d + 1) (.agg #[a, b, c]) y ∧ ∃ A n c, RdIs w' g A n c r) ∨ (∃ k, x = .error k ∧ RdBad w' g k ∧ k ≠ 0)) := by
  obtain ⟨hg, h⟩ := h
  cases x with
  | error k =>
    obtain ⟨rfl, hb, hk⟩ := h
    exact ⟨_, _, _, rfl, by simp [Value.oneCell'], rfl, hg, .inr ⟨k, rfl, hb, hk⟩⟩
  | ok p =>
    obtain ⟨y, r⟩ := p
    obtain ⟨v, rfl, hv, hr⟩ := h
    obtain ⟨a, b, c, rfl, hc, h1⟩ := hv.cells
    exact ⟨a, b, c, rfl, h1, hc, hg, .inl ⟨y, r, rfl, hv, hr⟩⟩
theorem list_round {d : Nat} {w wr w2 w5 : World} {g gin n3 c3 m c c5 j gk : Nat} {A3 A A5 : Option Addr} {rest t : List UInt8} {y : UInt8} {r : List UInt8} {vs : List Value} {a b cc : Value} {done : List (Ns.It (d + 1))} {o : Obj}
    (hg : g < w.heap.size) (hgin : w.heap.size < gin) (hgr : w.grownBy wr (some g)) (hro : RdIs wr g A3 n3 c3 rest) (hR : Blk wr w.heap.size 46 rowZ)
    (hX : Blk wr (gin + 1) 46 #[.bool true, .slice none 0 0, .slice A m c]) (hown : wr.ownsRow (gin + 2) 46 3 (.slice A m c) m (flat vs)) (hsz : gin + 2 ≤ wr.heap.size) (hmk : m + gk ≤ t.length + 1)
    (hrk : (y :: r).length + 1 = gk) (hrj : (y :: r).length ≤ j) (hm : m = done.length) (hall : All2 (Sits (fun b => gin + 2 ≤ b ∧ (Value.slice A m c).ownBlock ≠ some b) wr (d + 1)) vs done)
    (hmany : Ns.many (Ns.item d) t.length t = (match Ns.many (Ns.item d) j (y :: r) with | .ok xs => .ok (done ++ xs) | .error e => .error e))
    (hg2 : wr.grownBy w2 (some gin)) (hg5 : (w2.alloc o).grownBy w5 (Value.slice A m c).ownBlock) (hown5 : w5.ownsRow (gin + 2) 46 3 (.slice A5 (m + 1) c5) (m + 1) (flat vs ++ [a, b, cc]))
    (hob : (Value.slice A5 (m + 1) c5).ownBlock = (Value.slice A m c).ownBlock ∨ (Value.slice A5 (m + 1) c5).ownBlock = some (w2.alloc o).heap.size)
    (hcells : (Value.agg #[a, b, cc]).cells.toList = [a, b, cc]) (hcase : (∃ x r2, Ns.item d (y :: r) = .ok (x, r2) ∧ Sits (fun b => wr.heap.size ≤ b) w2 (d + 1) (.agg #[a, b, cc]) x ∧ ∃ A n c, RdIs w2 gin A n c r2) ∨ (∃ k, Ns.item d (y :: r) = .error k ∧ RdBad w2 gin k ∧ k ≠ 0)) :
    ∃ k', k' < gk ∧ ListI d w g gin A3 n3 c3 rest t k' (w5.setCell ⟨gin + 1, 2, none⟩ (.slice A5 (m + 1) c5)) := by
  have hs2 := hg2.size
  have hs4 : (w2.alloc o).heap.size = w2.heap.size + 1 := by simp
  have hs5 := hg5.size
  have hol := hown.lt
  have hol5 := hown5.lt
  -- from w2 on
  have k2 : ∀ q, q < w2.heap.size → q ≠ gin + 1 → (Value.slice A m c).ownBlock ≠ some q → (w5.setCell ⟨gin + 1, 2, none⟩ (.slice A5 (m + 1) c5)).heap[q]? = w2.heap[q]? := by
    intro q h1 h2 h3
    rw [Below.heap_setCell w5 ⟨gin + 1, 2, none⟩ _ q h2, hg5.block q (by omega) (fun e => h3 e.symm), Below.heap_alloc w2 o q h1]
  have kr : ∀ q, q < wr.heap.size → q ≠ gin → q ≠ gin + 1 → (Value.slice A m c).ownBlock ≠ some q → (w5.setCell ⟨gin + 1, 2, none⟩ (.slice A5 (m + 1) c5)).heap[q]? = wr.heap[q]? := by
    intro q h1 h0 h2 h3
    rw [k2 q (by omega) h2 h3, hg2.block q h1 (by simp; exact h0)]
  have hlow : ∀ q, q < gin + 2 → (Value.slice A m c).ownBlock ≠ some q := fun q h e => by have := (hol q e).1; omega
  have hs6 : (w5.setCell ⟨gin + 1, 2, none⟩ (.slice A5 (m + 1) c5)).heap.size = w5.heap.size := size_set _ _ _
  have hgr6 : w.grownBy (w5.setCell ⟨gin + 1, 2, none⟩ (.slice A5 (m + 1) c5)) (some g) := by
    have h1 := World.grownBy.andThen hgr hg2 (fun j hj => .inl (by cases hj; omega))
    have h2 := World.grownBy.andThen (grown_alloc h1 o) hg5 (fun j hj => .inl (by have := (hol j hj).1; omega))
    exact grown_far h2 (show w.heap.size ≤ gin + 1 by omega) _
  have hro6 := hro.keep (w' := w5.setCell ⟨gin + 1, 2, none⟩ (.slice A5 (m + 1) c5)) (fun q hq => kr q (by omega) (by omega) (by omega) (hlow q (by omega)))
  have hR6 : Blk (w5.setCell ⟨gin + 1, 2, none⟩ (.slice A5 (m + 1) c5)) w.heap.size 46 rowZ := (kr _ (by omega) (by omega) (by omega) (hlow _ (by omega))).trans hR
  have hX5 : Blk w5 (gin + 1) 46 #[.bool true, .slice none 0 0, .slice A m c] := by
    have h1 : w5.heap[gin + 1]? = wr.heap[gin + 1]? := by
      rw [hg5.block (gin + 1) (by omega) (fun e => hlow _ (by omega) e.symm), Below.heap_alloc w2 o (gin + 1) (by omega), hg2.block (gin + 1) (by omega) (by simp)]
    exact h1.trans hX
  have hX6 : Blk (w5.setCell ⟨gin + 1, 2, none⟩ (.slice A5 (m + 1) c5)) (gin + 1) 46 #[.bool true, .slice none 0 0, .slice A5 (m + 1) c5] := (hX5.set_ 2 _).eq rfl
  have hown6 : (w5.setCell ⟨gin + 1, 2, none⟩ (.slice A5 (m + 1) c5)).ownsRow (gin + 2) 46 3 (.slice A5 (m + 1) c5) (m + 1) (flat vs ++ [a, b, cc]) :=
    hown5.kept (row := some (gin + 1)) (grown_set (World.grownBy.refl w5 _)) (.inr (fun e => by have := (hol5 _ e).1; omega))
  rcases hcase with ⟨x, r2, hx, hv, A', n', c', hr2⟩ | ⟨k, hx, ⟨s1, s2, s3, hb⟩, hk⟩
  · have hlt := Ns.item_shorter hx
    refine ⟨r2.length + 1, by omega, hgr6, hro6, hR6, A5, m + 1, c5, vs ++ [.agg #[a, b, cc]], hX6, ?_, by omega, by omega, .inl ⟨A', n', c', r2, done ++ [x], j - 1, ?_, rfl, by omega, by rw [List.length_append, hm]; rfl, ?_, ?_⟩⟩
    · rw [flat_append, flat_one, hcells]; exact hown6
    · exact hr2.keep (fun q hq => k2 q (by omega) (by omega) (hlow q (by omega)))
    · refine All2.snoc (hall.imp fun v x hx => hx.move _ _ _ (fun q h1 h2 => ?_) (by omega)) (hv.move _ _ _ (fun q h1 h2 => ?_) (by omega))
      · refine ⟨⟨h1.1, fun e => ?_⟩, kr q h2 (by omega) (by omega) h1.2⟩
        rcases hob with h | h
        · exact h1.2 (h ▸ e)
        · rw [h] at e; injection e with e; omega
      · have hne : (Value.slice A m c).ownBlock ≠ some q := fun e => by have := (hol q e).2; omega
        refine ⟨⟨by omega, fun e => ?_⟩, k2 q h2 (by omega) hne⟩
        rcases hob with h | h
        · exact hne (h ▸ e)
        · rw [h] at e; injection e with e; omega
    · rw [hmany]
      obtain ⟨j, rfl⟩ : ∃ i, j = i + 1 := ⟨j - 1, by simp at hrj; omega⟩
      simp only [Ns.many, hx, Nat.add_sub_cancel]
      cases Ns.many (Ns.item d) j r2 with
      | error e => rfl
      | ok xs => simp
  · refine ⟨0, by omega, hgr6, hro6, hR6, A5, m + 1, c5, vs ++ [.agg #[a, b, cc]], hX6, ?_, by omega, by omega, .inr ⟨k, ⟨s1, s2, s3, ?_⟩, hk, ?_⟩⟩
    · rw [flat_append, flat_one, hcells]; exact hown6
    · exact (k2 gin (by omega) (by omega) (hlow _ (by omega))).trans hb
    · rw [hmany]
      obtain ⟨j, rfl⟩ : ∃ i, j = i + 1 := ⟨j - 1, by simp at hrj; omega⟩
      simp only [Ns.many, hx]
theorem list_start (d : Nat) (w w3 : World) (g n3 c3 c2 : Nat) (A3 A2 : Option Addr) (rest t : List UInt8) (hg : g < w.heap.size) (hgr : w.grownBy w3 (some g)) (hr : RdIs w3 g A3 n3 c3 rest)
    (hb : Blk w3 w.heap.size 46 rowZ) (ht : Bytes w3 g A2 t.length c2 t) :
    ListI d w g w3.heap.size A3 n3 c3 rest t (t.length + 1) ((w3.alloc (.cells #[.slice A2 t.length c2, .int .i64 0] 79)).alloc (.cells #[.bool true, .slice none 0 0, .slice none 0 0] 46)) := by
  have hg3 : g ≤ w3.heap.size := by have := hr.cells.lt; omega
  have hs : (w3.alloc (.cells #[.slice A2 t.length c2, .int .i64 0] 79)).heap.size = w3.heap.size + 1 := by simp
  refine ⟨grown_alloc (grown_alloc hgr _) _, ⟨(hr.cells.alloc _).alloc _, (hr.txt.alloc hg3 _).alloc (by omega) _⟩, (hb.alloc _).alloc _, none, 0, 0, [], Blk.new' hs.symm, World.ownsRow_nil _ _ _ _, by simp, by omega, .inl ?_⟩
  exact ⟨A2, t.length, c2, t, [], t.length, ⟨(Blk.new w3 _ _).alloc _, ((ht.alloc hg3 _).alloc (by omega) _).more hg3⟩, rfl, Nat.le_refl _, rfl, All2.nil, by cases Ns.many (Ns.item d) t.length t <;> rfl⟩
set_option maxHeartbeats 2000000 in
set_option maxRecDepth 100000 in
theorem rd_list_core (d : Nat) (D : Int) (hD : 0 ≤ D) (hD2 : D ≤ 8)
    (hitem : ∀ (g : Nat) (A : Option Addr) (n c : Nat) (l : List UInt8) (w : World), RdIs w g A n c l →
      Calls Try.prog 43 #[.pointer (some ⟨g, 0, none⟩), .int .i64 (D + 1)] w (ItemQ (Ns.item d l) g w)) : ItList (d + 1) D := by
  intro g c0 A n c l w h hc0
  have hg := h.cells.lt
  have hr0 : RdIs (w.alloc (.cells rowZ 46)) g A n c l := ⟨h.cells.alloc _, h.txt.alloc (Nat.le_of_lt hg) _⟩
  have hb0 : Blk (w.alloc (.cells rowZ 46)) w.heap.size 46 rowZ := Blk.new w _ _
  have hg0 : w.grownBy (w.alloc (.cells rowZ 46)) (some g) := grown_alloc (World.grownBy.refl w _) _
  clear h
  have hc256 := c0.toNat_lt
  rw [Ns.item_ls d c0 l (by omega)]
  rw [show (c0.toNat : Int) - 192 = ((c0.toNat - 192 : Nat) : Int) by omega]
  have hk : c0.toNat - 192 ≤ 63 := by omega
  have hx := Lib.hid (show Ns.listOf (Ns.item d) c0 l = _ from by unfold Ns.listOf; rfl)
  generalize Ns.listOf (Ns.item d) c0 l = X at hx ⊢
  generalize c0.toNat - 192 = k at hk hx ⊢
  clear hc256 hc0
  have hsz := rd_size g k A n c l _ hr0 (by omega)
  replace hitem := Lib.hid hitem
  go_enter Try.func50, Try.ntmps50
  go_wp2_with fail
  refine hsz.mono ?_
  rintro e w2 ⟨hg2, hq⟩
  have hb2 := Lib.hid (hb0.grown hg2 (by omega))
  have hb2l := hb2.out.lt
  have hgr2 := Lib.hid (hg0.trans hg2)
  clear hsz hb0 hr0 hg0 hg2
  cases hs : Ns.size k l with
  | error kb =>
    rw [hs] at hq
    have hx2 := hx.out
    rw [hs] at hx2
    replace hx2 := Lib.hid hx2
    have hkb := Lib.hid (Ns.size_bad hs)
    clear hx hs
    obtain ⟨rfl, hbad⟩ := hq
    go_wp2_with (refine wpList_store_row rfl 46 _ _ rfl w.heap.size #[.bool false, .slice none 0 0, .slice none 0 0] rfl rfl _ _ hb2.out info_item3 rfl (by simp [Value.oneCell']) ?_)
    go_wp2_with fail
    refine bodyPost_ret (v := .agg #[.bool false, .slice none 0 0, .slice none 0 0]) (results_cell_row rfl _ _ w.heap.size _ #[.bool false, .slice none 0 0, .slice none 0 0] _ _ rfl (hb2.out.row _) Try.underlying46 rfl info_item3) rfl ?_
    exact ItemQ.bad hx2.out (grown_row hgr2.out (Nat.le_refl _) _) (by obtain ⟨s1, s2, s3, hs⟩ := hbad; exact ⟨s1, s2, s3, hs.row_far _ (by omega)⟩) (by have := hkb.out; omega)
  | ok p =>
    obtain ⟨v, r⟩ := p
    rw [hs] at hq
    have hx2 := hx.out
    rw [hs] at hx2
    replace hx2 := Lib.hid hx2
    have hv24 : v ≤ Ns.maxBytes := (Ns.size_ok (base := 128) (by decide) hs (by omega)).2
    clear hx hs
    obtain ⟨rfl, A2, n2, c2, hr2⟩ := hq
    by_cases hv : r.length < v
    · have hx3 := hx2.out
      simp only [if_pos hv] at hx3
      replace hx3 := Lib.hid hx3
      have hf := rd_take_no g v A2 n2 c2 r w2 hr2 hv
      go_wp2_with fail
      refine hf.mono ?_
      rintro e w3 ⟨rfl, hbad, hg3⟩
      have hb3 := hb2.out.grown hg3 (by omega)
      have hb3l := hb3.lt
      have hgr3 := Lib.hid (hgr2.out.trans hg3)
      clear hf hr2 hgr2 hb2 hg3
      go_wp2_with (refine wpList_store_row rfl 46 _ _ rfl w.heap.size #[.bool false, .slice none 0 0, .slice none 0 0] rfl rfl _ _ hb3 info_item3 rfl (by simp [Value.oneCell']) ?_)
      go_wp2_with fail
      refine bodyPost_ret (v := .agg #[.bool false, .slice none 0 0, .slice none 0 0]) (results_cell_row rfl _ _ w.heap.size _ #[.bool false, .slice none 0 0, .slice none 0 0] _ _ rfl (hb3.row _) Try.underlying46 rfl info_item3) rfl ?_
      exact ItemQ.bad hx3.out (grown_row hgr3.out (Nat.le_refl _) _) (by obtain ⟨s1, s2, s3, hs⟩ := hbad; exact ⟨s1, s2, s3, hs.row_far _ (by omega)⟩) (by decide)
    · have hf := rd_take g v A2 n2 c2 r w2 hr2 (by omega)
      have htk := hr2.txt.takeN (k := v) (by have := hr2.txt.len; omega)
      have hx3 := hx2.out
      simp only [if_neg hv] at hx3
      replace hx3 := Lib.hid hx3
      clear hx2
      go_wp2_with fail
      refine hf.mono ?_
      rintro e w3 ⟨rfl, ⟨A3, hr3⟩, hg3⟩
      have hb3 := Lib.hid (hb2.out.grown hg3 (by omega))
      have hb3l := hb3.out.lt
      have hgr3 := Lib.hid (hgr2.out.trans hg3)
      replace htk := htk.grown hg3 (Nat.le_refl _) (by omega)
      generalize n2 - v = n3 at hr3
      generalize c2 - v = c3 at hr3
      replace hr3 := Lib.hid hr3
      clear hf hr2 hgr2 hb2 hg3
      have htl : (r.take v).length = v := by rw [List.length_take]; omega
      generalize r.take v = t at htk htl hx3
      generalize r.drop v = rest at hr3 hx3
      subst htl
      replace htk := Lib.hid htk
      clear hv
      go_wp2_with fail
      have hstart := Lib.hid (list_start d w w3 g n3 c3 c2 A3 A2 rest t hg hgr3.out hr3.out hb3.out htk.out)
      have hgin := hb3l
      clear hr3 hb3 htk hgr3 hk hb2l
      go_loopg [32] (t.length + 1) (fun k _ wr => ListI d w g w3.heap.size A3 n3 c3 rest t k wr)
      case atStart => exact hstart.out
      case round =>
        clear hstart
        generalize w3.heap.size = gin at *
        obtain ⟨hgr, hro, hR, A, m, c, vs, hX, hown, hsz, hmk, hcase⟩ := hrel
        rcases hcase with ⟨A', n', c', r, done, j, hri, hrk, hrj, hm, hall, hmany⟩ | ⟨e, ⟨s1, s2, s3, hbad⟩, he, hmany⟩
        · have hmlen := hri.txt.len
          have g0 : wr.cell? ⟨gin, 0, none⟩ = some (.slice A' n' c') := hri.cells.cell 0
          have g1 : wr.cell? ⟨gin, 1, none⟩ = some (.int .i64 0) := hri.cells.cell 1
          cases r with
          | nil =>
            simp only [List.length_nil] at hmlen
            subst hmlen
            replace hX := Lib.hid hX
            have hm2 : Ns.many (Ns.item d) t.length t = .ok done := by rw [hmany, Ns.many_nil]; simp
            have hx4 := hx3.out
            rw [hm2] at hx4
            replace hx4 := Lib.hid hx4
            replace hm := Lib.hid hm
            clear hmany hm2 hx3 hrk hrj hri
            go_wp2_with (first
              | (refine wpList_load_row rfl 46 _ rfl (gin + 1) rfl _ _ _ _ hX.out Try.underlying46 rfl info_item3 ?_)
              | (refine wpList_store_row rfl 46 _ _ rfl w.heap.size #[.bool true, .slice none 0 0, .slice A m c] rfl rfl _ _ hR info_item3 rfl (by simp [Value.oneCell']) ?_))
            refine bodyPost_ret (v := .agg #[.bool true, .slice none 0 0, .slice A m c]) (results_cell_row rfl _ _ w.heap.size _ #[.bool true, .slice none 0 0, .slice A m c] _ _ rfl (hR.row _) Try.underlying46 rfl info_item3) rfl ?_
            have ho := Own.of_row hown
            refine ItemQ.ok hx4.out (grown_row hgr (Nat.le_refl _) _) ⟨A, m, c, vs, rfl, hm.out, ho.cap, ho.lim, (InS.of_own ho).move (fun q h1 h2 => ⟨by omega, setRow_other wr _ q _ (by omega)⟩) (by simp),
              hall.imp fun v x hx => hx.move _ _ _ (fun q h1 h2 => ⟨by omega, setRow_other wr _ q _ (by omega)⟩) (by simp)⟩ ⟨_, _, _, hro.row hg _⟩
          | cons y r =>
            have hn0 : (0 : Int) < (n' : Int) := by rw [hmlen]; simp
            have hw1 : IntKind.i64.wrap (D + 1) = D + 1 := by rw [IntKind.wrap_i64]; omega
            have hcall := hitem.out gin A' n' c' (y :: r) wr.drew ⟨hri.cells.drew, hri.txt.drew⟩
            clear hmlen
            replace hri := Lib.hid hri
            replace hX := Lib.hid hX
            replace hm := Lib.hid hm
            replace hmany := Lib.hid hmany
            replace hrk := Lib.hid hrk
            replace hx3 := Lib.hid hx3
            go_wp2_with fail
            refine wp_region_M (M := [8]) (S := (fun W => W.cell? ⟨gin + 1, 2, none⟩ = some (.slice A m c))) (by kernel_rfl) (by exact hX.out.drew.cell 2) (fun hS => ?_)
            (refine mPure (i := 0) (v := ?v1) rfl (by kernel_rfl) (fun _ _ _ h => h) (Or.inl ⟨by rfl, ?y1⟩) (.inr hS) ?r1; (case y1 => (intro W hW; clear hW; go_simp; (try with_reducible rfl); done)); try simp only [Act.put, List.setIfInBounds_toArray, List.set_cons_zero, List.set_cons_succ])
            (refine mTake (i := 1) (v := ?v2) rfl (by kernel_rfl) (fun _ _ _ h => h) (Or.inl ⟨by rfl, ?y2⟩) hS ?r2; (case y2 => (intro W hW; ((have g := hW; go_simp)); (try with_reducible rfl); done)); try simp only [Act.put, List.setIfInBounds_toArray, List.set_cons_zero, List.set_cons_succ])
            (refine mPure (i := 2) (v := ?v3) rfl (by kernel_rfl) (fun _ _ _ h => h) (Or.inl ⟨by rfl, ?y3⟩) (.inr hS) ?r3; (case y3 => (intro W hW; clear hW; go_simp; (try with_reducible rfl); done)); try simp only [Act.put, List.setIfInBounds_toArray, List.set_cons_zero, List.set_cons_succ])
            (refine mPure (i := 3) (v := ?v4) rfl (by kernel_rfl) (fun _ _ _ h => h) (Or.inl ⟨by rfl, ?y4⟩) (.inr hS) ?r4; (case y4 => (intro W hW; clear hW; go_simp; (try with_reducible rfl); done)); try simp only [Act.put, List.setIfInBounds_toArray, List.set_cons_zero, List.set_cons_succ])
            (refine mOne (i := 4) rfl (by kernel_rfl) (fun K hK => ?_))
            go_simp
            refine hcall.mono ?_
            rintro e wq he
            obtain ⟨a, b, cc, rfl, h1, hcells, hg2, hcase⟩ := he.rows
            have hXq : Blk wq (gin + 1) 46 #[.bool true, .slice none 0 0, .slice A m c] := hX.out.drew.grown hg2 (by omega)
            have hownq := hown.drew.kept hg2 (.inr (fun e => by have := (hown.lt _ e).1; omega))
            have hszq := hg2.size
            replace hcase := Lib.hid hcase
            clear he hcall g0 g1
            (have hS := (by exact hXq.cell 2); refine hK.out _ _ (.inr hS) ?_; clear hK K; try simp only [Act.put, List.setIfInBounds_toArray, List.set_cons_zero, List.set_cons_succ])
            (refine mOne (i := 5) rfl (by kernel_rfl) (fun K hK => ?_))
            go_simp
            have hown4 := hownq.alloc (.cells #[a, b, cc] 46)
            have hreads : Reads (wq.alloc (.cells #[a, b, cc] 46)) (wq.heap.size + 1) 3 (some ⟨wq.heap.size, 0, none⟩) 1 [a, b, cc] :=
              ⟨rfl, fun _ => ⟨_, 0, rfl, by omega, fun j u hu => by rw [Nat.zero_add, cell_of_row _ _ j #[a, b, cc] 46 (0, 0) (heap_alloc_new wq _)]; simpa using hu⟩⟩
            have hs4 : (wq.alloc (.cells #[a, b, cc] 46)).heap.size = wq.heap.size + 1 := by simp
            have hX4 := hXq.alloc (.cells #[a, b, cc] 46)
            replace hXq := Lib.hid hXq
            (have hS := (by exact hX4.cell 2); refine hK.out _ _ (.inr hS) ?_; clear hK K; try simp only [Act.put, List.setIfInBounds_toArray, List.set_cons_zero, List.set_cons_succ])
            (refine mOne (i := 6) rfl (by kernel_rfl) (fun K hK => ?_))
            rw [if_pos (by rfl)]
            have hm24 : m + 1 ≤ 16777215 := by have := hrk.out; unfold Ns.maxBytes at hv24; simp at this; omega
            obtain ⟨i0, hi, hz0, hz1, hz2⟩ := info_parts info_item
            refine wp_append_any _ _ _ 43 rfl (gin + 2) 46 i0 itemZ 3 56 Try.underlying43 hi hz0 hz1 hz2 rfl (by omega) (.slice A m c) m (flat vs) rfl hown4 (wq.heap.size + 1) _ 1 1 [a, b, cc] rfl hreads h1 (by unfold maxLen; omega) (by omega) (by rw [hs4]; simp at hszq; omega) ?_
            intro v5 w5 hown5 hg5 hob
            obtain ⟨A5, c5, rfl⟩ : ∃ A5 c5, v5 = .slice A5 (m + 1) c5 := by
              rcases hown5.2 with ⟨_, h0⟩ | ⟨q, cap, cur, rfl, _⟩
              · omega
              · exact ⟨_, _, rfl⟩
            have hX5 : Blk w5 (gin + 1) 46 #[.bool true, .slice none 0 0, .slice A m c] :=
              (hg5.block (gin + 1) (by rw [hs4]; simp at hszq; omega) (fun e => by have := (hown.lt _ e.symm).1; omega)).trans hX4
            have g2 : w5.cell? ⟨gin + 1, 2, none⟩ = some (.slice A m c) := hX5.cell 2
            have f2 := hX5.frozen 2
            (have hS := (by exact g2); refine hK.out _ _ (.inr hS) ?_; clear hK K; try simp only [Act.put, List.setIfInBounds_toArray, List.set_cons_zero, List.set_cons_succ])
            replace hX5 := Lib.hid hX5
            replace hX4 := Lib.hid hX4
            (refine mPure (i := 7) (v := ?v5) rfl (by kernel_rfl) (fun _ _ _ h => h) (Or.inl ⟨by rfl, ?y5⟩) (.inr hS) ?r5; (case y5 => (intro W hW; clear hW; go_simp; (try with_reducible rfl); done)); try simp only [Act.put, List.setIfInBounds_toArray, List.set_cons_zero, List.set_cons_succ])
            (refine mOne (i := 8) rfl (by kernel_rfl) (fun K hK => ?_))
            go_simp
            (refine hK.out _ _ (.inl ⟨8, by simp, by kernel_rfl⟩) ?_; clear hK K; try simp only [Act.put, List.setIfInBounds_toArray, List.set_cons_zero, List.set_cons_succ])
            refine wpAnyM_done (by kernel_rfl) ?_ _
            obtain ⟨k', hk', hI⟩ := list_round (wr := wr.drew) hg hgin (grown_drew hgr) ⟨hro.cells.drew, hro.txt.drew⟩ hR.drew hX.out.drew hown.drew hsz hmk hrk.out hrj hm.out
              (hall.imp fun v x hx => hx.move _ _ _ (fun q h1 h2 => ⟨h1, rfl⟩) (Nat.le_refl _)) hmany.out hg2 hg5 hown5 hob hcells hcase.out
            replace hI := Lib.hid hI
            clear hS g2 f2 hX4 hX5 hXq hown hown4 hown5 hownq hreads hob hcase hall hR hro hgr hg2 hg5
            go_wp2_with fail
            go_roundg k'
            case measure => exact hk'
            case rel => exact hI.out
        · have g0 : wr.cell? ⟨gin, 0, none⟩ = some (.slice s1 s2 s3) := hbad.cell 0
          have g1 : wr.cell? ⟨gin, 1, none⟩ = some (.int .i64 e) := hbad.cell 1
          have hx4 := hx3.out
          rw [hmany] at hx4
          replace hx4 := Lib.hid hx4
          have hf := rd_fail g _ e wr hro.cells
          clear hmany hx3 hX
          by_cases h2 : s2 = 0
          · subst h2
            go_wp2_with fail
            refine hf.mono ?_
            rintro e2 w4 ⟨rfl, hb4, hg4⟩
            have hR4 := hR.grown hg4 (by omega)
            have hR4l := hR4.lt
            clear hf g0 g1
            go_wp2_with (refine wpList_store_row rfl 46 _ _ rfl w.heap.size #[.bool false, .slice none 0 0, .slice none 0 0] rfl rfl _ _ hR4 info_item3 rfl (by simp [Value.oneCell']) ?_)
            go_wp2_with fail
            refine bodyPost_ret (v := .agg #[.bool false, .slice none 0 0, .slice none 0 0]) (results_cell_row rfl _ _ w.heap.size _ #[.bool false, .slice none 0 0, .slice none 0 0] _ _ rfl (hR4.row _) Try.underlying46 rfl info_item3) rfl ?_
            exact ItemQ.bad hx4.out (grown_row (hgr.trans hg4) (Nat.le_refl _) _) ⟨_, _, _, hb4.row_far _ (by omega)⟩ he
          · have h2' : (0 : Int) < (s2 : Int) := by omega
            go_wp2_with fail
            refine hf.mono ?_
            rintro e2 w4 ⟨rfl, hb4, hg4⟩
            have hR4 := hR.grown hg4 (by omega)
            have hR4l := hR4.lt
            clear hf g0 g1
            go_wp2_with (refine wpList_store_row rfl 46 _ _ rfl w.heap.size #[.bool false, .slice none 0 0, .slice none 0 0] rfl rfl _ _ hR4 info_item3 rfl (by simp [Value.oneCell']) ?_)
            go_wp2_with fail
            refine bodyPost_ret (v := .agg #[.bool false, .slice none 0 0, .slice none 0 0]) (results_cell_row rfl _ _ w.heap.size _ #[.bool false, .slice none 0 0, .slice none 0 0] _ _ rfl (hR4.row _) Try.underlying46 rfl info_item3) rfl ?_
            exact ItemQ.bad hx4.out (grown_row (hgr.trans hg4) (Nat.le_refl _) _) ⟨_, _, _, hb4.row_far _ (by omega)⟩ he
end Go.Proofs.YtahaaeenbahknaaRRRR
