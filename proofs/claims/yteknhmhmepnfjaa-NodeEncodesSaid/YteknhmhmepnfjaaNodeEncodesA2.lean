/-
  Texts of a proof, one behind the other: Rd3, Rd4, NoM, NoR, NoO, NoT, Ne1, Ne2, Ne3, Ne4, Ne5, Ne6, Lk1.
-/
import Derived.Test.YteknhmhmepnfjaaNodeEncodesA1
import Derived.Deep.LoopGhost
import Derived.Lib.MinMax
/-
  The reader of package nest: list.
-/
namespace Go.Proofs.Yteknhmhmepnfjaa
open Go.RowKit

namespace Ns
theorem item_shorter {d : Nat} {l : List UInt8} {x : It (d + 1)} {r : List UInt8} (h : item d l = .ok (x, r)) : r.length < l.length := by
  have h1 := (item_ok d l x r h).1
  have h2 := enc_pos (d + 1) x
  rw [h1, List.length_append]; omega
end Ns
/-- the loop of list: so many rounds at most are to come -/
def ListI (d : Nat) (w : World) (g gin : Nat) (A3 : Option Addr) (n3 c3 : Nat) (rest : List UInt8) (t : List UInt8) (k : Nat) (wr : World) : Prop :=
  w.grownBy wr (some g) ∧ RdIs wr g A3 n3 c3 rest ∧ Blk wr w.heap.size 48 rowZ ∧
  ∃ A m c vs, Blk wr (gin + 1) 48 #[.bool true, .slice none 0 0, .slice A m c] ∧ wr.ownsRow (gin + 2) 48 3 (.slice A m c) m (flat vs) ∧ gin + 2 ≤ wr.heap.size ∧ m + k ≤ t.length + 1 ∧
  ((∃ A' n' c' r done j, RdIs wr gin A' n' c' r ∧ r.length + 1 = k ∧ r.length ≤ j ∧ m = done.length ∧ All2 (Sits (fun b => Fr wr (gin + 2) b ∧ (Value.slice A m c).ownBlock ≠ some b) wr (d + 1)) vs done ∧
      Ns.many (Ns.item d) t.length t = (match Ns.many (Ns.item d) j r with | .ok xs => .ok (done ++ xs) | .error e => .error e))
    ∨ (∃ e, RdBad wr gin e ∧ e ≠ 0 ∧ Ns.many (Ns.item d) t.length t = .error e))

theorem RdIs.keep {w w' : World} {g n c : Nat} {A : Option Addr} {l : List UInt8} (h : RdIs w g A n c l) (hk : ∀ q, q ≤ g → w'.heap[q]? = w.heap[q]?) : RdIs w' g A n c l :=
  ⟨(hk g (Nat.le_refl _)).trans h.cells, ⟨h.txt.len, h.txt.cap, h.txt.lim, h.txt.reads.keep fun p hp => World.cell?_of_block (hk p.block (Nat.le_of_lt hp))⟩⟩
/-- what the callee answers, by its three cells -/
theorem ItemQ.rows {d : Nat} {x : Except Int (Ns.It (d + 1) × List UInt8)} {g : Nat} {w w' : World} {e : Ending} (h : ItemQ x g w e w') : ∃ a b c, e = .returned (.agg #[a, b, c]) ∧ (∀ u ∈ [a, b, c], u.oneCell' = true) ∧ (Value.agg #[a, b, c]).cells.toList = [a, b, c] ∧ w.grownBy w' (some g) ∧
    ((∃ y r, x = .ok (y, r) ∧ Sits (Fr w' w.heap.size) w' (d + 1) (.agg #[a, b, c]) y ∧ ∃ A n c, RdIs w' g A n c r) ∨ (∃ k, x = .error k ∧ RdBad w' g k ∧ k ≠ 0)) := by
  obtain ⟨hg, h⟩ := h
  cases x with
  | error k =>
    obtain ⟨rfl, hb, hk⟩ := h
    exact ⟨_, _, _, rfl, by simp [Value.oneCell'], rfl, hg, .inr ⟨k, rfl, hb, hk⟩⟩
  | ok p =>
    obtain ⟨y, r⟩ := p
    obtain ⟨v, rfl, hv, hr⟩ := h
    obtain ⟨a, b, c, rfl, hc, h1⟩ := hv.cells
    exact ⟨a, b, c, rfl, h1, hc, hg, .inl ⟨y, r, rfl, hv, hr⟩⟩
theorem list_round {d : Nat} {w wr w2 w5 : World} {g gin n3 c3 m c c5 j gk : Nat} {A3 A A5 : Option Addr} {rest t : List UInt8} {y : UInt8} {r : List UInt8} {vs : List Value} {a b cc : Value} {done : List (Ns.It (d + 1))} {o : Obj}
    (hg : g < w.heap.size) (hgin : w.heap.size < gin) (hgr : w.grownBy wr (some g)) (hro : RdIs wr g A3 n3 c3 rest) (hR : Blk wr w.heap.size 48 rowZ)
    (hX : Blk wr (gin + 1) 48 #[.bool true, .slice none 0 0, .slice A m c]) (hown : wr.ownsRow (gin + 2) 48 3 (.slice A m c) m (flat vs)) (hsz : gin + 2 ≤ wr.heap.size) (hmk : m + gk ≤ t.length + 1)
    (hrk : (y :: r).length + 1 = gk) (hrj : (y :: r).length ≤ j) (hm : m = done.length) (hall : All2 (Sits (fun b => Fr wr (gin + 2) b ∧ (Value.slice A m c).ownBlock ≠ some b) wr (d + 1)) vs done)
    (hmany : Ns.many (Ns.item d) t.length t = (match Ns.many (Ns.item d) j (y :: r) with | .ok xs => .ok (done ++ xs) | .error e => .error e))
    (hg2 : wr.grownBy w2 (some gin)) (hg5 : (w2.alloc o).grownBy w5 (Value.slice A m c).ownBlock) (hown5 : w5.ownsRow (gin + 2) 48 3 (.slice A5 (m + 1) c5) (m + 1) (flat vs ++ [a, b, cc]))
    (hob : (Value.slice A5 (m + 1) c5).ownBlock = (Value.slice A m c).ownBlock ∨ (Value.slice A5 (m + 1) c5).ownBlock = some (w2.alloc o).heap.size)
    (hcells : (Value.agg #[a, b, cc]).cells.toList = [a, b, cc]) (hcase : (∃ x r2, Ns.item d (y :: r) = .ok (x, r2) ∧ Sits (Fr w2 wr.heap.size) w2 (d + 1) (.agg #[a, b, cc]) x ∧ ∃ A n c, RdIs w2 gin A n c r2) ∨ (∃ k, Ns.item d (y :: r) = .error k ∧ RdBad w2 gin k ∧ k ≠ 0)) :
    ∃ k', k' < gk ∧ ListI d w g gin A3 n3 c3 rest t k' (w5.setCell ⟨gin + 1, 2, none⟩ (.slice A5 (m + 1) c5)) := by
  have hs2 := hg2.size
  have hs4 : (w2.alloc o).heap.size = w2.heap.size + 1 := by simp
  have hs5 := hg5.size
  have hol := hown.lt
  have hol5 := hown5.lt
  -- from w2 on
  have k2 : ∀ q, q < w2.heap.size → q ≠ gin + 1 → (Value.slice A m c).ownBlock ≠ some q → (w5.setCell ⟨gin + 1, 2, none⟩ (.slice A5 (m + 1) c5)).heap[q]? = w2.heap[q]? := by
    intro q h1 h2 h3
    rw [Below.heap_setCell w5 ⟨gin + 1, 2, none⟩ _ q h2, hg5.block q (by omega) (fun e => h3 e.symm), Below.heap_alloc w2 o q h1]
  have kr : ∀ q, q < wr.heap.size → q ≠ gin → q ≠ gin + 1 → (Value.slice A m c).ownBlock ≠ some q → (w5.setCell ⟨gin + 1, 2, none⟩ (.slice A5 (m + 1) c5)).heap[q]? = wr.heap[q]? := by
    intro q h1 h0 h2 h3
    rw [k2 q (by omega) h2 h3, hg2.block q h1 (by simp; exact h0)]
  have hlow : ∀ q, q < gin + 2 → (Value.slice A m c).ownBlock ≠ some q := fun q h e => by have := (hol q e).1; omega
  have hs6 : (w5.setCell ⟨gin + 1, 2, none⟩ (.slice A5 (m + 1) c5)).heap.size = w5.heap.size := size_set _ _ _
  have hgr6 : w.grownBy (w5.setCell ⟨gin + 1, 2, none⟩ (.slice A5 (m + 1) c5)) (some g) := by
    have h1 := World.grownBy.andThen hgr hg2 (fun j hj => .inl (by cases hj; omega))
    have h2 := World.grownBy.andThen (grown_alloc h1 o) hg5 (fun j hj => .inl (by have := (hol j hj).1; omega))
    exact grown_far h2 (show w.heap.size ≤ gin + 1 by omega) _
  have hro6 := hro.keep (w' := w5.setCell ⟨gin + 1, 2, none⟩ (.slice A5 (m + 1) c5)) (fun q hq => kr q (by omega) (by omega) (by omega) (hlow q (by omega)))
  have hR6 : Blk (w5.setCell ⟨gin + 1, 2, none⟩ (.slice A5 (m + 1) c5)) w.heap.size 48 rowZ := (kr _ (by omega) (by omega) (by omega) (hlow _ (by omega))).trans hR
  have hX5 : Blk w5 (gin + 1) 48 #[.bool true, .slice none 0 0, .slice A m c] := by
    have h1 : w5.heap[gin + 1]? = wr.heap[gin + 1]? := by
      rw [hg5.block (gin + 1) (by omega) (fun e => hlow _ (by omega) e.symm), Below.heap_alloc w2 o (gin + 1) (by omega), hg2.block (gin + 1) (by omega) (by simp)]
    exact h1.trans hX
  have hX6 : Blk (w5.setCell ⟨gin + 1, 2, none⟩ (.slice A5 (m + 1) c5)) (gin + 1) 48 #[.bool true, .slice none 0 0, .slice A5 (m + 1) c5] := (hX5.set_ 2 _).eq rfl
  have hown6 : (w5.setCell ⟨gin + 1, 2, none⟩ (.slice A5 (m + 1) c5)).ownsRow (gin + 2) 48 3 (.slice A5 (m + 1) c5) (m + 1) (flat vs ++ [a, b, cc]) :=
    hown5.kept (row := some (gin + 1)) (grown_set (World.grownBy.refl w5 _)) (.inr (fun e => by have := (hol5 _ e).1; omega))
  rcases hcase with ⟨x, r2, hx, hv, A', n', c', hr2⟩ | ⟨k, hx, ⟨s1, s2, s3, hb⟩, hk⟩
  · have hlt := Ns.item_shorter hx
    refine ⟨r2.length + 1, by omega, hgr6, hro6, hR6, A5, m + 1, c5, vs ++ [.agg #[a, b, cc]], hX6, ?_, by omega, by omega, .inl ⟨A', n', c', r2, done ++ [x], j - 1, ?_, rfl, by omega, by rw [List.length_append, hm]; rfl, ?_, ?_⟩⟩
    · rw [flat_append, flat_one, hcells]; exact hown6
    · exact hr2.keep (fun q hq => k2 q (by omega) (by omega) (hlow q (by omega)))
    · refine All2.snoc (hall.imp fun v x hx => hx.move _ _ _ (fun q h1 h2 => ?_) (by omega)) (hv.move _ _ _ (fun q h1 h2 => ?_) (by omega))
      · have h10 := h1.1.1
        have e0 := kr q h2 (by omega) (by omega) h1.2
        refine ⟨⟨h1.1.move e0 h10, fun e => ?_⟩, e0⟩
        rcases hob with h | h
        · exact h1.2 (h ▸ e)
        · rw [h] at e; injection e with e; omega
      · have h10 := h1.1
        have hne : (Value.slice A m c).ownBlock ≠ some q := fun e => by have := (hol q e).2; omega
        have e0 := k2 q h2 (by omega) hne
        refine ⟨⟨h1.move e0 (by omega), fun e => ?_⟩, e0⟩
        rcases hob with h | h
        · exact hne (h ▸ e)
        · rw [h] at e; injection e with e; omega
    · rw [hmany]
      obtain ⟨j, rfl⟩ : ∃ i, j = i + 1 := ⟨j - 1, by simp at hrj; omega⟩
      simp only [Ns.many, hx, Nat.add_sub_cancel]
      cases Ns.many (Ns.item d) j r2 with
      | error e => rfl
      | ok xs => simp
  · refine ⟨0, by omega, hgr6, hro6, hR6, A5, m + 1, c5, vs ++ [.agg #[a, b, cc]], hX6, ?_, by omega, by omega, .inr ⟨k, ⟨s1, s2, s3, ?_⟩, hk, ?_⟩⟩
    · rw [flat_append, flat_one, hcells]; exact hown6
    · exact (k2 gin (by omega) (by omega) (hlow _ (by omega))).trans hb
    · rw [hmany]
      obtain ⟨j, rfl⟩ : ∃ i, j = i + 1 := ⟨j - 1, by simp at hrj; omega⟩
      simp only [Ns.many, hx]
theorem list_start (d : Nat) (w w3 : World) (g n3 c3 c2 : Nat) (A3 A2 : Option Addr) (rest t : List UInt8) (hg : g < w.heap.size) (hgr : w.grownBy w3 (some g)) (hr : RdIs w3 g A3 n3 c3 rest)
    (hb : Blk w3 w.heap.size 48 rowZ) (ht : Bytes w3 g A2 t.length c2 t) :
    ListI d w g w3.heap.size A3 n3 c3 rest t (t.length + 1) ((w3.alloc (.cells #[.slice A2 t.length c2, .int .i64 0] 83)).alloc (.cells #[.bool true, .slice none 0 0, .slice none 0 0] 48)) := by
  have hg3 : g ≤ w3.heap.size := by have := hr.cells.lt; omega
  have hs : (w3.alloc (.cells #[.slice A2 t.length c2, .int .i64 0] 83)).heap.size = w3.heap.size + 1 := by simp
  refine ⟨grown_alloc (grown_alloc hgr _) _, ⟨(hr.cells.alloc _).alloc _, (hr.txt.alloc hg3 _).alloc (by omega) _⟩, (hb.alloc _).alloc _, none, 0, 0, [], Blk.new' hs.symm, World.ownsRow_nil _ _ _ _, by simp, by omega, .inl ?_⟩
  exact ⟨A2, t.length, c2, t, [], t.length, ⟨(Blk.new w3 _ _).alloc _, ((ht.alloc hg3 _).alloc (by omega) _).more hg3⟩, rfl, Nat.le_refl _, rfl, All2.nil, by cases Ns.many (Ns.item d) t.length t <;> rfl⟩
set_option maxHeartbeats 2000000 in
set_option maxRecDepth 100000 in
theorem rd_list_core (d : Nat) (D : Int) (hD : 0 ≤ D) (hD2 : D ≤ 8)
    (hitem : ∀ (g : Nat) (A : Option Addr) (n c : Nat) (l : List UInt8) (w : World), RdIs w g A n c l →
      Calls Try.prog 59 #[.pointer (some ⟨g, 0, none⟩), .int .i64 (D + 1)] w (ItemQ (Ns.item d l) g w)) : ItList (d + 1) D := by
  intro g c0 A n c l w h hc0
  have hg := h.cells.lt
  have hr0 : RdIs (w.alloc (.cells rowZ 48)) g A n c l := ⟨h.cells.alloc _, h.txt.alloc (Nat.le_of_lt hg) _⟩
  have hb0 : Blk (w.alloc (.cells rowZ 48)) w.heap.size 48 rowZ := Blk.new w _ _
  have hg0 : w.grownBy (w.alloc (.cells rowZ 48)) (some g) := grown_alloc (World.grownBy.refl w _) _
  clear h
  have hc256 := c0.toNat_lt
  rw [Ns.item_ls d c0 l (by omega)]
  rw [show (c0.toNat : Int) - 192 = ((c0.toNat - 192 : Nat) : Int) by omega]
  have hk : c0.toNat - 192 ≤ 63 := by omega
  have hx := Lib.hid (show Ns.listOf (Ns.item d) c0 l = _ from by unfold Ns.listOf; rfl)
  generalize Ns.listOf (Ns.item d) c0 l = X at hx ⊢
  generalize c0.toNat - 192 = k at hk hx ⊢
  clear hc256 hc0
  have hsz := rd_size g k A n c l _ hr0 (by omega)
  replace hitem := Lib.hid hitem
  go_enter Try.func64, Try.ntmps64
  go_wp2_with fail
  refine hsz.mono ?_
  rintro e w2 ⟨hg2, hq⟩
  have hb2 := Lib.hid (hb0.grown hg2 (by omega))
  have hb2l := hb2.out.lt
  have hgr2 := Lib.hid (hg0.trans hg2)
  clear hsz hb0 hr0 hg0 hg2
  cases hs : Ns.size k l with
  | error kb =>
    rw [hs] at hq
    have hx2 := hx.out
    rw [hs] at hx2
    replace hx2 := Lib.hid hx2
    have hkb := Lib.hid (Ns.size_bad hs)
    clear hx hs
    obtain ⟨rfl, hbad⟩ := hq
    go_wp2_with (refine wpList_store_row rfl 48 _ _ rfl w.heap.size #[.bool false, .slice none 0 0, .slice none 0 0] rfl rfl _ _ hb2.out info_item3 rfl (by simp [Value.oneCell']) ?_)
    go_wp2_with fail
    refine bodyPost_ret (v := .agg #[.bool false, .slice none 0 0, .slice none 0 0]) (results_cell_row rfl _ _ w.heap.size _ #[.bool false, .slice none 0 0, .slice none 0 0] _ _ rfl (hb2.out.row _) Try.underlying48 rfl info_item3) rfl ?_
    exact ItemQ.bad hx2.out (grown_row hgr2.out (Nat.le_refl _) _) (by obtain ⟨s1, s2, s3, hs⟩ := hbad; exact ⟨s1, s2, s3, hs.row_far _ (by omega)⟩) (by have := hkb.out; omega)
  | ok p =>
    obtain ⟨v, r⟩ := p
    rw [hs] at hq
    have hx2 := hx.out
    rw [hs] at hx2
    replace hx2 := Lib.hid hx2
    have hv24 : v ≤ Ns.maxBytes := (Ns.size_ok (base := 128) (by decide) hs (by omega)).2
    clear hx hs
    obtain ⟨rfl, A2, n2, c2, hr2⟩ := hq
    by_cases hv : r.length < v
    · have hx3 := hx2.out
      simp only [if_pos hv] at hx3
      replace hx3 := Lib.hid hx3
      have hf := rd_take_no g v A2 n2 c2 r w2 hr2 hv
      go_wp2_with fail
      refine hf.mono ?_
      rintro e w3 ⟨rfl, hbad, hg3⟩
      have hb3 := hb2.out.grown hg3 (by omega)
      have hb3l := hb3.lt
      have hgr3 := Lib.hid (hgr2.out.trans hg3)
      clear hf hr2 hgr2 hb2 hg3
      go_wp2_with (refine wpList_store_row rfl 48 _ _ rfl w.heap.size #[.bool false, .slice none 0 0, .slice none 0 0] rfl rfl _ _ hb3 info_item3 rfl (by simp [Value.oneCell']) ?_)
      go_wp2_with fail
      refine bodyPost_ret (v := .agg #[.bool false, .slice none 0 0, .slice none 0 0]) (results_cell_row rfl _ _ w.heap.size _ #[.bool false, .slice none 0 0, .slice none 0 0] _ _ rfl (hb3.row _) Try.underlying48 rfl info_item3) rfl ?_
      exact ItemQ.bad hx3.out (grown_row hgr3.out (Nat.le_refl _) _) (by obtain ⟨s1, s2, s3, hs⟩ := hbad; exact ⟨s1, s2, s3, hs.row_far _ (by omega)⟩) (by decide)
    · have hf := rd_take g v A2 n2 c2 r w2 hr2 (by omega)
      have htk := hr2.txt.takeN (k := v) (by have := hr2.txt.len; omega)
      have hx3 := hx2.out
      simp only [if_neg hv] at hx3
      replace hx3 := Lib.hid hx3
      clear hx2
      go_wp2_with fail
      refine hf.mono ?_
      rintro e w3 ⟨rfl, ⟨A3, hr3⟩, hg3⟩
      have hb3 := Lib.hid (hb2.out.grown hg3 (by omega))
      have hb3l := hb3.out.lt
      have hgr3 := Lib.hid (hgr2.out.trans hg3)
      replace htk := htk.grown hg3 (Nat.le_refl _) (by omega)
      generalize n2 - v = n3 at hr3
      generalize c2 - v = c3 at hr3
      replace hr3 := Lib.hid hr3
      clear hf hr2 hgr2 hb2 hg3
      have htl : (r.take v).length = v := by rw [List.length_take]; omega
      generalize r.take v = t at htk htl hx3
      generalize r.drop v = rest at hr3 hx3
      subst htl
      replace htk := Lib.hid htk
      clear hv
      go_wp2_with fail
      have hstart := Lib.hid (list_start d w w3 g n3 c3 c2 A3 A2 rest t hg hgr3.out hr3.out hb3.out htk.out)
      have hgin := hb3l
      clear hr3 hb3 htk hgr3 hk hb2l
      go_loopg [32] (t.length + 1) (fun k _ wr => ListI d w g w3.heap.size A3 n3 c3 rest t k wr)
      case atStart => exact hstart.out
      case round =>
        clear hstart
        generalize w3.heap.size = gin at *
        obtain ⟨hgr, hro, hR, A, m, c, vs, hX, hown, hsz, hmk, hcase⟩ := hrel
        rcases hcase with ⟨A', n', c', r, done, j, hri, hrk, hrj, hm, hall, hmany⟩ | ⟨e, ⟨s1, s2, s3, hbad⟩, he, hmany⟩
        · have hmlen := hri.txt.len
          have g0 : wr.cell? ⟨gin, 0, none⟩ = some (.slice A' n' c') := hri.cells.cell 0
          have g1 : wr.cell? ⟨gin, 1, none⟩ = some (.int .i64 0) := hri.cells.cell 1
          cases r with
          | nil =>
            simp only [List.length_nil] at hmlen
            subst hmlen
            replace hX := Lib.hid hX
            have hm2 : Ns.many (Ns.item d) t.length t = .ok done := by rw [hmany, Ns.many_nil]; simp
            have hx4 := hx3.out
            rw [hm2] at hx4
            replace hx4 := Lib.hid hx4
            replace hm := Lib.hid hm
            clear hmany hm2 hx3 hrk hrj hri
            go_wp2_with (first
              | (refine wpList_load_row rfl 48 _ rfl (gin + 1) rfl _ _ _ _ hX.out Try.underlying48 rfl info_item3 ?_)
              | (refine wpList_store_row rfl 48 _ _ rfl w.heap.size #[.bool true, .slice none 0 0, .slice A m c] rfl rfl _ _ hR info_item3 rfl (by simp [Value.oneCell']) ?_))
            refine bodyPost_ret (v := .agg #[.bool true, .slice none 0 0, .slice A m c]) (results_cell_row rfl _ _ w.heap.size _ #[.bool true, .slice none 0 0, .slice A m c] _ _ rfl (hR.row _) Try.underlying48 rfl info_item3) rfl ?_
            have ho := Own.of_row hown
            refine ItemQ.ok hx4.out (grown_row hgr (Nat.le_refl _) _) ⟨A, m, c, vs, rfl, hm.out, ho.cap, ho.lim, (InS.of_ownF ho).move (fun q h1 h2 => have h3 := h1.1; have e := setRow_other wr w.heap.size q #[.bool true, .slice none 0 0, .slice A m c] (by omega); ⟨h1.move e (by omega), e⟩) (by simp),
              hall.imp fun v x hx => hx.move _ _ _ (fun q h1 h2 => have h3 := h1.1.1; have e := setRow_other wr w.heap.size q #[.bool true, .slice none 0 0, .slice A m c] (by omega); ⟨h1.1.move e (by omega), e⟩) (by simp)⟩ ⟨_, _, _, hro.row hg _⟩
          | cons y r =>
            have hn0 : (0 : Int) < (n' : Int) := by rw [hmlen]; simp
            have hw1 : IntKind.i64.wrap (D + 1) = D + 1 := by rw [IntKind.wrap_i64]; omega
            have hcall := hitem.out gin A' n' c' (y :: r) wr.drew ⟨hri.cells.drew, hri.txt.drew⟩
            clear hmlen
            replace hri := Lib.hid hri
            replace hX := Lib.hid hX
            replace hm := Lib.hid hm
            replace hmany := Lib.hid hmany
            replace hrk := Lib.hid hrk
            replace hx3 := Lib.hid hx3
            go_wp2_with fail
            refine wp_region_M (M := [8]) (S := (fun W => W.cell? ⟨gin + 1, 2, none⟩ = some (.slice A m c))) (by kernel_rfl) (by exact hX.out.drew.cell 2) (fun hS => ?_)
            (refine mPure (i := 0) (v := ?v1) rfl (by kernel_rfl) (fun _ _ _ h => h) (Or.inl ⟨by rfl, ?y1⟩) (.inr hS) ?r1; (case y1 => (intro W hW; clear hW; go_simp; (try with_reducible rfl); done)); try simp only [Act.put, List.setIfInBounds_toArray, List.set_cons_zero, List.set_cons_succ])
            (refine mTake (i := 1) (v := ?v2) rfl (by kernel_rfl) (fun _ _ _ h => h) (Or.inl ⟨by rfl, ?y2⟩) hS ?r2; (case y2 => (intro W hW; ((have g := hW; go_simp)); (try with_reducible rfl); done)); try simp only [Act.put, List.setIfInBounds_toArray, List.set_cons_zero, List.set_cons_succ])
            (refine mPure (i := 2) (v := ?v3) rfl (by kernel_rfl) (fun _ _ _ h => h) (Or.inl ⟨by rfl, ?y3⟩) (.inr hS) ?r3; (case y3 => (intro W hW; clear hW; go_simp; (try with_reducible rfl); done)); try simp only [Act.put, List.setIfInBounds_toArray, List.set_cons_zero, List.set_cons_succ])
            (refine mPure (i := 3) (v := ?v4) rfl (by kernel_rfl) (fun _ _ _ h => h) (Or.inl ⟨by rfl, ?y4⟩) (.inr hS) ?r4; (case y4 => (intro W hW; clear hW; go_simp; (try with_reducible rfl); done)); try simp only [Act.put, List.setIfInBounds_toArray, List.set_cons_zero, List.set_cons_succ])
            (refine mOne (i := 4) rfl (by kernel_rfl) (fun K hK => ?_))
            go_simp
            refine hcall.mono ?_
            rintro e wq he
            obtain ⟨a, b, cc, rfl, h1, hcells, hg2, hcase⟩ := he.rows
            have hXq : Blk wq (gin + 1) 48 #[.bool true, .slice none 0 0, .slice A m c] := hX.out.drew.grown hg2 (by omega)
            have hownq := hown.drew.kept hg2 (.inr (fun e => by have := (hown.lt _ e).1; omega))
            have hszq := hg2.size
            replace hcase := Lib.hid hcase
            clear he hcall g0 g1
            (have hS := (by exact hXq.cell 2); refine hK.out _ _ (.inr hS) ?_; clear hK K; try simp only [Act.put, List.setIfInBounds_toArray, List.set_cons_zero, List.set_cons_succ])
            (refine mOne (i := 5) rfl (by kernel_rfl) (fun K hK => ?_))
            go_simp
            have hown4 := hownq.alloc (.cells #[a, b, cc] 48)
            have hreads : Reads (wq.alloc (.cells #[a, b, cc] 48)) (wq.heap.size + 1) 3 (some ⟨wq.heap.size, 0, none⟩) 1 [a, b, cc] :=
              ⟨rfl, fun _ => ⟨_, 0, rfl, by omega, fun j u hu => by rw [Nat.zero_add, cell_of_row _ _ j #[a, b, cc] 48 (0, 0) (heap_alloc_new wq _)]; simpa using hu⟩⟩
            have hs4 : (wq.alloc (.cells #[a, b, cc] 48)).heap.size = wq.heap.size + 1 := by simp
            have hX4 := hXq.alloc (.cells #[a, b, cc] 48)
            replace hXq := Lib.hid hXq
            (have hS := (by exact hX4.cell 2); refine hK.out _ _ (.inr hS) ?_; clear hK K; try simp only [Act.put, List.setIfInBounds_toArray, List.set_cons_zero, List.set_cons_succ])
            (refine mOne (i := 6) rfl (by kernel_rfl) (fun K hK => ?_))
            rw [if_pos (by rfl)]
            have hm24 : m + 1 ≤ 16777215 := by have := hrk.out; unfold Ns.maxBytes at hv24; simp at this; omega
            obtain ⟨i0, hi, hz0, hz1, hz2⟩ := info_parts info_item
            refine wp_append_any _ _ _ 45 rfl (gin + 2) 48 i0 itemZ 3 56 Try.underlying45 hi hz0 hz1 hz2 rfl (by omega) (.slice A m c) m (flat vs) rfl hown4 (wq.heap.size + 1) _ 1 1 [a, b, cc] rfl hreads h1 (by unfold maxLen; omega) (by omega) (by rw [hs4]; simp at hszq; omega) ?_
            intro v5 w5 hown5 hg5 hob
            obtain ⟨A5, c5, rfl⟩ : ∃ A5 c5, v5 = .slice A5 (m + 1) c5 := by
              rcases hown5.2 with ⟨_, h0⟩ | ⟨q, cap, cur, rfl, _⟩
              · omega
              · exact ⟨_, _, rfl⟩
            have hX5 : Blk w5 (gin + 1) 48 #[.bool true, .slice none 0 0, .slice A m c] :=
              (hg5.block (gin + 1) (by rw [hs4]; simp at hszq; omega) (fun e => by have := (hown.lt _ e.symm).1; omega)).trans hX4
            have g2 : w5.cell? ⟨gin + 1, 2, none⟩ = some (.slice A m c) := hX5.cell 2
            have f2 := hX5.frozen 2
            (have hS := (by exact g2); refine hK.out _ _ (.inr hS) ?_; clear hK K; try simp only [Act.put, List.setIfInBounds_toArray, List.set_cons_zero, List.set_cons_succ])
            replace hX5 := Lib.hid hX5
            replace hX4 := Lib.hid hX4
            (refine mPure (i := 7) (v := ?v5) rfl (by kernel_rfl) (fun _ _ _ h => h) (Or.inl ⟨by rfl, ?y5⟩) (.inr hS) ?r5; (case y5 => (intro W hW; clear hW; go_simp; (try with_reducible rfl); done)); try simp only [Act.put, List.setIfInBounds_toArray, List.set_cons_zero, List.set_cons_succ])
            (refine mOne (i := 8) rfl (by kernel_rfl) (fun K hK => ?_))
            go_simp
            (refine hK.out _ _ (.inl ⟨8, by simp, by kernel_rfl⟩) ?_; clear hK K; try simp only [Act.put, List.setIfInBounds_toArray, List.set_cons_zero, List.set_cons_succ])
            refine wpAnyM_done (by kernel_rfl) ?_ _
            obtain ⟨k', hk', hI⟩ := list_round (wr := wr.drew) hg hgin (grown_drew hgr) ⟨hro.cells.drew, hro.txt.drew⟩ hR.drew hX.out.drew hown.drew hsz hmk hrk.out hrj hm.out
              (hall.imp fun v x hx => hx.move _ _ _ (fun q h1 h2 => ⟨h1, rfl⟩) (Nat.le_refl _)) hmany.out hg2 hg5 hown5 hob hcells hcase.out
            replace hI := Lib.hid hI
            clear hS g2 f2 hX4 hX5 hXq hown hown4 hown5 hownq hreads hob hcase hall hR hro hgr hg2 hg5
            go_wp2_with fail
            go_roundg k'
            case measure => exact hk'
            case rel => exact hI.out
        · have g0 : wr.cell? ⟨gin, 0, none⟩ = some (.slice s1 s2 s3) := hbad.cell 0
          have g1 : wr.cell? ⟨gin, 1, none⟩ = some (.int .i64 e) := hbad.cell 1
          have hx4 := hx3.out
          rw [hmany] at hx4
          replace hx4 := Lib.hid hx4
          have hf := rd_fail g _ e wr hro.cells
          clear hmany hx3 hX
          by_cases h2 : s2 = 0
          · subst h2
            go_wp2_with fail
            refine hf.mono ?_
            rintro e2 w4 ⟨rfl, hb4, hg4⟩
            have hR4 := hR.grown hg4 (by omega)
            have hR4l := hR4.lt
            clear hf g0 g1
            go_wp2_with (refine wpList_store_row rfl 48 _ _ rfl w.heap.size #[.bool false, .slice none 0 0, .slice none 0 0] rfl rfl _ _ hR4 info_item3 rfl (by simp [Value.oneCell']) ?_)
            go_wp2_with fail
            refine bodyPost_ret (v := .agg #[.bool false, .slice none 0 0, .slice none 0 0]) (results_cell_row rfl _ _ w.heap.size _ #[.bool false, .slice none 0 0, .slice none 0 0] _ _ rfl (hR4.row _) Try.underlying48 rfl info_item3) rfl ?_
            exact ItemQ.bad hx4.out (grown_row (hgr.trans hg4) (Nat.le_refl _) _) ⟨_, _, _, hb4.row_far _ (by omega)⟩ he
          · have h2' : (0 : Int) < (s2 : Int) := by omega
            go_wp2_with fail
            refine hf.mono ?_
            rintro e2 w4 ⟨rfl, hb4, hg4⟩
            have hR4 := hR.grown hg4 (by omega)
            have hR4l := hR4.lt
            clear hf g0 g1
            go_wp2_with (refine wpList_store_row rfl 48 _ _ rfl w.heap.size #[.bool false, .slice none 0 0, .slice none 0 0] rfl rfl _ _ hR4 info_item3 rfl (by simp [Value.oneCell']) ?_)
            go_wp2_with fail
            refine bodyPost_ret (v := .agg #[.bool false, .slice none 0 0, .slice none 0 0]) (results_cell_row rfl _ _ w.heap.size _ #[.bool false, .slice none 0 0, .slice none 0 0] _ _ rfl (hR4.row _) Try.underlying48 rfl info_item3) rfl ?_
            exact ItemQ.bad hx4.out (grown_row (hgr.trans hg4) (Nat.le_refl _) _) ⟨_, _, _, hb4.row_far _ (by omega)⟩ he
end Go.Proofs.Yteknhmhmepnfjaa

/-
  Package nest: item at every depth, First, Decode.
-/
namespace Go.Proofs.Yteknhmhmepnfjaa
open Go.RowKit

theorem rd_item : ∀ (d : Nat), d ≤ 8 → ∀ (g : Nat) (A : Option Addr) (n c : Nat) (l : List UInt8) (w : World), RdIs w g A n c l →
    Calls Try.prog 59 #[.pointer (some ⟨g, 0, none⟩), .int .i64 (8 - (d : Int))] w (ItemQ (Ns.item d l) g w)
  | 0, _, g, A, n, c, l, w, h => rd_item_core 0 8 (.inl ⟨rfl, rfl⟩) g A n c l w h
  | d + 1, hd, g, A, n, c, l, w, h => by
    refine rd_item_core (d + 1) (8 - ((d + 1 : Nat) : Int)) (.inr ⟨by omega, by omega, rd_list_core d _ (by omega) (by omega) ?_⟩) g A n c l w h
    intro g A n c l w h
    rw [show 8 - ((d + 1 : Nat) : Int) + 1 = 8 - (d : Int) by omega]
    exact rd_item d (by omega) g A n c l w h
theorem results_row_tmps {P : Program} {fn : Func} {p q r : Tmp} {ty : TypeId} (h : fn.results = #[.cell p ty, .tmp q, .tmp r]) (tmps : Array Value) (w : World) (g : Nat) (t : TypeId) (cs : Array Value) (fr : Nat × Nat) (d : TypeDesc) (v u : Value)
    (hp : tmps.getD p undef = .pointer (some ⟨g, 0, none⟩)) (hq : tmps.getD q undef = v) (hr : tmps.getD r undef = u) (hg : w.heap[g]? = some (.cells cs t fr))
    (hu : P.underlying ty = some d) (hd : (match d with | .struct _ | .array _ _ => true | _ => false) = true) (hi : (P.info? ty).map (·.size) = some cs.size) :
    (results fn tmps).run P w = .ok (.tuple #[.agg cs, v, u]) w := by
  have hp' : tmps[p]?.getD undef = .pointer (some ⟨g, 0, none⟩) := by simpa using hp
  have hq' : tmps[q]?.getD undef = v := by simpa using hq
  have hr' : tmps[r]?.getD undef = u := by simpa using hr
  simp [results, h, hp', hq', hr', asAddr, run_loadVar_row w g t ty cs fr d hg hu hd hi]
theorem list_at {P : Program} {ops : Array Oper} {Q : Exit → Act → World → Prop} {rest : List Oper} {w : World} {a : Act} (I : World → Prop) (hI : I w) (h : ∀ w2, I w2 → wpList P ops Q rest a w2) : wpList P ops Q rest a w := h w hI
/-- what First answers -/
def FirstQ (l : List UInt8) (w : World) (e : Ending) (w' : World) : Prop := Below w.heap.size w w' ∧ match Ns.item 8 l with
  | .ok (x, r) => ∃ v, e = .returned (.tuple #[v, .int .i64 ((l.length - r.length : Nat) : Int), .int .i64 0]) ∧ Sits (Fr w' w.heap.size) w' 9 v x
  | .error k => e = .returned (.tuple #[itemZ, .int .i64 0, .int .i64 k]) ∧ k ≠ 0
structure FirI (w : World) (R gin gx : Nat) (A : Option Addr) (n c : Nat) (k : Int) (a b cc : Value) (T : World → Prop) (W : World) : Prop where
  res : Blk W R 48 rowZ
  row : Blk W gx 48 #[a, b, cc]
  s0 : W.cell? ⟨gin, 0, none⟩ = some (.slice A n c)
  s1 : W.cell? ⟨gin, 1, none⟩ = some (.int .i64 k)
  bel : Below w.heap.size w W
  sits : T W
theorem Blk.range3 {w : World} {g : Nat} {t : TypeId} {a b c : Value} (h : Blk w g t #[a, b, c]) : w.rangeAt g 0 [a, b, c] := fun j v hv => by
  rw [Nat.zero_add, h.cell j]
  simpa using hv
theorem first_keep (w1 : World) (cs : Array Value) (q : Nat) (hq : q < w1.heap.size) : ((w1.alloc (.cells rowZ 48)).setRow w1.heap.size cs).heap[q]? = w1.heap[q]? := by
  rw [setRow_other _ _ q _ (by omega), Below.heap_alloc w1 _ q hq]
theorem first_at {w w1 : World} {A : Option Addr} {n c : Nat} {k : Int} {a b cc : Value} {T : World → Prop} (hs : w.heap.size + 1 + 1 ≤ w1.heap.size) (hb : Blk w1 w.heap.size 48 rowZ) (hbe : Below w.heap.size w w1)
    (g0 : w1.cell? ⟨w.heap.size + 1, 0, none⟩ = some (.slice A n c)) (g1 : w1.cell? ⟨w.heap.size + 1, 1, none⟩ = some (.int .i64 k)) (hT : T ((w1.alloc (.cells rowZ 48)).setRow w1.heap.size #[a, b, cc])) :
    FirI w w.heap.size (w.heap.size + 1) w1.heap.size A n c k a b cc T ((w1.alloc (.cells rowZ 48)).setRow w1.heap.size #[a, b, cc]) := by
  have k1 := first_keep w1 #[a, b, cc]
  refine ⟨(k1 _ (by omega)).trans hb, (Blk.new w1 _ _).row _, (World.cell?_of_block (a := ⟨_, _, none⟩) (k1 _ (by show w.heap.size + 1 < _; omega))).trans g0, (World.cell?_of_block (a := ⟨_, _, none⟩) (k1 _ (by show w.heap.size + 1 < _; omega))).trans g1, ?_, hT⟩
  exact below_row (hbe.alloc (by omega) _) (by omega) _
set_option maxHeartbeats 1000000 in
set_option maxRecDepth 100000 in
theorem nest_First (A : Option Addr) (n c : Nat) (l : List UInt8) (w : World) (h : Bytes w w.heap.size A n c l) :
    Calls Try.prog 49 #[.slice A n c] w (FirstQ l w) := by
  have hlen := h.len
  have hn63 : (n : Int) ≤ 9223372036854775807 := by have := h.lim; have := h.cap; unfold maxLen at *; omega
  have hs1 : (w.alloc (.cells rowZ 48)).heap.size = w.heap.size + 1 := by simp
  have hri : RdIs ((w.alloc (.cells rowZ 48)).alloc (.cells #[.slice A n c, .int .i64 0] 83)) (w.heap.size + 1) A n c l :=
    ⟨Blk.new' hs1.symm, ((h.alloc (Nat.le_refl _) _).alloc (by simp) _).more (by omega)⟩
  have hb0 : Blk ((w.alloc (.cells rowZ 48)).alloc (.cells #[.slice A n c, .int .i64 0] 83)) w.heap.size 48 rowZ := (Blk.new w _ _).alloc _
  have hbe : Below w.heap.size w ((w.alloc (.cells rowZ 48)).alloc (.cells #[.slice A n c, .int .i64 0] 83)) := ((Below.refl _ _).alloc (Nat.le_refl _) _).alloc (by simp) _
  have hf := rd_item 8 (by omega) _ A n c l _ hri
  clear hri
  rw [show (8 : Int) - ((8 : Nat) : Int) = 0 by omega] at hf
  subst hlen
  go_enter Try.func49, Try.ntmps49
  go_wp2_with fail
  refine hf.mono ?_
  rintro e w1 hq
  obtain ⟨a, b, cc, rfl, h1, hcells, hg2, hcase⟩ := hq.rows
  have hs2 := hg2.size
  simp at hs2
  have hb1 := hb0.grown hg2 (by omega)
  have hbe1 := below_grown hbe hg2 (by omega) (by simp; omega)
  clear hf hq hb0 hbe hg2 h
  replace hb1 := Lib.hid hb1
  replace hcells := Lib.hid hcells
  rcases hcase with ⟨x, r, hx, hv, A', n', c', hr⟩ | ⟨k, hx, ⟨s1, s2, s3, hbad⟩, hk⟩
  · have g1 : w1.cell? ⟨w.heap.size + 1, 1, none⟩ = some (.int .i64 0) := hr.cells.cell 1
    have g0 : w1.cell? ⟨w.heap.size + 1, 0, none⟩ = some (.slice A' n' c') := hr.cells.cell 0
    have hrn := hr.txt.len
    subst hrn
    have hwr : IntKind.i64.wrap ((l.length : Int) - (r.length : Int)) = ((l.length - r.length : Nat) : Int) := by
      have := Ns.item_shorter hx
      rw [IntKind.wrap_i64]; omega
    replace hr := Lib.hid hr
    go_wp2_with (refine wpList_store_row rfl 48 _ _ rfl w1.heap.size #[a, b, cc] rfl rfl _ _ (Blk.new w1 48 rowZ) info_item3 rfl (by simpa using h1) ?_; refine list_at (FirI w w.heap.size (w.heap.size + 1) w1.heap.size A' r.length c' 0 a b cc (fun W => Sits (Fr W (w.heap.size + 1)) W 9 (.agg #[a, b, cc]) x)) (first_at hs2 hb1.out hbe1 g0 g1 (hv.move _ _ _ (fun q h1 h2 => have h3 := h1.1; have e := first_keep w1 #[a, b, cc] q h2; ⟨h1.move e (by simp at h3; omega), e⟩) (by simp))) ?_; clear g0 g1; intro w2 hI; have g0 := hI.s0; have g1 := hI.s1; replace hI := Lib.hid hI)
    refine wp_region_held_drew (S := (fun W => W.rangeAt w1.heap.size 0 [a, b, cc] ∧ W.cell? ⟨w.heap.size + 1, 0, none⟩ = some (.slice A' r.length c'))) (by kernel_rfl) (by exact ⟨hI.out.row.drew.range3, hI.out.s0⟩) (fun hS => ?_)
    (refine hTake (i := 0) rfl (by kernel_rfl) (by kernel_rfl) (by kernel_rfl) (fun _ _ _ h => h) (yieldsIf_load_mid (by rfl) _ _ rfl _ _ rfl [a, b, cc] _ (fun W hW => hW.1) Try.underlying48 rfl info_item3) hS ?_; try simp only [Act.put, List.setIfInBounds_toArray, List.set_cons_zero, List.set_cons_succ])
    (refine hTake (i := 1) (v := ?v1) rfl (by kernel_rfl) (by kernel_rfl) (by kernel_rfl) (fun _ _ _ h => h) (Or.inl ⟨by rfl, ?y1⟩) hS ?r1; (case y1 => (intro W hW; (go_simp); (try with_reducible rfl); done)); try simp only [Act.put, List.setIfInBounds_toArray, List.set_cons_zero, List.set_cons_succ])
    (refine hTake (i := 2) (v := ?v2) rfl (by kernel_rfl) (by kernel_rfl) (by kernel_rfl) (fun _ _ _ h => h) (Or.inl ⟨by rfl, ?y2⟩) hS ?r2; (case y2 => (intro W hW; (go_simp); (try with_reducible rfl); done)); try simp only [Act.put, List.setIfInBounds_toArray, List.set_cons_zero, List.set_cons_succ])
    (refine hTake (i := 3) (v := ?v3) rfl (by kernel_rfl) (by kernel_rfl) (by kernel_rfl) (fun _ _ _ h => h) (Or.inl ⟨by rfl, ?y3⟩) hS ?r3; (case y3 => (intro W hW; (go_simp); (try with_reducible rfl); done)); try simp only [Act.put, List.setIfInBounds_toArray, List.set_cons_zero, List.set_cons_succ])
    (refine hTake (i := 4) (v := ?v4) rfl (by kernel_rfl) (by kernel_rfl) (by kernel_rfl) (fun _ _ _ h => h) (Or.inl ⟨by rfl, ?y4⟩) hS ?r4; (case y4 => (intro W hW; ((have g := hW.2; go_simp)); (try with_reducible rfl); done)); try simp only [Act.put, List.setIfInBounds_toArray, List.set_cons_zero, List.set_cons_succ])
    (refine hTake (i := 5) (v := ?v5) rfl (by kernel_rfl) (by kernel_rfl) (by kernel_rfl) (fun _ _ _ h => h) (Or.inl ⟨by rfl, ?y5⟩) hS ?r5; (case y5 => (intro W hW; (go_simp); (try with_reducible rfl); done)); try simp only [Act.put, List.setIfInBounds_toArray, List.set_cons_zero, List.set_cons_succ])
    (refine hTake (i := 6) (v := ?v6) rfl (by kernel_rfl) (by kernel_rfl) (by kernel_rfl) (fun _ _ _ h => h) (Or.inl ⟨by rfl, ?y6⟩) hS ?r6; (case y6 => (intro W hW; (go_simp); (try with_reducible rfl); done)); try simp only [Act.put, List.setIfInBounds_toArray, List.set_cons_zero, List.set_cons_succ])
    (refine hOne (i := 7) rfl (by kernel_rfl) (fun K hK => ?_))
    rw [if_pos (by rfl)]
    refine wp_store_row 48 _ _ rfl w.heap.size #[a, b, cc] rfl rfl _ _ hI.out.res.drew info_item3 rfl (by simpa using h1) ?_
    have hle : w.heap.size ≤ w1.heap.size := by omega
    have hne : ∀ q, q ≠ w.heap.size → (w2.drew.setRow w.heap.size #[a, b, cc]).heap[q]? = w2.drew.heap[q]? := fun q hq => setRow_other _ _ q _ hq
    (refine hK.out _ _ (by exact ⟨(show Blk _ _ _ _ from (hne _ (by omega)).trans hI.out.row.drew).range3, (World.cell?_of_block (a := ⟨_, _, none⟩) (hne _ (by show w.heap.size + 1 ≠ _; omega))).trans hI.out.s0⟩) (fun hS => ?_); clear hK K; try simp only [Act.put, List.setIfInBounds_toArray, List.set_cons_zero, List.set_cons_succ])
    (refine hTake (i := 8) (v := ?v7) rfl (by kernel_rfl) (by kernel_rfl) (by kernel_rfl) (fun _ _ _ h => h) (Or.inl ⟨by rfl, ?y7⟩) hS ?r7; (case y7 => (intro W hW; (go_simp); (try with_reducible rfl); done)); try simp only [Act.put, List.setIfInBounds_toArray, List.set_cons_zero, List.set_cons_succ])
    (refine hTake (i := 9) (v := ?v8) rfl (by kernel_rfl) (by kernel_rfl) (by kernel_rfl) (fun _ _ _ h => h) (Or.inl ⟨by rfl, ?y8⟩) hS ?r8; (case y8 => (intro W hW; (go_simp); (try with_reducible rfl); done)); try simp only [Act.put, List.setIfInBounds_toArray, List.set_cons_zero, List.set_cons_succ])
    refine wpAnyH_done (by kernel_rfl) ?_ _
    go_wp2_with fail
    refine bodyPost_ret (v := .tuple #[.agg #[a, b, cc], .int .i64 ((l.length - r.length : Nat) : Int), .int .i64 0]) (results_row_tmps rfl _ _ w.heap.size _ #[a, b, cc] _ _ _ _ rfl rfl rfl (hI.out.res.drew.row _) Try.underlying48 rfl info_item3) rfl ?_
    refine ⟨below_row hI.out.bel.drew (Nat.le_refl _) _, ?_⟩
    rw [hx]
    exact ⟨_, rfl, hI.out.sits.move _ _ _ (fun q h1 h2 => have h3 := h1.1; have e := hne q (by omega); ⟨h1.move e (by omega), e⟩) (by simp)⟩
  · have g0 : w1.cell? ⟨w.heap.size + 1, 0, none⟩ = some (.slice s1 s2 s3) := hbad.cell 0
    have g1 : w1.cell? ⟨w.heap.size + 1, 1, none⟩ = some (.int .i64 k) := hbad.cell 1
    clear hbad
    go_wp2_with (refine wpList_store_row rfl 48 _ _ rfl w1.heap.size #[a, b, cc] rfl rfl _ _ (Blk.new w1 48 rowZ) info_item3 rfl (by simpa using h1) ?_; refine list_at (FirI w w.heap.size (w.heap.size + 1) w1.heap.size s1 s2 s3 k a b cc (fun _ => True)) (first_at hs2 hb1.out hbe1 g0 g1 trivial) ?_; clear g0 g1; intro w2 hI; have g0 := hI.s0; have g1 := hI.s1; replace hI := Lib.hid hI)
    refine wp_region_held_drew (S := (fun W => W.cell? ⟨w.heap.size + 1, 1, none⟩ = some (.int .i64 k))) (by kernel_rfl) (by exact hI.out.s1) (fun hS => ?_)
    (refine hTake (i := 0) (v := ?v9) rfl (by kernel_rfl) (by kernel_rfl) (by kernel_rfl) (fun _ _ _ h => h) (Or.inl ⟨by rfl, ?y9⟩) hS ?r9; (case y9 => (intro W hW; (go_simp); (try with_reducible rfl); done)); try simp only [Act.put, List.setIfInBounds_toArray, List.set_cons_zero, List.set_cons_succ])
    (refine hTake (i := 1) (v := ?v10) rfl (by kernel_rfl) (by kernel_rfl) (by kernel_rfl) (fun _ _ _ h => h) (Or.inl ⟨by rfl, ?y10⟩) hS ?r10; (case y10 => (intro W hW; (go_simp); (try with_reducible rfl); done)); try simp only [Act.put, List.setIfInBounds_toArray, List.set_cons_zero, List.set_cons_succ])
    (refine hTake (i := 2) (v := ?v11) rfl (by kernel_rfl) (by kernel_rfl) (by kernel_rfl) (fun _ _ _ h => h) (Or.inl ⟨by rfl, ?y11⟩) hS ?r11; (case y11 => (intro W hW; ((have g := hW; go_simp)); (try with_reducible rfl); done)); try simp only [Act.put, List.setIfInBounds_toArray, List.set_cons_zero, List.set_cons_succ])
    (refine hOne (i := 3) rfl (by kernel_rfl) (fun K hK => ?_))
    rw [if_pos (by rfl)]
    refine wp_store_row 48 _ _ rfl w.heap.size #[.bool false, .slice none 0 0, .slice none 0 0] rfl rfl _ _ hI.out.res.drew info_item3 rfl (by simp [Value.oneCell']) ?_
    have hne : ∀ q, q ≠ w.heap.size → (w2.drew.setRow w.heap.size #[.bool false, .slice none 0 0, .slice none 0 0]).heap[q]? = w2.drew.heap[q]? := fun q hq => setRow_other _ _ q _ hq
    (refine hK.out _ _ (by exact (World.cell?_of_block (a := ⟨_, _, none⟩) (hne _ (by show w.heap.size + 1 ≠ _; omega))).trans hI.out.s1) (fun hS => ?_); clear hK K; try simp only [Act.put, List.setIfInBounds_toArray, List.set_cons_zero, List.set_cons_succ])
    (refine hTake (i := 4) (v := ?v12) rfl (by kernel_rfl) (by kernel_rfl) (by kernel_rfl) (fun _ _ _ h => h) (Or.inl ⟨by rfl, ?y12⟩) hS ?r12; (case y12 => (intro W hW; (go_simp); (try with_reducible rfl); done)); try simp only [Act.put, List.setIfInBounds_toArray, List.set_cons_zero, List.set_cons_succ])
    (refine hTake (i := 5) (v := ?v13) rfl (by kernel_rfl) (by kernel_rfl) (by kernel_rfl) (fun _ _ _ h => h) (Or.inl ⟨by rfl, ?y13⟩) hS ?r13; (case y13 => (intro W hW; (go_simp); (try with_reducible rfl); done)); try simp only [Act.put, List.setIfInBounds_toArray, List.set_cons_zero, List.set_cons_succ])
    refine wpAnyH_done (by kernel_rfl) ?_ _
    go_wp2_with fail
    refine bodyPost_ret (v := .tuple #[itemZ, .int .i64 0, .int .i64 k]) (results_row_tmps rfl _ _ w.heap.size _ #[.bool false, .slice none 0 0, .slice none 0 0] _ _ _ _ rfl rfl rfl (hI.out.res.drew.row _) Try.underlying48 rfl info_item3) rfl ?_
    refine ⟨below_row hI.out.bel.drew (Nat.le_refl _) _, ?_⟩
    rw [hx]
    exact ⟨rfl, hk⟩
/-- what Decode answers -/
def DecQF (l : List UInt8) (w : World) (e : Ending) (w' : World) : Prop := Below w.heap.size w w' ∧ match Ns.dec l with
  | .ok x => ∃ v, e = .returned (.tuple #[v, .int .i64 0]) ∧ Sits (Fr w' w.heap.size) w' 9 v x
  | .error k => e = .returned (.tuple #[itemZ, .int .i64 k]) ∧ k ≠ 0
set_option maxHeartbeats 1000000 in
set_option maxRecDepth 100000 in
theorem nest_DecodeF (A : Option Addr) (n c : Nat) (l : List UInt8) (w : World) (h : Bytes w w.heap.size A n c l) :
    Calls Try.prog 33 #[.slice A n c] w (DecQF l w) := by
  have hf := nest_First A n c l _ ((h.alloc (Nat.le_refl _) (.cells rowZ 48)).more (show w.heap.size ≤ (w.alloc (.cells rowZ 48)).heap.size by simp))
  have hb0 : Blk (w.alloc (.cells rowZ 48)) w.heap.size 48 rowZ := Blk.new w _ _
  have hbe : Below w.heap.size w (w.alloc (.cells rowZ 48)) := (Below.refl _ _).alloc (Nat.le_refl _) _
  have hlen := h.len
  subst hlen
  clear h
  go_enter Try.func33, Try.ntmps33
  go_wp2_with fail
  refine hf.mono ?_
  rintro e w1 ⟨hbel, hq⟩
  have hs := hbel.size
  have hs0 : (w.alloc (.cells rowZ 48)).heap.size = w.heap.size + 1 := by simp
  have hb1 := hb0.below hbel (by omega)
  have hbe1 := hbe.trans (hbel.mono (by omega))
  clear hb0 hbe hbel hf
  cases hx : Ns.item 8 l with
  | error k =>
    rw [hx] at hq
    obtain ⟨rfl, hk⟩ := hq
    have hd := Lib.hid (show Ns.dec l = .error k by unfold Ns.dec; rw [hx])
    clear hx
    have hR : Blk ((w1.alloc (.cells rowZ 48)).setRow w1.heap.size #[.bool false, .slice none 0 0, .slice none 0 0]) w.heap.size 48 rowZ := (first_keep w1 _ _ (by omega)).trans hb1
    replace hR := Lib.hid hR
    clear hb1
    rw [show itemZ = .agg #[.bool false, .slice none 0 0, .slice none 0 0] from rfl]
    go_wp2_with (first
      | (refine wpList_store_row rfl 48 _ _ rfl w1.heap.size #[.bool false, .slice none 0 0, .slice none 0 0] rfl rfl _ _ (Blk.new w1 48 rowZ) info_item3 rfl (by simp [Value.oneCell']) ?_)
      | (refine wpList_load_row rfl 48 _ rfl w1.heap.size rfl _ _ _ _ ((Blk.new w1 48 rowZ).row #[.bool false, .slice none 0 0, .slice none 0 0]) Try.underlying48 rfl info_item3 ?_)
      | (refine wpList_store_row rfl 48 _ _ rfl w.heap.size #[.bool false, .slice none 0 0, .slice none 0 0] rfl rfl _ _ hR.out info_item3 rfl (by simp [Value.oneCell']) ?_))
    refine bodyPost_ret (v := .tuple #[itemZ, .int .i64 k]) (results_row_tmp rfl _ _ w.heap.size _ #[.bool false, .slice none 0 0, .slice none 0 0] _ _ _ rfl rfl (hR.out.row _) Try.underlying48 rfl info_item3) rfl ?_
    refine ⟨below_row (below_row (hbe1.alloc (by omega) _) (by omega) _) (Nat.le_refl _) _, ?_⟩
    rw [hd.out]
    exact ⟨rfl, hk⟩
  | ok p =>
    obtain ⟨x, r⟩ := p
    rw [hx] at hq
    obtain ⟨v, rfl, hv⟩ := hq
    have hlr := Ns.item_shorter hx
    obtain ⟨a, b, cc, rfl, _, h1⟩ := hv.cells
    have hR : Blk ((w1.alloc (.cells rowZ 48)).setRow w1.heap.size #[a, b, cc]) w.heap.size 48 rowZ := (first_keep w1 _ _ (by omega)).trans hb1
    replace hR := Lib.hid hR
    clear hb1
    replace hv := Lib.hid hv
    cases r with
    | nil =>
      have hd := Lib.hid (show Ns.dec l = .ok x by unfold Ns.dec; rw [hx])
      have hnl : ¬ ((l.length - ([] : List UInt8).length : Nat) : Int) < (l.length : Int) := by simp
      clear hx
      go_wp2_with (first
      | (refine wpList_store_row rfl 48 _ _ rfl w1.heap.size #[a, b, cc] rfl rfl _ _ (Blk.new w1 48 rowZ) info_item3 rfl (by simpa using h1) ?_)
      | (refine wpList_load_row rfl 48 _ rfl w1.heap.size rfl _ _ _ _ ((Blk.new w1 48 rowZ).row #[a, b, cc]) Try.underlying48 rfl info_item3 ?_)
      | (refine wpList_store_row rfl 48 _ _ rfl w.heap.size #[a, b, cc] rfl rfl _ _ hR.out info_item3 rfl (by simpa using h1) ?_))
      refine bodyPost_ret (v := .tuple #[.agg #[a, b, cc], .int .i64 0]) (results_row_tmp rfl _ _ w.heap.size _ #[a, b, cc] _ _ _ rfl rfl (hR.out.row _) Try.underlying48 rfl info_item3) rfl ?_
      refine ⟨below_row (below_row (hbe1.alloc (by omega) _) (by omega) _) (Nat.le_refl _) _, ?_⟩
      rw [hd.out]
      refine ⟨_, rfl, hv.out.move _ _ _ (fun q h1 h2 => ?_) (by simp)⟩
      have h3 := h1.1
      rw [hs0] at h3
      have e := (setRow_other ((w1.alloc (.cells rowZ 48)).setRow w1.heap.size #[a, b, cc]) w.heap.size q #[a, b, cc] (by omega)).trans (first_keep w1 _ q h2)
      exact ⟨h1.move e (by omega), e⟩
    | cons y r =>
      have hd := Lib.hid (show Ns.dec l = .error 24 by unfold Ns.dec; rw [hx])
      have hnl : ((l.length - (y :: r).length : Nat) : Int) < (l.length : Int) := by simp at hlr ⊢; omega
      clear hx
      go_wp2_with (first
      | (refine wpList_store_row rfl 48 _ _ rfl w1.heap.size #[a, b, cc] rfl rfl _ _ (Blk.new w1 48 rowZ) info_item3 rfl (by simpa using h1) ?_)
      | (refine wpList_load_row rfl 48 _ rfl w1.heap.size rfl _ _ _ _ ((Blk.new w1 48 rowZ).row #[a, b, cc]) Try.underlying48 rfl info_item3 ?_)
      | (refine wpList_store_row rfl 48 _ _ rfl w.heap.size #[.bool false, .slice none 0 0, .slice none 0 0] rfl rfl _ _ hR.out info_item3 rfl (by simp [Value.oneCell']) ?_))
      refine bodyPost_ret (v := .tuple #[itemZ, .int .i64 24]) (results_row_tmp rfl _ _ w.heap.size _ #[.bool false, .slice none 0 0, .slice none 0 0] _ _ _ rfl rfl (hR.out.row _) Try.underlying48 rfl info_item3) rfl ?_
      refine ⟨below_row (below_row (hbe1.alloc (by omega) _) (by omega) _) (Nat.le_refl _) _, ?_⟩
      rw [hd.out]
      exact ⟨rfl, by decide⟩
/-- .. said less -/
def DecQ (l : List UInt8) (w : World) (e : Ending) (w' : World) : Prop := Below w.heap.size w w' ∧ match Ns.dec l with
  | .ok x => ∃ v, e = .returned (.tuple #[v, .int .i64 0]) ∧ Sits (fun b => w.heap.size ≤ b) w' 9 v x
  | .error k => e = .returned (.tuple #[itemZ, .int .i64 k]) ∧ k ≠ 0
theorem nest_Decode (A : Option Addr) (n c : Nat) (l : List UInt8) (w : World) (h : Bytes w w.heap.size A n c l) :
    Calls Try.prog 33 #[.slice A n c] w (DecQ l w) := by
  refine (nest_DecodeF A n c l w h).mono ?_
  rintro e w' ⟨hb, hq⟩
  refine ⟨hb, ?_⟩
  generalize Ns.dec l = R at *
  cases R with
  | error k => exact hq
  | ok x => obtain ⟨v, rfl, hv⟩ := hq; exact ⟨v, rfl, hv.weak⟩
end Go.Proofs.Yteknhmhmepnfjaa

/-
  References and nodes in memory; package node: none.
-/
namespace Go.Proofs.Yteknhmhmepnfjaa
open Go.RowKit

/-- a reference's cells -/
def refCells (k : Int) (d : List UInt8) (A : Option Addr) (n c : Nat) : List Value := .int .i64 k :: (bv d ++ [.slice A n c])
def refRow (k : Int) (d : List UInt8) (A : Option Addr) (n c : Nat) : Array Value := (refCells k d A n c).toArray
theorem refCells_length {k : Int} {d : List UInt8} {A : Option Addr} {n c : Nat} (h : d.length = 32) : (refCells k d A n c).length = 34 := by simp [refCells, bv_length, h]
theorem refRow_zero {k : Int} {d : List UInt8} {A : Option Addr} {n c : Nat} : (refRow k d A n c)[0]? = some (.int .i64 k) := by simp [refRow, refCells]
theorem refRow_last {k : Int} {d : List UInt8} {A : Option Addr} {n c : Nat} (h : d.length = 32) : (refRow k d A n c)[33]? = some (.slice A n c) := by
  simp only [refRow, refCells, List.getElem?_toArray, List.getElem?_cons_succ]
  rw [List.getElem?_append_right (by rw [bv_length]; omega), bv_length, h]
  rfl
theorem info_ref : (Try.prog.info? 26).map (·.size) = some 34 := by kernel_rfl
theorem refRow_size {k : Int} {d : List UInt8} {A : Option Addr} {n c : Nat} (h : d.length = 32) : (refRow k d A n c).size = 34 := by simp [refRow, refCells_length h]
theorem refCells_one (k : Int) (d : List UInt8) (A : Option Addr) (n c : Nat) : ∀ u ∈ refCells k d A n c, u.oneCell' = true := by
  intro u hu
  simp only [refCells, List.mem_cons, List.mem_append, List.not_mem_nil, or_false] at hu
  rcases hu with rfl | hu | rfl
  · rfl
  · exact bv_one d u hu
  · rfl
theorem Blk.dig {w : World} {g : Nat} {k : Int} {d : List UInt8} {A : Option Addr} {n c : Nat} (h : Blk w g 26 (refRow k d A n c)) : w.rangeAt g 1 (bv d) := by
  intro j u hu
  have hj := (List.getElem?_eq_some_iff.1 hu).1
  rw [h.cell (1 + j)]
  simp only [refRow, refCells, List.getElem?_toArray]
  rw [Nat.add_comm 1 j, List.getElem?_cons_succ, List.getElem?_append_left hj]
  exact hu
/-- a reference in memory -/
def RefIn (S : Nat → Prop) (w : World) (v : Value) (r : Nd.Rf) : Prop := ∃ A n c, v = .agg (refRow r.kind r.dig A n c) ∧ r.dig.length = 32 ∧ n = r.inl.length ∧ n ≤ c ∧ c ≤ maxLen ∧ InS S w 1 A n (bv r.inl)
/-- an operation that is wanted, guarded or not -/
theorem wpList_wanted {P : Program} {ops : Array Oper} {Q : Exit → Act → World → Prop} {a : Act} {w : World} {rest : List Oper} {o : Oper} (hw : Region.wanted o (yielded ops a.tmps) = true)
    (h : ∀ K : Act → World → Prop, (∀ a w, wpList P ops Q rest a w → K a w) → o.wp P a w K Q) : wpList P ops Q (o :: rest) a w :=
  wpList_step fun K hK => by rw [if_pos hw]; exact h K hK
theorem wpList_mid_g {P : Program} {ops : Array Oper} {rest : List Oper} {op : Oper} {a : Act} {w : World} {Q : Exit → Act → World → Prop} (hw : Region.wanted op (yielded ops a.tmps) = true) (ty : TypeId) (x : Operand) (ho : op.op = .load ty x)
    (b o : Nat) (hx : a.eval x = .pointer (some ⟨b, o, none⟩)) (cs : List Value) (d : TypeDesc) (hc : w.rangeAt b o cs)
    (hu : P.underlying ty = some d) (hd : d.isRow = true) (hi : (P.info? ty).map (·.size) = some cs.length)
    (h : wpList P ops Q rest (a.put op.dst (.agg cs.toArray)) w) : wpList P ops Q (op :: rest) a w :=
  wpList_wanted hw fun _ hK => wp_load_mid ty x ho b o hx cs d hc hu hd hi (hK _ _ h)
/-- the zero digest written out -/
def digZ : Array Value := #[.int .u8 0, .int .u8 0, .int .u8 0, .int .u8 0, .int .u8 0, .int .u8 0, .int .u8 0, .int .u8 0, .int .u8 0, .int .u8 0, .int .u8 0, .int .u8 0, .int .u8 0, .int .u8 0, .int .u8 0, .int .u8 0, .int .u8 0, .int .u8 0, .int .u8 0, .int .u8 0, .int .u8 0, .int .u8 0, .int .u8 0, .int .u8 0, .int .u8 0, .int .u8 0, .int .u8 0, .int .u8 0, .int .u8 0, .int .u8 0, .int .u8 0, .int .u8 0]
theorem run_eql_zero (d : List UInt8) (hd : d.length = 32) (w : World) : (binOp .eql 24 (.agg (bv d).toArray) (.agg #[.int .u8 0, .int .u8 0, .int .u8 0, .int .u8 0, .int .u8 0, .int .u8 0, .int .u8 0, .int .u8 0, .int .u8 0, .int .u8 0, .int .u8 0, .int .u8 0, .int .u8 0, .int .u8 0, .int .u8 0, .int .u8 0, .int .u8 0, .int .u8 0, .int .u8 0, .int .u8 0, .int .u8 0, .int .u8 0, .int .u8 0, .int .u8 0, .int .u8 0, .int .u8 0, .int .u8 0, .int .u8 0, .int .u8 0, .int .u8 0, .int .u8 0, .int .u8 0])).run Try.prog w = .ok (.bool (decide (d = Nd.z32))) w :=
  run_eql_dig d Nd.z32 hd rfl w
/-- a node's cells -/
def nodCells (k : Int) (Ap : Option Addr) (np cp : Nat) (Av : Option Addr) (nv cv : Nat) (ck : Int) (cd : List UInt8) (Ac : Option Addr) (nc cc : Nat) (Ak : Option Addr) (nk kk : Nat) : List Value :=
  .int .i64 k :: .slice Ap np cp :: .slice Av nv cv :: (refCells ck cd Ac nc cc ++ [.slice Ak nk kk])
theorem nodCells_length {k ck : Int} {Ap Av Ac Ak : Option Addr} {np cp nv cv nc cc nk kk : Nat} {cd : List UInt8} (h : cd.length = 32) : (nodCells k Ap np cp Av nv cv ck cd Ac nc cc Ak nk kk).length = 38 := by
  simp [nodCells, refCells_length h]
theorem nodCells_one (k ck : Int) (Ap Av Ac Ak : Option Addr) (np cp nv cv nc cc nk kk : Nat) (cd : List UInt8) : ∀ u ∈ nodCells k Ap np cp Av nv cv ck cd Ac nc cc Ak nk kk, u.oneCell' = true := by
  intro u hu
  simp only [nodCells, List.mem_cons, List.mem_append, List.not_mem_nil, or_false] at hu
  rcases hu with rfl | rfl | rfl | hu | rfl
  · rfl
  · rfl
  · rfl
  · exact refCells_one _ _ _ _ _ u hu
  · rfl
theorem info_node : (Try.prog.info? 29).map (·.size) = some 38 := by kernel_rfl
/-- a node in memory -/
def NodIn (S : Nat → Prop) (w : World) (v : Value) (x : Nd.No) : Prop := ∃ (Ap : Option Addr) (np cp : Nat) (Av : Option Addr) (nv cv : Nat) (Ac : Option Addr) (nc cc : Nat) (Ak : Option Addr) (nk kk : Nat) (vs : List Value),
  v = .agg (nodCells x.kind Ap np cp Av nv cv x.child.kind x.child.dig Ac nc cc Ak nk kk).toArray ∧ x.child.dig.length = 32 ∧
  (np = x.path.length ∧ np ≤ cp ∧ cp ≤ maxLen ∧ InS S w 1 Ap np (bv x.path)) ∧ (nv = x.value.length ∧ nv ≤ cv ∧ cv ≤ maxLen ∧ InS S w 1 Av nv (bv x.value)) ∧
  (nc = x.child.inl.length ∧ nc ≤ cc ∧ cc ≤ maxLen ∧ InS S w 1 Ac nc (bv x.child.inl)) ∧ nk = x.kids.length ∧ nk ≤ kk ∧ kk ≤ maxLen ∧ InS S w 34 Ak nk (flat vs) ∧ All2 (RefIn S w) vs x.kids
theorem NodIn.row {S : Nat → Prop} {w : World} {v : Value} {x : Nd.No} (h : NodIn S w v x) : ∃ cs : List Value, v = .agg cs.toArray ∧ cs.length = 38 ∧ (∀ u ∈ cs, u.oneCell' = true) ∧ cs[0]? = some (.int .i64 x.kind) := by
  obtain ⟨Ap, np, cp, Av, nv, cv, Ac, nc, cc, Ak, nk, kk, vs, rfl, hd, _⟩ := h
  exact ⟨_, rfl, nodCells_length hd, nodCells_one _ _ _ _ _ _ _ _ _ _ _ _ _ _ _, rfl⟩
def noZ : Array Value := #[.int .i64 0, .slice none 0 0, .slice none 0 0, .int .i64 0, .int .u8 0, .int .u8 0, .int .u8 0, .int .u8 0, .int .u8 0, .int .u8 0, .int .u8 0, .int .u8 0, .int .u8 0, .int .u8 0, .int .u8 0, .int .u8 0, .int .u8 0, .int .u8 0, .int .u8 0, .int .u8 0, .int .u8 0, .int .u8 0, .int .u8 0, .int .u8 0, .int .u8 0, .int .u8 0, .int .u8 0, .int .u8 0, .int .u8 0, .int .u8 0, .int .u8 0, .int .u8 0, .int .u8 0, .int .u8 0, .int .u8 0, .int .u8 0, .slice none 0 0, .slice none 0 0]
/-- what node.Decode answers -/
def NodQ (b : List UInt8) (w : World) (e : Ending) (w' : World) : Prop := Below w.heap.size w w' ∧ match Nd.dec b with
  | some x => ∃ v, e = .returned (.tuple #[v, .int .i64 0]) ∧ NodIn (fun q => w.heap.size ≤ q) w' v x
  | none => e = .returned (.tuple #[.agg noZ, .int .i64 50])
/-- the contract of node.Decode at these bytes -/
def NodC (b : List UInt8) : Prop := ∀ (A : Option Addr) (n c : Nat) (w : World), Bytes w w.heap.size A n c b → Calls Try.prog 13 #[.slice A n c] w (NodQ b w)
/-- what is stored of Decode's answer: a row, and its kind -/
theorem NodQ.rows {b : List UInt8} {w w' : World} {e : Ending} (h : NodQ b w e w') : ∃ (cs : List Value), e = .returned (.tuple #[.agg cs.toArray, .int .i64 (if (Nd.dec b).isSome = true then 0 else 50)]) ∧ cs.length = 38 ∧ (∀ u ∈ cs, u.oneCell' = true) ∧ cs[0]? = some (.int .i64 ((Nd.dec b).getD Nd.no0).kind) ∧ Below w.heap.size w w' := by
  obtain ⟨hb, h⟩ := h
  cases hd : Nd.dec b with
  | none =>
    rw [hd] at h
    subst h
    refine ⟨noZ.toList, rfl, rfl, ?_, rfl, hb⟩
    have : noZ.toList.all (·.oneCell') = true := by kernel_rfl
    exact fun u hu => List.all_eq_true.1 this u hu
  | some x =>
    rw [hd] at h
    obtain ⟨v, rfl, hv⟩ := h
    obtain ⟨cs, rfl, h1, h2, h3⟩ := hv.row
    exact ⟨cs, rfl, h1, h2, h3, hb⟩
set_option maxHeartbeats 1000000 in
set_option maxRecDepth 100000 in
theorem node_none (k : Int) (d : List UInt8) (A : Option Addr) (n c : Nat) (w : World) (hd : d.length = 32) :
    Calls Try.prog 17 #[.agg (refRow k d A n c)] w fun e w' => e = .returned (.bool (decide (k = 0 ∧ d = Nd.z32 ∧ n = 0))) ∧ Below w.heap.size w w' := by
  have hb := Blk.new w 26 (refRow k d A n c)
  have hbe := (Below.refl w.heap.size w).alloc (Nat.le_refl _) (.cells (refRow k d A n c) 26)
  have hrg := hb.dig
  have hsz := refRow_size (k := k) (A := A) (n := n) (c := c) hd
  have g0 : (w.alloc (.cells (refRow k d A n c) 26)).cell? ⟨w.heap.size, 0, none⟩ = some (.int .i64 k) := (hb.cell 0).trans refRow_zero
  have g33 : (w.alloc (.cells (refRow k d A n c) 26)).cell? ⟨w.heap.size, 33, none⟩ = some (.slice A n c) := (hb.cell 33).trans (refRow_last hd)
  have heq := run_eql_zero d hd
  replace hb := Lib.hid hb
  replace hbe := Lib.hid hbe
  replace hsz := Lib.hid hsz
  generalize refRow k d A n c = R at *
  go_enter Try.func17, Try.ntmps17
  by_cases hk : k = 0
  · subst hk
    by_cases hz : d = Nd.z32
    · rw [decide_eq_true hz] at heq
      replace hz := Lib.hid hz
      go_wp2_with (refine wpList_mid_g (by rfl) 24 _ rfl w.heap.size 1 rfl (bv d) _ hrg Try.underlying24 rfl (by rw [bv_length, hd]; exact info_digest) ?_)
      go_ret
      exact ⟨ret_bool (by rw [Bool.eq_iff_iff]; simp [hz.out]; try omega), hbe.out⟩
    · rw [decide_eq_false hz] at heq
      replace hz := Lib.hid hz
      go_wp2_with (refine wpList_mid_g (by rfl) 24 _ rfl w.heap.size 1 rfl (bv d) _ hrg Try.underlying24 rfl (by rw [bv_length, hd]; exact info_digest) ?_)
      go_ret
      exact ⟨ret_bool (by rw [Bool.eq_iff_iff]; simp [hz.out]; try omega), hbe.out⟩
  · go_wp2_with fail
    go_ret
    exact ⟨ret_bool (by simp [hk]), hbe.out⟩
end Go.Proofs.Yteknhmhmepnfjaa

/-
  Package node: rightRef, branchOf.
-/
namespace Go.Proofs.Yteknhmhmepnfjaa
open Go.RowKit

/-- a node's row is stored anew -/
structure NodS (wr : World) (row : Array Value) (w2 : World) : Prop where
  it : Blk w2 wr.heap.size 29 row
  bel : Below wr.heap.size wr w2
theorem node_stored {wr : World} (row : Array Value) : NodS wr row ((wr.alloc (.cells noZ 29)).setRow wr.heap.size row) :=
  ⟨(Blk.new wr 29 noZ).row row, below_row ((Below.refl _ _).alloc (Nat.le_refl _) _) (Nat.le_refl _) _⟩
set_option maxHeartbeats 1000000 in
set_option maxRecDepth 100000 in
theorem node_rightRef (k : Int) (d b : List UInt8) (A : Option Addr) (n c : Nat) (w : World) (hd : d.length = 32) (h : Bytes w w.heap.size A n c b) (hC : k = 1 → NodC b) :
    Calls Try.prog 18 #[.agg (refRow k d A n c)] w fun e w' => e = .returned (.bool (Nd.rightRef Nd.dec ⟨k, d, b⟩)) ∧ Below w.heap.size w w' := by
  have hlen := h.len
  have hb := Blk.new w 26 (refRow k d A n c)
  have hbe := (Below.refl w.heap.size w).alloc (Nat.le_refl _) (.cells (refRow k d A n c) 26)
  have hrg := hb.dig
  have g0 : (w.alloc (.cells (refRow k d A n c) 26)).cell? ⟨w.heap.size, 0, none⟩ = some (.int .i64 k) := (hb.cell 0).trans refRow_zero
  have g33 : (w.alloc (.cells (refRow k d A n c) 26)).cell? ⟨w.heap.size, 33, none⟩ = some (.slice A n c) := (hb.cell 33).trans (refRow_last hd)
  have heq := run_eql_zero d hd
  have h1 := h.alloc (Nat.le_refl _) (.cells (refRow k d A n c) 26)
  have hs0 : (w.alloc (.cells (refRow k d A n c) 26)).heap.size = w.heap.size + 1 := by simp
  have hrt : Nd.rightRef Nd.dec ⟨k, d, b⟩ = if k = 0 then decide (d = Nd.z32 ∧ b.length = 0) else if k = 2 then decide (b.length = 0) else if k = 1 then decide (d = Nd.z32 ∧ b.length < 32 ∧ (Nd.dec b).isSome = true) else false := rfl
  have hRf : ∀ W, Blk W w.heap.size 26 (refRow k d A n c) → W.rangeAt w.heap.size 1 (bv d) ∧ W.cell? ⟨w.heap.size, 33, none⟩ = some (.slice A n c) := fun W h => ⟨h.dig, (h.cell 33).trans (refRow_last hd)⟩
  generalize Nd.rightRef Nd.dec ⟨k, d, b⟩ = X at *
  generalize refRow k d A n c = R at *
  subst hlen
  replace hRf := Lib.hid hRf
  replace hb := Lib.hid hb
  replace hbe := Lib.hid hbe
  replace h := Lib.hid h
  replace hs0 := Lib.hid hs0
  replace h1 := Lib.hid h1
  by_cases hk0 : k = 0
  · rw [if_pos hk0] at hrt
    subst hk0
    replace hrt := Lib.hid hrt
    clear hC
    by_cases hz : d = Nd.z32
    · rw [decide_eq_true hz] at heq
      replace hz := Lib.hid hz
      go_enter Try.func18, Try.ntmps18
      go_wp2_with (refine wpList_mid_g (by rfl) 24 _ rfl w.heap.size 1 rfl (bv d) _ hrg Try.underlying24 rfl (by rw [bv_length, hd]; exact info_digest) ?_)
      go_ret
      exact ⟨ret_bool (by rw [hrt.out, Bool.eq_iff_iff]; simp [hz.out]), hbe.out⟩
    · rw [decide_eq_false hz] at heq
      replace hz := Lib.hid hz
      go_enter Try.func18, Try.ntmps18
      go_wp2_with (refine wpList_mid_g (by rfl) 24 _ rfl w.heap.size 1 rfl (bv d) _ hrg Try.underlying24 rfl (by rw [bv_length, hd]; exact info_digest) ?_)
      go_ret
      exact ⟨ret_bool (by rw [hrt.out, Bool.eq_iff_iff]; simp [hz.out]), hbe.out⟩
  by_cases hk2 : k = 2
  · rw [if_neg hk0, if_pos hk2] at hrt
    subst hk2
    replace hrt := Lib.hid hrt
    clear hC
    go_enter Try.func18, Try.ntmps18
    go_wp2_with fail
    go_ret
    exact ⟨ret_bool (by rw [hrt.out, Bool.eq_iff_iff]; simp), hbe.out⟩
  by_cases hk1 : k = 1
  · rw [if_neg hk0, if_neg hk2, if_pos hk1] at hrt
    have hcall := hC hk1 A b.length c _ (h1.out.more (by rw [hs0.out]; omega))
    subst hk1
    clear hC
    go_enter Try.func18, Try.ntmps18
    go_wp2_with fail
    refine hcall.mono ?_
    intro e w2 hq
    obtain ⟨cs, rfl, hcl, hone, hc0, hbe2⟩ := hq.rows
    have hs0' := hs0.out
    have hb2 := hb.out.below hbe2 (by omega)
    have hbw := hbe.out.trans (hbe2.mono (by omega))
    have hlt := hb2.lt
    have hst := node_stored (wr := w2) cs.toArray
    have hcs := Lib.hid (show cs.toArray.size = 38 by simp [hcl])
    clear hcall hq hbe2 hrg g0 g33
    replace hst := Lib.hid hst
    replace hbw := Lib.hid hbw
    replace hc0 := Lib.hid hc0
    replace hb2 := Lib.hid hb2
    cases hsome : (Nd.dec b).isSome with
    | false =>
      rw [hsome] at hrt
      replace hrt := Lib.hid hrt
      clear hsome
      by_cases hz : d = Nd.z32
      · rw [decide_eq_true hz] at heq
        replace hz := Lib.hid hz
        by_cases hl : b.length < 32
        · have hl' :  (b.length : Int) < 32 := by omega
          replace hl := Lib.hid hl
          go_wp2_with (first
            | (refine wpList_store_row rfl 29 _ _ rfl w2.heap.size cs.toArray rfl rfl _ _ (Blk.new w2 29 noZ) (by rw [hcs.out]; exact info_node) (by rw [hcs.out]; rfl) (by simpa using hone) ?_; refine list_at (NodS w2 _) hst.out ?_; intro w3 hI3; have hb3 := hb2.out.below hI3.bel hlt; have hrg3 := (hRf.out w3 hb3).1; have g33 := (hRf.out w3 hb3).2; replace hb3 := Lib.hid hb3; replace hI3 := Lib.hid hI3)
            | (refine wpList_mid_g (by rfl) 24 _ rfl w.heap.size 1 rfl (bv d) _ hrg3 Try.underlying24 rfl (by rw [bv_length, hd]; exact info_digest) ?_))
          go_ret
          exact ⟨ret_bool (by rw [hrt.out, Bool.eq_iff_iff]; simp [hz.out, hl.out]), hbw.out.trans (hI3.out.bel.mono hbw.out.size)⟩
        · have hl' : ¬ (b.length : Int) < 32 := by omega
          replace hl := Lib.hid hl
          go_wp2_with (first
            | (refine wpList_store_row rfl 29 _ _ rfl w2.heap.size cs.toArray rfl rfl _ _ (Blk.new w2 29 noZ) (by rw [hcs.out]; exact info_node) (by rw [hcs.out]; rfl) (by simpa using hone) ?_; refine list_at (NodS w2 _) hst.out ?_; intro w3 hI3; have hb3 := hb2.out.below hI3.bel hlt; have hrg3 := (hRf.out w3 hb3).1; have g33 := (hRf.out w3 hb3).2; replace hb3 := Lib.hid hb3; replace hI3 := Lib.hid hI3)
            | (refine wpList_mid_g (by rfl) 24 _ rfl w.heap.size 1 rfl (bv d) _ hrg3 Try.underlying24 rfl (by rw [bv_length, hd]; exact info_digest) ?_))
          go_ret
          exact ⟨ret_bool (by rw [hrt.out, Bool.eq_iff_iff]; simp [hz.out, hl.out]), hbw.out.trans (hI3.out.bel.mono hbw.out.size)⟩
      · rw [decide_eq_false hz] at heq
        replace hz := Lib.hid hz
        by_cases hl : b.length < 32
        · have hl' :  (b.length : Int) < 32 := by omega
          replace hl := Lib.hid hl
          go_wp2_with (first
            | (refine wpList_store_row rfl 29 _ _ rfl w2.heap.size cs.toArray rfl rfl _ _ (Blk.new w2 29 noZ) (by rw [hcs.out]; exact info_node) (by rw [hcs.out]; rfl) (by simpa using hone) ?_; refine list_at (NodS w2 _) hst.out ?_; intro w3 hI3; have hb3 := hb2.out.below hI3.bel hlt; have hrg3 := (hRf.out w3 hb3).1; have g33 := (hRf.out w3 hb3).2; replace hb3 := Lib.hid hb3; replace hI3 := Lib.hid hI3)
            | (refine wpList_mid_g (by rfl) 24 _ rfl w.heap.size 1 rfl (bv d) _ hrg3 Try.underlying24 rfl (by rw [bv_length, hd]; exact info_digest) ?_))
          go_ret
          exact ⟨ret_bool (by rw [hrt.out, Bool.eq_iff_iff]; simp [hz.out, hl.out]), hbw.out.trans (hI3.out.bel.mono hbw.out.size)⟩
        · have hl' : ¬ (b.length : Int) < 32 := by omega
          replace hl := Lib.hid hl
          go_wp2_with (first
            | (refine wpList_store_row rfl 29 _ _ rfl w2.heap.size cs.toArray rfl rfl _ _ (Blk.new w2 29 noZ) (by rw [hcs.out]; exact info_node) (by rw [hcs.out]; rfl) (by simpa using hone) ?_; refine list_at (NodS w2 _) hst.out ?_; intro w3 hI3; have hb3 := hb2.out.below hI3.bel hlt; have hrg3 := (hRf.out w3 hb3).1; have g33 := (hRf.out w3 hb3).2; replace hb3 := Lib.hid hb3; replace hI3 := Lib.hid hI3)
            | (refine wpList_mid_g (by rfl) 24 _ rfl w.heap.size 1 rfl (bv d) _ hrg3 Try.underlying24 rfl (by rw [bv_length, hd]; exact info_digest) ?_))
          go_ret
          exact ⟨ret_bool (by rw [hrt.out, Bool.eq_iff_iff]; simp [hz.out, hl.out]), hbw.out.trans (hI3.out.bel.mono hbw.out.size)⟩
    | true =>
      rw [hsome] at hrt
      replace hrt := Lib.hid hrt
      clear hsome
      by_cases hz : d = Nd.z32
      · rw [decide_eq_true hz] at heq
        replace hz := Lib.hid hz
        by_cases hl : b.length < 32
        · have hl' :  (b.length : Int) < 32 := by omega
          replace hl := Lib.hid hl
          go_wp2_with (first
            | (refine wpList_store_row rfl 29 _ _ rfl w2.heap.size cs.toArray rfl rfl _ _ (Blk.new w2 29 noZ) (by rw [hcs.out]; exact info_node) (by rw [hcs.out]; rfl) (by simpa using hone) ?_; refine list_at (NodS w2 _) hst.out ?_; intro w3 hI3; have hb3 := hb2.out.below hI3.bel hlt; have hrg3 := (hRf.out w3 hb3).1; have g33 := (hRf.out w3 hb3).2; replace hb3 := Lib.hid hb3; replace hI3 := Lib.hid hI3)
            | (refine wpList_mid_g (by rfl) 24 _ rfl w.heap.size 1 rfl (bv d) _ hrg3 Try.underlying24 rfl (by rw [bv_length, hd]; exact info_digest) ?_))
          go_ret
          exact ⟨ret_bool (by rw [hrt.out, Bool.eq_iff_iff]; simp [hz.out, hl.out]), hbw.out.trans (hI3.out.bel.mono hbw.out.size)⟩
        · have hl' : ¬ (b.length : Int) < 32 := by omega
          replace hl := Lib.hid hl
          go_wp2_with (first
            | (refine wpList_store_row rfl 29 _ _ rfl w2.heap.size cs.toArray rfl rfl _ _ (Blk.new w2 29 noZ) (by rw [hcs.out]; exact info_node) (by rw [hcs.out]; rfl) (by simpa using hone) ?_; refine list_at (NodS w2 _) hst.out ?_; intro w3 hI3; have hb3 := hb2.out.below hI3.bel hlt; have hrg3 := (hRf.out w3 hb3).1; have g33 := (hRf.out w3 hb3).2; replace hb3 := Lib.hid hb3; replace hI3 := Lib.hid hI3)
            | (refine wpList_mid_g (by rfl) 24 _ rfl w.heap.size 1 rfl (bv d) _ hrg3 Try.underlying24 rfl (by rw [bv_length, hd]; exact info_digest) ?_))
          go_ret
          exact ⟨ret_bool (by rw [hrt.out, Bool.eq_iff_iff]; simp [hz.out, hl.out]), hbw.out.trans (hI3.out.bel.mono hbw.out.size)⟩
      · rw [decide_eq_false hz] at heq
        replace hz := Lib.hid hz
        by_cases hl : b.length < 32
        · have hl' :  (b.length : Int) < 32 := by omega
          replace hl := Lib.hid hl
          go_wp2_with (first
            | (refine wpList_store_row rfl 29 _ _ rfl w2.heap.size cs.toArray rfl rfl _ _ (Blk.new w2 29 noZ) (by rw [hcs.out]; exact info_node) (by rw [hcs.out]; rfl) (by simpa using hone) ?_; refine list_at (NodS w2 _) hst.out ?_; intro w3 hI3; have hb3 := hb2.out.below hI3.bel hlt; have hrg3 := (hRf.out w3 hb3).1; have g33 := (hRf.out w3 hb3).2; replace hb3 := Lib.hid hb3; replace hI3 := Lib.hid hI3)
            | (refine wpList_mid_g (by rfl) 24 _ rfl w.heap.size 1 rfl (bv d) _ hrg3 Try.underlying24 rfl (by rw [bv_length, hd]; exact info_digest) ?_))
          go_ret
          exact ⟨ret_bool (by rw [hrt.out, Bool.eq_iff_iff]; simp [hz.out, hl.out]), hbw.out.trans (hI3.out.bel.mono hbw.out.size)⟩
        · have hl' : ¬ (b.length : Int) < 32 := by omega
          replace hl := Lib.hid hl
          go_wp2_with (first
            | (refine wpList_store_row rfl 29 _ _ rfl w2.heap.size cs.toArray rfl rfl _ _ (Blk.new w2 29 noZ) (by rw [hcs.out]; exact info_node) (by rw [hcs.out]; rfl) (by simpa using hone) ?_; refine list_at (NodS w2 _) hst.out ?_; intro w3 hI3; have hb3 := hb2.out.below hI3.bel hlt; have hrg3 := (hRf.out w3 hb3).1; have g33 := (hRf.out w3 hb3).2; replace hb3 := Lib.hid hb3; replace hI3 := Lib.hid hI3)
            | (refine wpList_mid_g (by rfl) 24 _ rfl w.heap.size 1 rfl (bv d) _ hrg3 Try.underlying24 rfl (by rw [bv_length, hd]; exact info_digest) ?_))
          go_ret
          exact ⟨ret_bool (by rw [hrt.out, Bool.eq_iff_iff]; simp [hz.out, hl.out]), hbw.out.trans (hI3.out.bel.mono hbw.out.size)⟩
  · rw [if_neg hk0, if_neg hk2, if_neg hk1] at hrt
    replace hrt := Lib.hid hrt
    clear hC
    go_enter Try.func18, Try.ntmps18
    go_wp2_with fail
    go_ret
    exact ⟨ret_bool hrt.out.symm, hbe.out⟩
set_option maxHeartbeats 1000000 in
set_option maxRecDepth 100000 in
theorem node_branchOf (k : Int) (d b : List UInt8) (A : Option Addr) (n c : Nat) (w : World) (hd : d.length = 32) (h : Bytes w w.heap.size A n c b) (hC : k = 1 → NodC b) :
    Calls Try.prog 19 #[.agg (refRow k d A n c)] w fun e w' => e = .returned (.bool (Nd.branchOf Nd.dec ⟨k, d, b⟩)) ∧ Below w.heap.size w w' := by
  have hlen := h.len
  have hb := Blk.new w 26 (refRow k d A n c)
  have hbe := (Below.refl w.heap.size w).alloc (Nat.le_refl _) (.cells (refRow k d A n c) 26)
  have g0 : (w.alloc (.cells (refRow k d A n c) 26)).cell? ⟨w.heap.size, 0, none⟩ = some (.int .i64 k) := (hb.cell 0).trans refRow_zero
  have g33 : (w.alloc (.cells (refRow k d A n c) 26)).cell? ⟨w.heap.size, 33, none⟩ = some (.slice A n c) := (hb.cell 33).trans (refRow_last hd)
  have h1 := h.alloc (Nat.le_refl _) (.cells (refRow k d A n c) 26)
  have hs0 : (w.alloc (.cells (refRow k d A n c) 26)).heap.size = w.heap.size + 1 := by simp
  have hrt : Nd.branchOf Nd.dec ⟨k, d, b⟩ = if k = 1 then decide (((Nd.dec b).getD Nd.no0).kind = 3) else decide (k = 2) := rfl
  generalize Nd.branchOf Nd.dec ⟨k, d, b⟩ = X at *
  generalize refRow k d A n c = R at *
  subst hlen
  replace hb := Lib.hid hb
  replace hbe := Lib.hid hbe
  replace h := Lib.hid h
  replace hs0 := Lib.hid hs0
  replace h1 := Lib.hid h1
  by_cases hk1 : k = 1
  · rw [if_pos hk1] at hrt
    have hcall := hC hk1 A b.length c _ (h1.out.more (by rw [hs0.out]; omega))
    subst hk1
    clear hC
    go_enter Try.func19, Try.ntmps19
    go_wp2_with fail
    refine hcall.mono ?_
    intro e w2 hq
    obtain ⟨cs, rfl, hcl, hone, hc0, hbe2⟩ := hq.rows
    have hbw := hbe.out.trans (hbe2.mono (by have := hs0.out; omega))
    have hst := node_stored (wr := w2) cs.toArray
    have hcs := Lib.hid (show cs.toArray.size = 38 by simp [hcl])
    clear hcall hq hbe2 g0 g33
    replace hst := Lib.hid hst
    replace hbw := Lib.hid hbw
    generalize ((Nd.dec b).getD Nd.no0).kind = kk at *
    generalize (if (Nd.dec b).isSome = true then (0 : Int) else 50) = code at *
    replace hrt := Lib.hid hrt
    replace hc0 := Lib.hid hc0
    go_wp2_with (refine wpList_store_row rfl 29 _ _ rfl w2.heap.size cs.toArray rfl rfl _ _ (Blk.new w2 29 noZ) (by rw [hcs.out]; exact info_node) (by rw [hcs.out]; rfl) (by simpa using hone) ?_; refine list_at (NodS w2 _) hst.out ?_; intro w3 hI3; have k0 : w3.cell? ⟨w2.heap.size, 0, none⟩ = some (.int .i64 kk) := (hI3.it.cell 0).trans (by rw [List.getElem?_toArray]; exact hc0.out); replace hI3 := Lib.hid hI3)
    go_ret
    exact ⟨ret_bool (by rw [hrt.out, Bool.eq_iff_iff]; simp), hbw.out.trans (hI3.out.bel.mono hbw.out.size)⟩
  · rw [if_neg hk1] at hrt
    replace hrt := Lib.hid hrt
    clear hC
    go_enter Try.func19, Try.ntmps19
    go_wp2_with fail
    go_ret
    exact ⟨ret_bool (by rw [hrt.out, Bool.eq_iff_iff]; simp), hbe.out⟩
end Go.Proofs.Yteknhmhmepnfjaa

/-
  Package node: occupied; the references of a list in memory.
-/
namespace Go.Proofs.Yteknhmhmepnfjaa
open Go.RowKit

theorem flat_atN (m : Nat) : ∀ (vs : List Value) (i : Nat) (v : Value), (∀ u ∈ vs, u.cells.toList.length = m) → vs[i]? = some v → ∀ j u, j < m → v.cells.toList[j]? = some u → (flat vs)[m * i + j]? = some u
  | [], i, v, _, h, _, _, _, _ => by simp at h
  | x :: vs, 0, v, h3, h, j, u, hj, hu => by
    simp at h; subst h
    have hx := h3 x (by simp)
    show (x.cells.toList ++ flat vs)[m * 0 + j]? = some u
    rw [Nat.mul_zero, Nat.zero_add, List.getElem?_append_left (by omega)]
    exact hu
  | x :: vs, i + 1, v, h3, h, j, u, hj, hu => by
    have hx := h3 x (by simp)
    show (x.cells.toList ++ flat vs)[m * (i + 1) + j]? = some u
    rw [List.getElem?_append_right (by rw [Nat.mul_add]; omega), hx, show m * (i + 1) + j - m = m * i + j by rw [Nat.mul_add]; omega]
    exact flat_atN m vs i v (fun u hu => h3 u (by simp [hu])) (by simpa using h) j u hj hu
theorem RefIn.move {S S' : Nat → Prop} {w w' : World} {v : Value} {r : Nd.Rf} (h : RefIn S w v r) (hS : ∀ g, S g → g < w.heap.size → S' g ∧ w'.heap[g]? = w.heap[g]?) (hs : w.heap.size ≤ w'.heap.size) : RefIn S' w' v r := by
  obtain ⟨A, n, c, h1, h2, h3, h4, h5, h6⟩ := h
  exact ⟨A, n, c, h1, h2, h3, h4, h5, h6.move hS hs⟩
/-- the i-th reference of a list -/
theorem refs_at {S : Nat → Prop} {w : World} {n : Nat} {A : Option Addr} {vs : List Value} {rs : List Nd.Rf} (hin : InS S w 34 A n (flat vs)) (hall : All2 (RefIn S w) vs rs) (hn : n = rs.length) (i : Nat) (hi : i < rs.length) :
    ∃ (g o : Nat) (A' : Option Addr) (n' c' : Nat), A = some ⟨g, o, none⟩ ∧ S g ∧ g < w.heap.size ∧ w.rangeAt g (o + i * 34) (refCells rs[i].kind rs[i].dig A' n' c') ∧ rs[i].dig.length = 32 ∧ Bytes w w.heap.size A' n' c' rs[i].inl := by
  obtain ⟨g, o, e, h1, h2, hc⟩ := hin.2 (by omega)
  obtain ⟨v, hv, A', n', c', rfl, hd, h3, h4, h5, h6⟩ := hall.2 i rs[i] (List.getElem?_eq_getElem hi)
  refine ⟨g, o, A', n', c', e, h1, h2, fun j u hu => ?_, hd, h3, h4, h5, h6.reads fun _ _ h => h⟩
  have hj : j < 34 := by
    have := (List.getElem?_eq_some_iff.1 hu).1
    rwa [refCells_length hd] at this
  have hcl : ∀ u ∈ vs, u.cells.toList.length = 34 := by
    intro u hu
    obtain ⟨k, hk, rfl⟩ := List.mem_iff_getElem.1 hu
    obtain ⟨v, hv, A', n', c', rfl, hd, _⟩ := hall.2 k (rs[k]'(by rw [← hall.1]; exact hk)) (List.getElem?_eq_getElem _)
    rw [List.getElem?_eq_getElem hk] at hv
    injection hv with hv
    rw [hv]
    show (refRow _ _ _ _ _).toList.length = 34
    rw [Array.length_toList, refRow_size hd]
  rw [Nat.add_assoc, Nat.mul_comm i 34]
  exact hc _ u (flat_atN 34 vs i _ hcl hv j u hj (by simpa [Value.cells, refRow] using hu))
/-- a reference's row is stored anew -/
structure RefS (wr : World) (row : Array Value) (w2 : World) : Prop where
  it : Blk w2 wr.heap.size 26 row
  bel : Below wr.heap.size wr w2
def refZ : Array Value := #[.int .i64 0, .int .u8 0, .int .u8 0, .int .u8 0, .int .u8 0, .int .u8 0, .int .u8 0, .int .u8 0, .int .u8 0, .int .u8 0, .int .u8 0, .int .u8 0, .int .u8 0, .int .u8 0, .int .u8 0, .int .u8 0, .int .u8 0, .int .u8 0, .int .u8 0, .int .u8 0, .int .u8 0, .int .u8 0, .int .u8 0, .int .u8 0, .int .u8 0, .int .u8 0, .int .u8 0, .int .u8 0, .int .u8 0, .int .u8 0, .int .u8 0, .int .u8 0, .int .u8 0, .slice none 0 0]
theorem ref_stored {wr : World} (row : Array Value) : RefS wr row ((wr.alloc (.cells refZ 26)).setRow wr.heap.size row) :=
  ⟨(Blk.new wr 26 refZ).row row, below_row ((Below.refl _ _).alloc (Nat.le_refl _) _) (Nat.le_refl _) _⟩
theorem refRow_one (k : Int) (d : List UInt8) (A : Option Addr) (n c : Nat) : (refRow k d A n c).all (·.oneCell') = true :=
  Array.all_eq_true_iff_forall_mem.2 (by intro u hu; exact refCells_one k d A n c u (by simpa [refRow] using hu))
/-- a node's row, by what it is made of -/
def nodRow (k : Int) (Ap : Option Addr) (np cp : Nat) (Av : Option Addr) (nv cv : Nat) (ck : Int) (cd : List UInt8) (Ac : Option Addr) (nc cc : Nat) (Ak : Option Addr) (nk kk : Nat) : Array Value := (nodCells k Ap np cp Av nv cv ck cd Ac nc cc Ak nk kk).toArray
theorem nodRow_last {k ck : Int} {Ap Av Ac Ak : Option Addr} {np cp nv cv nc cc nk kk : Nat} {cd : List UInt8} (h : cd.length = 32) : (nodRow k Ap np cp Av nv cv ck cd Ac nc cc Ak nk kk)[37]? = some (.slice Ak nk kk) := by
  simp only [nodRow, nodCells, List.getElem?_toArray, List.getElem?_cons_succ]
  rw [List.getElem?_append_right (by rw [refCells_length h]; omega), refCells_length h]
  rfl
theorem nodRow_size {k ck : Int} {Ap Av Ac Ak : Option Addr} {np cp nv cv nc cc nk kk : Nat} {cd : List UInt8} (h : cd.length = 32) : (nodRow k Ap np cp Av nv cv ck cd Ac nc cc Ak nk kk).size = 38 := by
  show (nodCells k Ap np cp Av nv cv ck cd Ac nc cc Ak nk kk).toArray.size = 38
  rw [List.size_toArray, nodCells_length h]
set_option maxHeartbeats 1000000 in
set_option maxRecDepth 100000 in
theorem node_occupied (S : Nat → Prop) (k ck : Int) (Ap Av Ac Ak : Option Addr) (np cp nv cv nc cc nk kk : Nat) (cd : List UInt8) (hcd : cd.length = 32) (vs : List Value) (ks : List Nd.Rf) (w : World) (hnk : nk = ks.length) (hkk : nk ≤ kk) (hm : kk ≤ maxLen) (hsm : nk ≤ 9223372036854775800)
    (hin : InS S w 34 Ak nk (flat vs)) (hall : All2 (RefIn S w) vs ks) :
    Calls Try.prog 20 #[.agg (nodRow k Ap np cp Av nv cv ck cd Ac nc cc Ak nk kk)] w fun e w' => e = .returned (.int .i64 (((ks.filter fun r => decide (r.kind ≠ 0)).length + if 0 < nv then 1 else 0 : Nat) : Int)) ∧ Below w.heap.size w w' := by
  have hn63 : (nk : Int) ≤ 9223372036854775807 := by unfold maxLen at hm; omega
  obtain ⟨T, hT⟩ : ∃ T, T = (ks.filter fun r => decide (r.kind ≠ 0)).length + if 0 < nv then 1 else 0 := ⟨_, rfl⟩
  rw [← hT]
  replace hT := Lib.hid hT
  have hb := Blk.new w 29 (nodRow k Ap np cp Av nv cv ck cd Ac nc cc Ak nk kk)
  have hbe := (Below.refl w.heap.size w).alloc (Nat.le_refl _) (.cells (nodRow k Ap np cp Av nv cv ck cd Ac nc cc Ak nk kk) 29)
  have g37 : (w.alloc (.cells (nodRow k Ap np cp Av nv cv ck cd Ac nc cc Ak nk kk) 29)).cell? ⟨w.heap.size, 37, none⟩ = some (.slice Ak nk kk) := (hb.cell 37).trans (nodRow_last hcd)
  have hg2 : ∀ W, Blk W w.heap.size 29 (nodRow k Ap np cp Av nv cv ck cd Ac nc cc Ak nk kk) → W.cell? ⟨w.heap.size, 2, none⟩ = some (.slice Av nv cv) := fun W h => h.cell 2
  have hs0 : (w.alloc (.cells (nodRow k Ap np cp Av nv cv ck cd Ac nc cc Ak nk kk) 29)).heap.size = w.heap.size + 1 := by simp
  generalize nodRow k Ap np cp Av nv cv ck cd Ac nc cc Ak nk kk = R at *
  have hfle : ∀ j, ((ks.take j).filter fun r => decide (r.kind ≠ 0)).length ≤ j := fun j => Nat.le_trans (List.length_filter_le _ _) (by rw [List.length_take]; omega)
  have hfst : ∀ j (h : j < ks.length), ((ks.take (j + 1)).filter fun r => decide (r.kind ≠ 0)).length = ((ks.take j).filter fun r => decide (r.kind ≠ 0)).length + if ks[j].kind = 0 then 0 else 1 := by
    intro j h
    rw [List.take_succ_eq_append_getElem h, List.filter_append, List.length_append]
    by_cases hk : ks[j].kind = 0 <;> simp [hk]
  subst hnk
  replace hb := Lib.hid hb
  replace hbe := Lib.hid hbe
  replace hg2 := Lib.hid hg2
  replace hin := Lib.hid hin
  replace hall := Lib.hid hall
  replace hs0 := Lib.hid hs0
  replace hfle := Lib.hid hfle
  replace hfst := Lib.hid hfst
  clear hkk hm
  go_enter Try.func20, Try.ntmps20
  go_wp2_with fail
  clear g37
  go_loopw [3, 9] (fun m i wr => ∃ j : Nat, j ≤ ks.length ∧ i = .int .i64 j ∧ m = .int .i64 (((ks.take j).filter fun r => decide (r.kind ≠ 0)).length : Nat) ∧ Blk wr w.heap.size 29 R ∧ Below w.heap.size w wr) (fun _ i _ => ks.length - (intOf i).toNat)
  case atStart => exact ⟨0, Nat.zero_le _, rfl, rfl, hb.out, hbe.out⟩
  case round =>
    clear hb hbe
    obtain ⟨j, hj, rfl, rfl, hbr, hbw⟩ := hrel
    have hbl := hbr.lt
    by_cases hlt : j < ks.length
    · have hmv : ∀ q, S q → q < w.heap.size → S q ∧ wr.heap[q]? = w.heap[q]? := fun q h1 h2 => ⟨h1, hbw.block q h2⟩
      obtain ⟨g, o, A', n', c', rfl, hSg, hg, hrg, hdl, _⟩ := refs_at (hin.out.move hmv hbw.size) (hall.out.imp fun v x hx => hx.move hmv hbw.size) rfl j hlt
      have hst := hfst.out j hlt
      have hle := hfle.out j
      generalize ks[j] = r at *
      generalize ((ks.take j).filter fun r => decide (r.kind ≠ 0)).length = F at *
      obtain ⟨rk, rd, ri⟩ := r
      simp only at hrg hdl hst
      have hrs := ref_stored (wr := wr) (refRow rk rd A' n' c')
      have hlt' : (j : Int) < (ks.length : Int) := by omega
      have hFw : IntKind.i64.wrap ((F : Int) + 1) = (F : Int) + 1 := by rw [IntKind.wrap_i64]; omega
      replace hrs := Lib.hid hrs
      replace hbr := Lib.hid hbr
      replace hbw := Lib.hid hbw
      replace hst := Lib.hid hst
      clear hmv
      by_cases hk0 : rk = 0
      · subst hk0
        go_wp2_with (first
          | (refine wpList_load_mid rfl 26 _ rfl g (o + j * 34) rfl (refCells 0 rd A' n' c') _ hrg Try.underlying26 rfl (by rw [refCells_length hdl]; exact info_ref) ?_)
          | (refine wpList_store_row rfl 26 _ _ rfl wr.heap.size (refRow 0 rd A' n' c') rfl rfl _ _ (Blk.new wr 26 refZ) (by rw [refRow_size hdl]; exact info_ref) (by rw [refRow_size hdl]; rfl) (refRow_one _ _ _ _ _) ?_; refine list_at (RefS wr _) hrs.out ?_; intro w3 hI3; have k0 : w3.cell? ⟨wr.heap.size, 0, none⟩ = some (.int .i64 0) := (hI3.it.cell 0).trans refRow_zero; replace hI3 := Lib.hid hI3)
          | fail)
        refine ⟨⟨j + 1, by omega, by go_num, by rw [hst.out]; simp , hbr.out.below hI3.out.bel hbl, hbw.out.trans (hI3.out.bel.mono hbw.out.size)⟩, ?_⟩
        simp [intOf]; omega
      · replace hk0 := Lib.hid hk0
        have hk0' := hk0.out
        go_wp2_with (first
          | (refine wpList_load_mid rfl 26 _ rfl g (o + j * 34) rfl (refCells rk rd A' n' c') _ hrg Try.underlying26 rfl (by rw [refCells_length hdl]; exact info_ref) ?_)
          | (refine wpList_store_row rfl 26 _ _ rfl wr.heap.size (refRow rk rd A' n' c') rfl rfl _ _ (Blk.new wr 26 refZ) (by rw [refRow_size hdl]; exact info_ref) (by rw [refRow_size hdl]; rfl) (refRow_one _ _ _ _ _) ?_; refine list_at (RefS wr _) hrs.out ?_; intro w3 hI3; have k0 : w3.cell? ⟨wr.heap.size, 0, none⟩ = some (.int .i64 rk) := (hI3.it.cell 0).trans refRow_zero; replace hI3 := Lib.hid hI3)
          | fail)
        refine ⟨⟨j + 1, by omega, by go_num, by rw [hst.out]; simp [hk0.out], hbr.out.below hI3.out.bel hbl, hbw.out.trans (hI3.out.bel.mono hbw.out.size)⟩, ?_⟩
        simp [intOf]; omega
    · obtain rfl : j = ks.length := by omega
      rw [List.take_length]
      have k2 := hg2.out wr hbr
      have hle := hfle.out ks.length
      rw [List.take_length] at hle
      have hTF := hT.out
      generalize (ks.filter fun r => decide (r.kind ≠ 0)).length = F at *
      replace hTF := Lib.hid hTF
      have hlt' : ¬ (ks.length : Int) < (ks.length : Int) := by omega
      replace hbw := Lib.hid hbw
      replace hbr := Lib.hid hbr
      by_cases hv : 0 < nv
      · have hv' : (0 : Int) < (nv : Int) := by omega
        have hFw : IntKind.i64.wrap ((F : Int) + 1) = (F : Int) + 1 := by rw [IntKind.wrap_i64]; omega
        replace hv := Lib.hid hv
        go_wp2_with fail
        go_ret
        exact ⟨by rw [hTF.out, if_pos hv.out]; simp, hbw.out⟩
      · have hv' : ¬ (0 : Int) < (nv : Int) := by omega
        replace hv := Lib.hid hv
        go_wp2_with fail
        go_ret
        exact ⟨by rw [hTF.out, if_neg hv.out]; simp, hbw.out⟩
end Go.Proofs.Yteknhmhmepnfjaa

/-
  Package node: Right.
-/
namespace Go.Proofs.Yteknhmhmepnfjaa
open Go.RowKit

theorem nodRow_child {k ck : Int} {Ap Av Ac Ak : Option Addr} {np cp nv cv nc cc nk kk : Nat} {cd : List UInt8} {W : World} {g : Nat} (h : Blk W g 29 (nodRow k Ap np cp Av nv cv ck cd Ac nc cc Ak nk kk)) : W.rangeAt g 3 (refCells ck cd Ac nc cc) := by
  intro j u hu
  have hj := (List.getElem?_eq_some_iff.1 hu).1
  rw [h.cell (3 + j)]
  simp only [nodRow, nodCells, List.getElem?_toArray]
  rw [show 3 + j = j + 1 + 1 + 1 by omega]
  simp only [List.getElem?_cons_succ]
  rw [List.getElem?_append_left hj]
  exact hu
/-- what the walk reads of a node that is boxed -/
structure NodF (w : World) (k : Int) (Ap : Option Addr) (np cp : Nat) (Av : Option Addr) (nv cv : Nat) (ck : Int) (cd : List UInt8) (Ac : Option Addr) (nc cc : Nat) (Ak : Option Addr) (nk kk : Nat) (W : World) : Prop where
  blk : Blk W w.heap.size 29 (nodRow k Ap np cp Av nv cv ck cd Ac nc cc Ak nk kk)
  c0 : W.cell? ⟨w.heap.size, 0, none⟩ = some (.int .i64 k)
  c1 : W.cell? ⟨w.heap.size, 1, none⟩ = some (.slice Ap np cp)
  c2 : W.cell? ⟨w.heap.size, 2, none⟩ = some (.slice Av nv cv)
  c37 : W.cell? ⟨w.heap.size, 37, none⟩ = some (.slice Ak nk kk)
  ch : W.rangeAt w.heap.size 3 (refCells ck cd Ac nc cc)
  bel : Below w.heap.size w W
theorem NodF.of {w W : World} {k ck : Int} {Ap Av Ac Ak : Option Addr} {np cp nv cv nc cc nk kk : Nat} {cd : List UInt8} (h : Blk W w.heap.size 29 (nodRow k Ap np cp Av nv cv ck cd Ac nc cc Ak nk kk)) (hcd : cd.length = 32) (hb : Below w.heap.size w W) : NodF w k Ap np cp Av nv cv ck cd Ac nc cc Ak nk kk W :=
  ⟨h, h.cell 0, h.cell 1, h.cell 2, (h.cell 37).trans (nodRow_last hcd), nodRow_child h, hb⟩
theorem NodF.step {w W W' : World} {k ck : Int} {Ap Av Ac Ak : Option Addr} {np cp nv cv nc cc nk kk : Nat} {cd : List UInt8} (h : NodF w k Ap np cp Av nv cv ck cd Ac nc cc Ak nk kk W) (hcd : cd.length = 32) (hb : Below W.heap.size W W') : NodF w k Ap np cp Av nv cv ck cd Ac nc cc Ak nk kk W' :=
  NodF.of (h.blk.below hb h.blk.lt) hcd (h.bel.trans (hb.mono h.bel.size))
set_option maxHeartbeats 4000000 in
set_option maxRecDepth 100000 in
theorem node_Right (S : Nat → Prop) (v : Value) (x : Nd.No) (w : World) (hv : NodIn S w v x) (hS : ∀ q, S q → q < w.heap.size) (hC : ∀ r ∈ Nd.refs x, r.kind = 1 → NodC r.inl) :
    Calls Try.prog 7 #[v] w fun e w' => e = .returned (.bool (Nd.right Nd.dec x)) ∧ Below w.heap.size w w' := by
  obtain ⟨Ap, np, cp, Av, nv, cv, Ac, nc, cc, Ak, nk, kk, vs, rfl, hcd, ⟨hp1, hp2, hp3, hp4⟩, ⟨hv1, hv2, hv3, hv4⟩, ⟨hc1, hc2, hc3, hc4⟩, hnk, hkk, hkm, hin, hall⟩ := hv
  have hX : Nd.right Nd.dec x = if 64 < np ∨ Nib.right x.path = false ∨ 256 < nv then false
      else if x.kind = 1 then decide (0 < nv ∧ Nd.none x.child = true ∧ nk = 0)
      else if x.kind = 2 then decide (0 < np ∧ nv = 0 ∧ nk = 0 ∧ Nd.rightRef Nd.dec x.child = true ∧ Nd.branchOf Nd.dec x.child = true)
      else if x.kind = 3 then decide (np = 0 ∧ Nd.none x.child = true ∧ nk = 16 ∧ x.kids.all (Nd.rightRef Nd.dec) = true ∧ 2 ≤ Nd.occupied x)
      else false := by rw [hp1, hv1, hnk]; rfl
  have hocc : Nd.occupied x = (x.kids.filter fun r => decide (r.kind ≠ 0)).length + if 0 < nv then 1 else 0 := by rw [hv1]; rfl
  have hnone : Nd.none x.child = decide (x.child.kind = 0 ∧ x.child.dig = Nd.z32 ∧ nc = 0) := by rw [hc1]; rfl
  have hCc : x.child.kind = 1 → NodC x.child.inl := hC x.child (by simp [Nd.refs])
  have hCk : ∀ r ∈ x.kids, r.kind = 1 → NodC r.inl := fun r hr => hC r (by simp [Nd.refs, hr])
  have hRf : Nd.rightRef Nd.dec x.child = Nd.rightRef Nd.dec ⟨x.child.kind, x.child.dig, x.child.inl⟩ := rfl
  have hBf : Nd.branchOf Nd.dec x.child = Nd.branchOf Nd.dec ⟨x.child.kind, x.child.dig, x.child.inl⟩ := rfl
  have hpB : Bytes w w.heap.size Ap np cp x.path := ⟨hp1, hp2, hp3, hp4.reads fun g _ h => h⟩
  have hcB : Bytes w w.heap.size Ac nc cc x.child.inl := ⟨hc1, hc2, hc3, hc4.reads fun g _ h => h⟩
  generalize Nd.right Nd.dec x = X at *
  generalize Nd.occupied x = OC at *
  generalize Nd.none x.child = NC at *
  obtain ⟨k, path, value, child, kids⟩ := x
  obtain ⟨ck, cd, ci⟩ := child
  simp only at *
  have hF : NodF w k Ap np cp Av nv cv ck cd Ac nc cc Ak nk kk (w.alloc (.cells (nodRow k Ap np cp Av nv cv ck cd Ac nc cc Ak nk kk) 29)) := NodF.of (Blk.new w _ _) hcd ((Below.refl _ _).alloc (Nat.le_refl _) _)
  have hNR := nib_Right path Ap np cp w.heap.size (w.alloc (.cells (nodRow k Ap np cp Av nv cv ck cd Ac nc cc Ak nk kk) 29)) (hpB.alloc (Nat.le_refl _) _)
  generalize Nib.right path = NP at *
  rw [show (nodCells k Ap np cp Av nv cv ck cd Ac nc cc Ak nk kk).toArray = nodRow k Ap np cp Av nv cv ck cd Ac nc cc Ak nk kk from rfl]
  have hRone : (nodRow k Ap np cp Av nv cv ck cd Ac nc cc Ak nk kk).size = 38 := nodRow_size hcd
  generalize hRR : nodRow k Ap np cp Av nv cv ck cd Ac nc cc Ak nk kk = R at *
  have c0 := hF.c0
  have c1 := hF.c1
  have c2 := hF.c2
  have c37 := hF.c37
  have hch := hF.ch
  clear hp1 hp2 hp3 hp4 hv1 hv2 hv3 hv4 hc1 hc2 hc3 hc4 hC
  replace hF := Lib.hid hF
  replace hX := Lib.hid hX
  replace hocc := Lib.hid hocc
  replace hnone := Lib.hid hnone
  replace hCc := Lib.hid hCc
  replace hCk := Lib.hid hCk
  replace hpB := Lib.hid hpB
  replace hcB := Lib.hid hcB
  replace hin := Lib.hid hin
  replace hall := Lib.hid hall
  replace hnk := Lib.hid hnk
  replace hS := Lib.hid hS
  replace hRR := Lib.hid hRR
  replace hRone := Lib.hid hRone
  replace hcd := Lib.hid hcd
  replace hRf := Lib.hid hRf
  replace hBf := Lib.hid hBf
  go_enter Try.func7, Try.ntmps7
  by_cases h64 : 64 < np
  · have hx := Lib.hid (show X = false by rw [hX.out, if_pos (.inl h64)])
    have h64' : (64 : Int) < np := by omega
    go_wp2_with fail
    go_ret
    exact ⟨ret_bool hx.out.symm, hF.out.bel⟩
  have h64' : ¬ (64 : Int) < np := by omega
  go_wp2_with fail
  refine hNR.mono ?_
  rintro e w1 ⟨rfl, rfl⟩
  cases NP with
  | false =>
    have hx := Lib.hid (show X = false by rw [hX.out, if_pos (.inr (.inl rfl))])
    go_wp2_with fail
    go_ret
    exact ⟨ret_bool hx.out.symm, hF.out.bel⟩
  | true =>
    by_cases h256 : 256 < nv
    · have hx := Lib.hid (show X = false by rw [hX.out, if_pos (.inr (.inr h256))])
      have h256' : (256 : Int) < nv := by omega
      go_wp2_with fail
      go_ret
      exact ⟨ret_bool hx.out.symm, hF.out.bel⟩
    have h256' : ¬ (256 : Int) < nv := by omega
    have hx1 := hX.out
    rw [if_neg (by simp [h64, h256])] at hx1
    clear hX hNR
    by_cases hk1 : k = 1
    · rw [if_pos hk1] at hx1
      subst hk1
      by_cases hv0 : 0 < nv
      · have hv0' : (0 : Int) < nv := by omega
        replace hx1 := Lib.hid hx1
        replace hv0 := Lib.hid hv0
        go_wp2_with (refine wpList_mid_g (by rfl) 26 _ rfl w.heap.size 3 rfl (refCells ck cd Ac nc cc) _ hch Try.underlying26 rfl (by rw [refCells_length hcd.out]; exact info_ref) ?_)
        refine (node_none ck cd Ac nc cc _ hcd.out).mono ?_
        rintro e w2 ⟨rfl, hb2⟩
        rw [← hnone.out]
        have hF2 := hF.out.step hcd.out hb2
        clear c0 c1 c2 c37 hch hb2
        have c0 := hF2.c0
        have c1 := hF2.c1
        have c2 := hF2.c2
        have c37 := hF2.c37
        have hch := hF2.ch
        replace hF2 := Lib.hid hF2
        cases NC with
        | false =>
          have hx := Lib.hid (show X = false by rw [hx1.out]; simp)
          clear hx1
          go_wp2_with fail
          go_ret
          exact ⟨ret_bool hx.out.symm, hF2.out.bel⟩
        | true =>
          go_wp2_with fail
          go_ret
          exact ⟨ret_bool (by rw [hx1.out, Bool.eq_iff_iff]; simp [hv0.out]), hF2.out.bel⟩
      · have hx := Lib.hid (show X = false by rw [hx1]; simp [hv0])
        have hv0' : ¬ (0 : Int) < nv := by omega
        clear hx1
        go_wp2_with fail
        go_ret
        exact ⟨ret_bool hx.out.symm, hF.out.bel⟩
    by_cases hk2 : k = 2
    · skip
      rw [if_neg hk1, if_pos hk2] at hx1
      subst hk2
      by_cases hp0 : 0 < np
      · have hp0' : (0 : Int) < np := by omega
        by_cases hv0 : nv = 0
        · subst hv0
          by_cases hk0 : nk = 0
          · subst hk0
            replace hx1 := Lib.hid hx1
            replace hp0 := Lib.hid hp0
            have hB1 := hcB.out.alloc (Nat.le_refl _) (.cells R 29)
            have hcall := node_rightRef ck cd ci Ac nc cc _ hcd.out (hB1.more (by simp)) hCc.out
            have hcall2 := fun w' (hb : Below (w.alloc (.cells R 29)).heap.size (w.alloc (.cells R 29)) w') => node_branchOf ck cd ci Ac nc cc w' hcd.out ((hB1.more (by simp)).step hb) hCc.out
            generalize Nd.rightRef Nd.dec ⟨ck, cd, ci⟩ = RR at *
            generalize Nd.branchOf Nd.dec ⟨ck, cd, ci⟩ = BR at *
            replace hcall2 := Lib.hid hcall2
            clear hB1
            go_wp2_with (refine wpList_mid_g (by rfl) 26 _ rfl w.heap.size 3 rfl (refCells ck cd Ac nc cc) _ hch Try.underlying26 rfl (by rw [refCells_length hcd.out]; exact info_ref) ?_)
            refine hcall.mono ?_
            rintro e w2 ⟨rfl, hb2⟩
            have hF2 := hF.out.step hcd.out hb2
            have hcall3 := hcall2.out w2 hb2
            clear c0 c1 c2 c37 hch hb2 hcall hcall2
            have c0 := hF2.c0
            have c1 := hF2.c1
            have c2 := hF2.c2
            have c37 := hF2.c37
            have hch := hF2.ch
            replace hF2 := Lib.hid hF2
            cases RR with
            | false =>
              have hx := Lib.hid (show X = false by rw [hx1.out]; simp)
              clear hx1 hcall3
              go_wp2_with fail
              go_ret
              exact ⟨ret_bool hx.out.symm, hF2.out.bel⟩
            | true =>
              go_wp2_with (refine wpList_mid_g (by rfl) 26 _ rfl w.heap.size 3 rfl (refCells ck cd Ac nc cc) _ hch Try.underlying26 rfl (by rw [refCells_length hcd.out]; exact info_ref) ?_)
              refine hcall3.mono ?_
              rintro e w3 ⟨rfl, hb3⟩
              have hb3w := Lib.hid (hF2.out.bel.trans (hb3.mono hF2.out.bel.size))
              clear hcall3 hb3
              go_wp2_with fail
              go_ret
              exact ⟨ret_bool (by rw [hx1.out, Bool.eq_iff_iff]; simp [hp0.out]), hb3w.out⟩
          · have hx := Lib.hid (show X = false by rw [hx1]; simp [hk0])
            have hk0' : ¬ (nk : Int) = 0 := by omega
            clear hx1
            go_wp2_with fail
            go_ret
            exact ⟨ret_bool hx.out.symm, hF.out.bel⟩
        · have hx := Lib.hid (show X = false by rw [hx1]; simp [hv0])
          have hv0' : ¬ (nv : Int) = 0 := by omega
          clear hx1
          go_wp2_with fail
          go_ret
          exact ⟨ret_bool hx.out.symm, hF.out.bel⟩
      · have hx := Lib.hid (show X = false by rw [hx1]; simp [hp0])
        have hp0' : ¬ (0 : Int) < np := by omega
        clear hx1
        go_wp2_with fail
        go_ret
        exact ⟨ret_bool hx.out.symm, hF.out.bel⟩
    by_cases hk3 : k = 3
    · skip
      rw [if_neg hk1, if_neg hk2, if_pos hk3] at hx1
      subst hk3
      by_cases hp0 : 0 < np
      · have hx := Lib.hid (show X = false by rw [hx1]; simp; omega)
        have hp0' : (0 : Int) < np := by omega
        clear hx1
        go_wp2_with fail
        go_ret
        exact ⟨ret_bool hx.out.symm, hF.out.bel⟩
      have hp0' : ¬ (0 : Int) < np := by omega
      replace hx1 := Lib.hid hx1
      go_wp2_with (refine wpList_mid_g (by rfl) 26 _ rfl w.heap.size 3 rfl (refCells ck cd Ac nc cc) _ hch Try.underlying26 rfl (by rw [refCells_length hcd.out]; exact info_ref) ?_)
      refine (node_none ck cd Ac nc cc _ hcd.out).mono ?_
      rintro e w2 ⟨rfl, hb2⟩
      rw [← hnone.out]
      have hF2 := hF.out.step hcd.out hb2
      clear c0 c1 c2 c37 hch hb2
      have c0 := hF2.c0
      have c1 := hF2.c1
      have c2 := hF2.c2
      have c37 := hF2.c37
      have hch := hF2.ch
      replace hF2 := Lib.hid hF2
      cases NC with
      | false =>
        have hx := Lib.hid (show X = false by rw [hx1.out]; simp)
        clear hx1
        go_wp2_with fail
        go_ret
        exact ⟨ret_bool hx.out.symm, hF2.out.bel⟩
      | true =>
        by_cases h16 : nk = 16
        · subst h16
          go_wp2_with fail
          clear c0 c1 c2 c37 hch
          go_loopw [89] (fun i wr => ∃ j : Nat, j ≤ 16 ∧ i = .int .i64 j ∧ (kids.take j).all (Nd.rightRef Nd.dec) = true ∧ NodF w 3 Ap np cp Av nv cv ck cd Ac nc cc Ak 16 kk wr) (fun i _ => 16 - (intOf i).toNat)
          case atStart => exact ⟨0, Nat.zero_le _, rfl, rfl, hF2.out⟩
          case round =>
            clear hF2
            obtain ⟨j, hj, rfl, hpre, hFr⟩ := hrel
            have hbl := hFr.blk.lt
            have hkl := hnk.out
            by_cases hlt : j < 16
            · have hjk : j < kids.length := by omega
              have hmv : ∀ q, S q → q < w.heap.size → S q ∧ wr.heap[q]? = w.heap[q]? := fun q h1 h2 => ⟨h1, hFr.bel.block q h2⟩
              obtain ⟨g, o, A', n', c', rfl, hSg, hg, hrg, hdl, hby⟩ := refs_at (hin.out.move hmv hFr.bel.size) (hall.out.imp fun v x hx => hx.move hmv hFr.bel.size) hkl j hjk
              have hmem := List.getElem_mem hjk
              have hCj := hCk.out kids[j] hmem
              have htk : kids.take (j + 1) = kids.take j ++ [kids[j]] := List.take_succ_eq_append_getElem hjk
              have hbad : Nd.rightRef Nd.dec kids[j] = false → X = false := fun h => by
                rw [hx1.out]
                have : kids.all (Nd.rightRef Nd.dec) = false := List.all_eq_false.2 ⟨_, hmem, by rw [h]; simp⟩
                simp [this]
              have hgood : Nd.rightRef Nd.dec kids[j] = true → (kids.take (j + 1)).all (Nd.rightRef Nd.dec) = true := fun h => by rw [htk, List.all_append, hpre]; simp [h]
              have hcl : ∀ w', Below wr.heap.size wr w' → Calls Try.prog 18 #[.agg (refRow kids[j].kind kids[j].dig A' n' c')] w' fun e w'' => e = .returned (.bool (Nd.rightRef Nd.dec kids[j])) ∧ Below w'.heap.size w' w'' := fun w' hb => node_rightRef kids[j].kind kids[j].dig kids[j].inl A' n' c' w' hdl (hby.step hb) hCj
              generalize Nd.rightRef Nd.dec kids[j] = RJ at *
              generalize kids[j].kind = rk at *
              generalize kids[j].dig = rd at *
              have hrs := ref_stored (wr := wr) (refRow rk rd A' n' c')
              have hlt' : (j : Int) < 16 := by omega
              clear hmv hmem hCj htk hby hpre hkl
              replace hdl := Lib.hid hdl
              replace hrs := Lib.hid hrs
              replace hcl := Lib.hid hcl
              replace hbad := Lib.hid hbad
              replace hgood := Lib.hid hgood
              replace hFr := Lib.hid hFr
              go_wp2_with (first
                | (refine wpList_load_mid rfl 26 _ rfl g (o + j * 34) rfl (refCells rk rd A' n' c') _ hrg Try.underlying26 rfl (by rw [refCells_length hdl.out]; exact info_ref) ?_)
                | (refine wpList_store_row rfl 26 _ _ rfl wr.heap.size (refRow rk rd A' n' c') rfl rfl _ _ (Blk.new wr 26 refZ) (by rw [refRow_size hdl.out]; exact info_ref) (by rw [refRow_size hdl.out]; rfl) (refRow_one _ _ _ _ _) ?_; refine list_at (RefS wr _) hrs.out ?_; intro w3 hI3; replace hI3 := Lib.hid hI3)
                | (refine wpList_load_row rfl 26 _ rfl wr.heap.size rfl _ _ _ _ hI3.out.it Try.underlying26 rfl (by rw [refRow_size hdl.out]; exact info_ref) ?_)
                | fail)
              refine (hcl.out w3 hI3.out.bel).mono ?_
              rintro e w4 ⟨rfl, hb4⟩
              have hF4 := Lib.hid ((hFr.out.step hcd.out hI3.out.bel).step hcd.out hb4)
              clear hb4 hI3 hcl hrs hFr hrg
              cases RJ with
              | false =>
                have hx := Lib.hid (hbad.out rfl)
                clear hx1 hbad hgood
                go_wp2_with fail
                go_ret
                exact ⟨ret_bool hx.out.symm, hF4.out.bel⟩
              | true =>
                have hg2 := Lib.hid (hgood.out rfl)
                clear hbad hgood
                go_wp2_with fail
                refine ⟨⟨j + 1, by omega, by go_num, hg2.out, hF4.out⟩, ?_⟩
                simp [intOf]; omega
            · obtain rfl : j = 16 := by omega
              rw [List.take_of_length_le (by omega)] at hpre
              have hocl := node_occupied S 3 ck Ap Av Ac Ak np cp nv cv nc cc 16 kk cd hcd.out vs kids wr hkl hkk hkm (by omega) (hin.out.move (fun q h1 h2 => ⟨h1, hFr.bel.block q h2⟩) hFr.bel.size) (hall.out.imp fun v x hx => hx.move (fun q h1 h2 => ⟨h1, hFr.bel.block q h2⟩) hFr.bel.size)
              rw [← hocc.out, hRR.out] at hocl
              have hblk : Blk wr w.heap.size 29 R := by rw [← hRR.out]; exact hFr.blk
              have hXo : X = decide (2 ≤ OC) := by rw [hx1.out, Bool.eq_iff_iff]; simp [hpre]; omega
              replace hXo := Lib.hid hXo
              replace hFr := Lib.hid hFr
              clear hx1 hpre hkl
              go_wp2_with (refine wpList_load_row rfl 29 _ rfl w.heap.size rfl _ _ _ _ hblk Try.underlying29 rfl (by rw [hRone.out]; exact info_node) ?_)
              refine hocl.mono ?_
              rintro e w5 ⟨rfl, hb5⟩
              have hb5w := Lib.hid (hFr.out.bel.trans (hb5.mono hFr.out.bel.size))
              clear hocl hb5 hblk
              go_wp2_with fail
              go_ret
              exact ⟨ret_bool (by rw [hXo.out, Bool.eq_iff_iff]; simp; try omega), hb5w.out⟩
        · have hx := Lib.hid (show X = false by rw [hx1.out]; simp [h16])
          have h16' : ¬ (nk : Int) = 16 := by omega
          clear hx1
          go_wp2_with fail
          go_ret
          exact ⟨ret_bool hx.out.symm, hF2.out.bel⟩
    · have hx := Lib.hid (show X = false by rw [hx1, if_neg hk1, if_neg hk2, if_neg hk3])
      clear hx1
      go_wp2_with fail
      go_ret
      exact ⟨ret_bool hx.out.symm, hF.out.bel⟩

end Go.Proofs.Yteknhmhmepnfjaa

/-
  Package nest, what writes: Text, plain, number.
-/
namespace Go.Proofs.Yteknhmhmepnfjaa
open Go.RowKit

/-- what Text answers -/
def TextQ (l : List UInt8) (w : World) (e : Ending) (w' : World) : Prop := ∃ A m c, e = .returned (txV A m c) ∧ NewB w w' A m c l
set_option maxHeartbeats 1000000 in
theorem nest_Text (A : Option Addr) (n c : Nat) (l : List UInt8) (w : World) (h : Bytes w w.heap.size A n c l) (hl : l.length ≤ 140737488355328) :
    Calls Try.prog 26 #[.slice A n c] w (TextQ l w) := by
  have hb0 : Blk (w.alloc (.cells rowZ 48)) w.heap.size 48 rowZ := Blk.new w _ _
  have hf := clone_bytes A n c _ l _ ((h.alloc (Nat.le_refl _) (.cells rowZ 48)).more (show w.heap.size ≤ (w.alloc (.cells rowZ 48)).heap.size by simp)) (Nat.le_refl _) hl
  have hbe : Below w.heap.size w (w.alloc (.cells rowZ 48)) := (Below.refl _ _).alloc (Nat.le_refl _) _
  have hs0 : (w.alloc (.cells rowZ 48)).heap.size = w.heap.size + 1 := by simp
  clear h
  go_enter Try.func26, Try.ntmps26
  go_wp2_with fail
  refine hf.mono ?_
  rintro e w1 ⟨A1, m1, c1, rfl, hm, hown, hbel⟩
  have hb1 := hb0.below hbel (by omega)
  have hs1 := hbel.size
  clear hf hb0
  replace hm := Lib.hid hm
  go_wp2_with (refine wpList_store_row rfl 48 _ _ rfl w.heap.size #[.bool false, .slice A1 m1 c1, .slice none 0 0] rfl rfl _ _ hb1 info_item3 rfl (by simp [Value.oneCell']) ?_)
  refine bodyPost_ret (v := txV A1 m1 c1) (results_cell_row rfl _ _ w.heap.size _ #[.bool false, .slice A1 m1 c1, .slice none 0 0] _ _ rfl (hb1.row _) Try.underlying48 rfl info_item3) rfl ?_
  refine ⟨_, _, _, rfl, hm.out, ?_, below_row (hbe.trans (hbel.mono (by omega))) (Nat.le_refl _) _⟩
  obtain ⟨h1, h2⟩ := hown
  refine ⟨h1, ?_⟩
  rcases h2 with h2 | ⟨g, cap, cur, hv, hg, hh, r⟩
  · exact .inl h2
  · exact .inr ⟨g, cap, cur, hv, by omega, (setRow_other w1 _ g _ (by omega)).trans hh, r⟩

set_option maxHeartbeats 1000000 in
theorem plain_text (A : Option Addr) (n c B : Nat) (l : List UInt8) (w : World) (h : Bytes w B A n c l) :
    Calls Try.prog 55 #[txV A n c] w fun e w' => e = .returned (.bool (decide (l.length = 1 ∧ Ns.encT.rd1 l < 128))) ∧ Below w.heap.size w w' := by
  have hlen := h.len
  subst hlen
  unfold txV
  by_cases h1 : l.length = 1
  · obtain ⟨c0, rfl⟩ : ∃ c0, l = [c0] := by
      cases l with
      | nil => simp at h1
      | cons c0 t => exact ⟨c0, by rw [List.eq_nil_of_length_eq_zero (by simpa using h1 : t.length = 0)]⟩
    obtain ⟨g, o, u, rfl, hg, hx, hc⟩ := h.reads.at_ (k := 0) (by simp)
    have hx' : u = .int .u8 (c0.toNat : Int) := by simpa [bv] using hx.symm
    subst hx'
    rw [Nat.add_zero] at hc
    have hlt : g < w.heap.size := by
      rcases Nat.lt_or_ge g w.heap.size with hh | hh
      · exact hh
      · simp [World.cell?, Array.getElem?_eq_none hh] at hc
    clear hx h h1
    by_cases hy : c0.toNat < 128
    · have hy' : (c0.toNat : Int) < 128 := by omega
      go_enter Try.func55, Try.ntmps55
      go_wp2
      go_ret
      exact ⟨ret_bool (by simp [Ns.encT.rd1, hy]), by repeat (first | exact Below.refl _ _ | refine Below.alloc ?_ (by simp) _)⟩
    · have hy' : ¬ (c0.toNat : Int) < 128 := by omega
      go_enter Try.func55, Try.ntmps55
      go_wp2
      go_ret
      exact ⟨ret_bool (by simp [Ns.encT.rd1, hy]), by repeat (first | exact Below.refl _ _ | refine Below.alloc ?_ (by simp) _)⟩
  · have h1' : ¬ (l.length : Int) = 1 := by omega
    clear h
    go_enter Try.func55, Try.ntmps55
    go_wp2
    go_ret
    exact ⟨ret_bool (by simp [h1]), by repeat (first | exact Below.refl _ _ | refine Below.alloc ?_ (by simp) _)⟩
theorem plain_list (A : Option Addr) (n c : Nat) (w : World) : Calls Try.prog 55 #[lsV A n c] w fun e w' => e = .returned (.bool false) ∧ Below w.heap.size w w' := by
  unfold lsV
  go_enter Try.func55, Try.ntmps55
  go_wp2
  go_ret
  exact ⟨rfl, by repeat (first | exact Below.refl _ _ | refine Below.alloc ?_ (by simp) _)⟩
/-- so many bytes has a number -/
def Ns.num : Nat → Nat → Nat
  | 0, _ => 0
  | k + 1, n => if n = 0 then 0 else Ns.num k (n / 256) + 1
theorem Ns.num_be : ∀ (k n : Nat), Ns.num k n = (Wd.be k n).length
  | 0, _ => rfl
  | k + 1, n => by
    unfold Ns.num Wd.be
    split
    · rfl
    · rw [List.length_append, Ns.num_be k]; rfl
set_option maxHeartbeats 1000000 in
theorem nest_number (n : Nat) (w : World) (hn : n < 4611686018427387904) : Calls Try.prog 56 #[.int .i64 n] w fun e w' => e = .returned (.int .i64 ((Wd.be 8 n).length : Nat)) ∧ w = w' := by
  rw [← Ns.num_be]
  go_enter Try.func56, Try.ntmps56
  go_wp2
  go_loop [0, 3] (fun x v => ∃ (y k j : Nat), x = .int .i64 y ∧ v = .int .i64 j ∧ y < 256 ^ k ∧ k + j ≤ 8 ∧ y ≤ n ∧ Ns.num 8 n = Ns.num k y + j) (fun x _ => (intOf x).toNat)
  case atStart => exact ⟨n, 8, 0, rfl, rfl, by omega, by omega, Nat.le_refl _, rfl⟩
  case round =>
    obtain ⟨y, k, j, rfl, rfl, hy, hk, hyn, he⟩ := hrel
    by_cases h0 : y = 0
    · subst h0
      have hz : Ns.num k 0 = 0 := by cases k <;> simp [Ns.num]
      rw [hz, Nat.zero_add] at he
      replace he := Lib.hid he
      clear hy hz
      go_wp2
      go_ret
      exact ⟨by rw [he.out]; rfl, rfl⟩
    · have h0' : (0 : Int) < (y : Int) := by omega
      obtain ⟨k, rfl⟩ : ∃ j, k = j + 1 := by
        cases k with
        | zero => simp at hy; omega
        | succ k => exact ⟨k, rfl⟩
      have hy2 : y / 256 < 256 ^ k := by rw [Nat.div_lt_iff_lt_mul (by omega)]; rwa [Nat.pow_succ] at hy
      have he2 : Ns.num 8 n = Ns.num k (y / 256) + (j + 1) := by rw [he, show Ns.num (k + 1) y = Ns.num k (y / 256) + 1 from if_neg h0]; omega
      replace he2 := Lib.hid he2
      clear he hy
      go_wp2
      refine ⟨⟨y / 256, k, j + 1, by simp, by simp, hy2, by omega, by omega, he2.out⟩, ?_⟩
      simp [intOf]; omega
end Go.Proofs.Yteknhmhmepnfjaa

/-
  Package nest, what writes: body, whole.
-/
namespace Go.Proofs.Yteknhmhmepnfjaa
open Go.RowKit

theorem flat_at : ∀ (vs : List Value) (i : Nat) (v : Value), (∀ u ∈ vs, u.cells.toList.length = 3) → vs[i]? = some v → ∀ j u, j < 3 → v.cells.toList[j]? = some u → (flat vs)[3 * i + j]? = some u
  | [], i, v, _, h, _, _, _, _ => by simp at h
  | x :: vs, 0, v, h3, h, j, u, hj, hu => by
    simp at h; subst h
    have hx := h3 x (by simp)
    show (x.cells.toList ++ flat vs)[3 * 0 + j]? = some u
    rw [Nat.mul_zero, Nat.zero_add, List.getElem?_append_left (by omega)]
    exact hu
  | x :: vs, i + 1, v, h3, h, j, u, hj, hu => by
    have hx := h3 x (by simp)
    show (x.cells.toList ++ flat vs)[3 * (i + 1) + j]? = some u
    rw [List.getElem?_append_right (by omega), hx, show 3 * (i + 1) + j - 3 = 3 * i + j by omega]
    exact flat_at vs i v (fun u hu => h3 u (by simp [hu])) (by simpa using h) j u hj hu
/-- the i-th item of a list -/
theorem items_at {S : Nat → Prop} {w : World} {d n : Nat} {A : Option Addr} {vs : List Value} {xs : List (Ns.It d)} (hin : InS S w 3 A n (flat vs)) (hall : All2 (Sits S w d) vs xs) (hn : n = xs.length) (i : Nat) (hi : i < xs.length) :
    ∃ g o a b c, A = some ⟨g, o, none⟩ ∧ S g ∧ g < w.heap.size ∧ w.rangeAt g (o + 3 * i) [a, b, c] ∧ (∀ u ∈ [a, b, c], u.oneCell' = true) ∧ Sits S w d (.agg #[a, b, c]) xs[i] := by
  obtain ⟨g, o, e, h1, h2, hc⟩ := hin.2 (by omega)
  obtain ⟨v, hv, hs⟩ := hall.2 i xs[i] (List.getElem?_eq_getElem hi)
  obtain ⟨a, b, c, rfl, hcells, hone⟩ := hs.cells
  refine ⟨g, o, a, b, c, e, h1, h2, fun j u hu => ?_, hone, hs⟩
  have hj : j < 3 := by
    have := (List.getElem?_eq_some_iff.1 hu).1
    simpa using this
  have h3 : ∀ u ∈ vs, u.cells.toList.length = 3 := by
    intro u hu
    obtain ⟨k, hk, rfl⟩ := List.mem_iff_getElem.1 hu
    obtain ⟨v, hv, hs⟩ := hall.2 k (xs[k]'(by rw [← hall.1]; exact hk)) (List.getElem?_eq_getElem _)
    rw [List.getElem?_eq_getElem hk] at hv
    cases hv
    obtain ⟨a, b, c, _, hcells, _⟩ := hs.cells
    rw [hcells]; rfl
  rw [Nat.add_assoc]
  exact hc _ u (flat_at vs i _ h3 hv j u hj (by rw [hcells]; exact hu))
/-- the contract of whole on items of one depth -/
def WholeC (d : Nat) : Prop := ∀ (S : Nat → Prop) (v : Value) (x : Ns.It d) (w : World), Sits S w d v x → (Ns.enc d x).length < 4611686018427387904 →
  Calls Try.prog 54 #[v] w fun e w' => e = .returned (.int .i64 ((Ns.enc d x).length : Nat)) ∧ Below w.heap.size w w'
set_option maxHeartbeats 1000000 in
set_option maxRecDepth 100000 in
theorem body_list (d : Nat) (hw : WholeC d) (S : Nat → Prop) (A : Option Addr) (n c : Nat) (vs : List Value) (xs : List (Ns.It d)) (w : World) (hn : n = xs.length) (hc : n ≤ c) (hm : c ≤ maxLen)
    (hin : InS S w 3 A n (flat vs)) (hall : All2 (Sits S w d) vs xs) (hl : (xs.flatMap (Ns.enc d)).length < 4611686018427387904) :
    Calls Try.prog 42 #[lsV A n c] w fun e w' => e = .returned (.int .i64 ((xs.flatMap (Ns.enc d)).length : Nat)) ∧ Below w.heap.size w w' := by
  have hn63 : (n : Int) ≤ 9223372036854775807 := by unfold maxLen at hm; omega
  subst hn
  clear hc hm
  replace hin := Lib.hid hin
  replace hall := Lib.hid hall
  have hle : ∀ k, ((xs.take k).flatMap (Ns.enc d)).length ≤ (xs.flatMap (Ns.enc d)).length := by
    intro k
    have h1 := congrArg (fun l => (List.flatMap (Ns.enc d) l).length) (List.take_append_drop k xs)
    simp only [List.flatMap_append, List.length_append] at h1
    omega
  have hstep : ∀ k (hk : k < xs.length), ((xs.take (k + 1)).flatMap (Ns.enc d)).length = ((xs.take k).flatMap (Ns.enc d)).length + (Ns.enc d xs[k]).length := by
    intro k hk
    rw [List.take_succ_eq_append_getElem hk, List.flatMap_append, List.length_append]
    simp
  unfold lsV
  go_enter Try.func42, Try.ntmps42
  go_wp2
  go_loopw [3, 12] (fun s i wr => ∃ k : Nat, k ≤ xs.length ∧ i = .int .i64 k ∧ s = .int .i64 (((xs.take k).flatMap (Ns.enc d)).length : Nat) ∧ Below w.heap.size w wr) (fun _ i _ => xs.length - (intOf i).toNat)
  case atStart => exact ⟨0, Nat.zero_le _, rfl, rfl, (Below.refl _ _).alloc (Nat.le_refl _) _⟩
  case round =>
    obtain ⟨k, hk, rfl, rfl, hbe⟩ := hrel
    by_cases hlt : k < xs.length
    · obtain ⟨g, o, a, b, cc, rfl, hS, hg, hrg, hone, hsit⟩ := items_at hin.out hall.out rfl k hlt
      have hrg2 : wr.rangeAt g (o + k * 3) [a, b, cc] := fun j u hu => by
        rw [Nat.mul_comm k 3]
        exact (hbe.cell (p := ⟨g, _, none⟩) hg).trans (hrg j u hu)
      have hs1 := hle (k + 1)
      rw [hstep k hlt] at hs1
      have hst := hstep k hlt
      generalize ((xs.take k).flatMap (Ns.enc d)).length = s at *
      have hbs := hbe.size
      have hsit2 : Sits S ((wr.alloc (.cells rowZ 48)).setRow wr.heap.size #[a, b, cc]) d (.agg #[a, b, cc]) xs[k] :=
        hsit.move _ _ _ (fun q h1 h2 => ⟨h1, (setRow_other _ _ q _ (by omega)).trans ((Below.heap_alloc wr _ q (by omega)).trans (hbe.block q h2))⟩) (by simp; omega)
      have hcall := hw S _ xs[k] _ hsit2 (by omega)
      have hbe2 : Below w.heap.size w ((wr.alloc (.cells rowZ 48)).setRow wr.heap.size #[a, b, cc]) := below_row (hbe.alloc hbs _) hbs _
      have hwr1 : IntKind.i64.wrap ((s : Int) + ((Ns.enc d xs[k]).length : Nat)) = ((s + (Ns.enc d xs[k]).length : Nat) : Int) := by rw [IntKind.wrap_i64]; omega
      have hbs2 := hbe2.size
      clear hsit hsit2 hrg hle hstep
      replace hbe := Lib.hid hbe
      replace hst := Lib.hid hst
      replace hbe2 := Lib.hid hbe2
      go_wp2_with (first
        | (refine wpList_load_mid rfl 48 _ rfl g (o + k * 3) rfl [a, b, cc] _ hrg2 Try.underlying48 rfl info_item3 ?_)
        | (refine wpList_store_row rfl 48 _ _ rfl wr.heap.size #[a, b, cc] rfl rfl _ _ (Blk.new wr 48 rowZ) info_item3 rfl (by simpa using hone) ?_)
        | (refine wpList_load_row rfl 48 _ rfl wr.heap.size rfl _ _ _ _ ((Blk.new wr 48 rowZ).row #[a, b, cc]) Try.underlying48 rfl info_item3 ?_)
        | fail)
      refine hcall.mono ?_
      rintro e w2 ⟨rfl, hbel⟩
      have hbe3 := Lib.hid (hbe2.out.trans (hbel.mono hbs2))
      clear hcall hbel hbe2
      go_wp2_with fail
      refine ⟨⟨k + 1, by omega, by go_num, ?_, hbe3.out⟩, ?_⟩
      · rw [hst.out, Int.natCast_add]
      · simp [intOf]; omega
    · obtain rfl : k = xs.length := by omega
      rw [List.take_length]
      replace hbe := Lib.hid hbe
      clear hle hstep
      go_wp2
      go_ret
      exact ⟨rfl, hbe.out⟩
set_option maxHeartbeats 1000000 in
theorem body_text (A : Option Addr) (n c : Nat) (w : World) (hn : n ≤ maxLen) : Calls Try.prog 42 #[txV A n c] w fun e w' => e = .returned (.int .i64 n) ∧ Below w.heap.size w w' := by
  unfold txV
  go_enter Try.func42, Try.ntmps42
  go_wp2
  refine wp_loop_rounds 1 ?_
  rw [rounds_succ]; go_wp2
  go_ret
  exact ⟨rfl, (Below.refl _ _).alloc (Nat.le_refl _) _⟩
set_option maxHeartbeats 1000000 in
set_option maxRecDepth 100000 in
theorem whole_core (a b c : Value) (w : World) (pl : Bool) (L R : Nat) (hone : ∀ u ∈ [a, b, c], u.oneCell' = true)
    (hplain : ∀ w', Below w.heap.size w w' → Calls Try.prog 55 #[.agg #[a, b, c]] w' fun e w'' => e = .returned (.bool pl) ∧ Below w'.heap.size w' w'')
    (hbody : ∀ w', Below w.heap.size w w' → Calls Try.prog 42 #[.agg #[a, b, c]] w' fun e w'' => e = .returned (.int .i64 L) ∧ Below w'.heap.size w' w'')
    (hL : L < 4611686018427387904) (hR : R = if pl = true then 1 else if L ≤ 55 then L + 1 else L + 1 + (Wd.be 8 L).length) :
    Calls Try.prog 54 #[.agg #[a, b, c]] w fun e w' => e = .returned (.int .i64 R) ∧ Below w.heap.size w w' := by
  have hb0 : Blk (w.alloc (.cells #[a, b, c] 48)) w.heap.size 48 #[a, b, c] := Blk.new w _ _
  have hbe0 : Below w.heap.size w (w.alloc (.cells #[a, b, c] 48)) := (Below.refl _ _).alloc (Nat.le_refl _) _
  have hp := hplain _ hbe0
  go_enter Try.func54, Try.ntmps54
  go_wp2_with (refine wpList_load_row rfl 48 _ rfl w.heap.size rfl _ _ _ _ hb0 Try.underlying48 rfl info_item3 ?_)
  refine hp.mono ?_
  rintro e w1 ⟨rfl, hb1⟩
  have hs0 : (w.alloc (.cells #[a, b, c] 48)).heap.size = w.heap.size + 1 := by simp
  have hk1 := hb0.below hb1 (by omega)
  have hbe1 := hbe0.trans (hb1.mono (by omega))
  have hs1 := hb1.size
  have hbd := hbody w1 hbe1
  clear hp hplain hbody hb0 hb1 hbe0
  replace hbe1 := Lib.hid hbe1
  replace hR := Lib.hid hR
  cases pl with
  | true =>
    have hR1 : R = 1 := by rw [hR.out]; rfl
    subst hR1
    go_wp2_with fail
    go_ret
    exact ⟨rfl, hbe1.out⟩
  | false =>
    go_wp2_with (refine wpList_load_row rfl 48 _ rfl w.heap.size rfl _ _ _ _ hk1 Try.underlying48 rfl info_item3 ?_)
    refine hbd.mono ?_
    rintro e w2 ⟨rfl, hb2⟩
    have hbe2 := Lib.hid (hbe1.out.trans (hb2.mono (by omega)))
    clear hbd hb2 hk1
    by_cases h55 : L ≤ 55
    · have h55' : (L : Int) ≤ 55 := by omega
      have hR1 : R = L + 1 := by rw [hR.out, if_neg (by decide), if_pos h55]
      subst hR1
      have hw : IntKind.i64.wrap ((L : Int) + 1) = ((L + 1 : Nat) : Int) := by rw [IntKind.wrap_i64]; omega
      go_wp2_with fail
      go_ret
      exact ⟨rfl, hbe2.out⟩
    · have h55' : ¬ (L : Int) ≤ 55 := by omega
      have hR1 : R = L + 1 + (Wd.be 8 L).length := by rw [hR.out, if_neg (by decide), if_neg h55]
      have hb8 := Wd.be_length 8 L
      have hnum := nest_number L w2 hL
      generalize (Wd.be 8 L).length = m at hR1 hb8 hnum
      subst hR1
      have hw : IntKind.i64.wrap ((L : Int) + 1) = ((L + 1 : Nat) : Int) := by rw [IntKind.wrap_i64]; omega
      have hw2 : IntKind.i64.wrap (((L + 1 : Nat) : Int) + (m : Int)) = ((L + 1 + m : Nat) : Int) := by rw [IntKind.wrap_i64]; omega
      go_wp2_with fail
      refine hnum.mono ?_
      rintro e w3 ⟨rfl, rfl⟩
      go_wp2_with fail
      go_ret
      exact ⟨rfl, hbe2.out⟩
theorem Ns.head_len (base n : Nat) : (Ns.head base n).length = if n ≤ 55 then 1 else 1 + (Wd.be 8 n).length := by
  unfold Ns.head
  split
  · rfl
  · rw [List.length_cons]; omega
theorem Ns.encT_len (b : List UInt8) : (Ns.encT b).length = if decide (b.length = 1 ∧ Ns.encT.rd1 b < 128) = true then 1 else if b.length ≤ 55 then b.length + 1 else b.length + 1 + (Wd.be 8 b.length).length := by
  by_cases h : b.length = 1 ∧ Ns.encT.rd1 b < 128
  · rw [if_pos (decide_eq_true h)]
    unfold Ns.encT
    rw [if_pos h]
    exact h.1
  · rw [if_neg (by simpa using h)]
    unfold Ns.encT
    rw [if_neg h, List.length_append, Ns.head_len]
    split <;> omega
theorem whole_all : ∀ (d : Nat), WholeC d
  | 0 => fun S v x => nomatch x
  | d + 1 => by
    intro S v x w hsit hl
    match x, hsit, hl with
    | .inl b, hsit, hl =>
      obtain ⟨A, n, c, rfl, hn, hc, hm, hin⟩ := hsit
      subst hn
      have hbl : b.length ≤ (Ns.encT b).length := by
        unfold Ns.encT
        split
        · exact Nat.le_refl _
        · rw [List.length_append]; omega
      have hbl2 : b.length < 4611686018427387904 := Nat.lt_of_le_of_lt hbl hl
      have hB : Bytes w w.heap.size A b.length c b := ⟨rfl, hc, hm, hin.reads fun g _ h => h⟩
      refine whole_core _ _ _ w (decide (b.length = 1 ∧ Ns.encT.rd1 b < 128)) b.length _ (by simp [Value.oneCell']) (fun w' hb => plain_text A _ c _ b w' (hB.below hb)) (fun w' hb => body_text A _ c w' (by omega)) hbl2 (Ns.encT_len b)
    | .inr xs, hsit, hl =>
      obtain ⟨A, n, c, vs, rfl, hn, hc, hm, hin, hall⟩ := hsit
      have hle : (Ns.enc (d + 1) (.inr xs)).length = if false = true then 1 else if (xs.flatMap (Ns.enc d)).length ≤ 55 then (xs.flatMap (Ns.enc d)).length + 1 else (xs.flatMap (Ns.enc d)).length + 1 + (Wd.be 8 (xs.flatMap (Ns.enc d)).length).length := by
        show (Ns.head 192 (xs.flatMap (Ns.enc d)).length ++ xs.flatMap (Ns.enc d)).length = _
        rw [List.length_append, Ns.head_len, if_neg (show ¬ (false = true) by decide)]
        split <;> omega
      have hlt : (xs.flatMap (Ns.enc d)).length < 4611686018427387904 := by
        have : (Ns.enc (d + 1) (.inr xs)).length = (Ns.head 192 (xs.flatMap (Ns.enc d)).length).length + (xs.flatMap (Ns.enc d)).length := by
          show (Ns.head 192 (xs.flatMap (Ns.enc d)).length ++ xs.flatMap (Ns.enc d)).length = _
          rw [List.length_append]
        omega
      exact whole_core _ _ _ w false _ _ (by simp [Value.oneCell']) (fun w' hb => plain_list A n c w')
        (fun w' hb => body_list d (whole_all d) S A n c vs xs w' hn hc hm (hin.move (fun q h1 h2 => ⟨h1, hb.block q h2⟩) hb.size) (hall.imp fun v x hx => hx.move _ _ _ (fun q h1 h2 => ⟨h1, hb.block q h2⟩) hb.size) hlt) hlt hle
/-- body, of every item -/
theorem nest_body (d : Nat) (S : Nat → Prop) (v : Value) (x : Ns.It (d + 1)) (w : World) (hsit : Sits S w (d + 1) v x) (hl : (Ns.body (d + 1) x).length < 4611686018427387904) :
    Calls Try.prog 42 #[v] w fun e w' => e = .returned (.int .i64 ((Ns.body (d + 1) x).length : Nat)) ∧ Below w.heap.size w w' := by
  match x, hsit, hl with
  | .inl b, hsit, hl =>
    obtain ⟨A, n, c, rfl, hn, hc, hm, hin⟩ := hsit
    subst hn
    exact body_text A _ c w (by omega)
  | .inr xs, hsit, hl =>
    obtain ⟨A, n, c, vs, rfl, hn, hc, hm, hin, hall⟩ := hsit
    exact body_list d (whole_all d) S A n c vs xs w hn hc hm hin hall hl
end Go.Proofs.Yteknhmhmepnfjaa

/-
  Package nest, what writes: a slice that is written to, beside a box that stays.
-/
namespace Go.Proofs.Yteknhmhmepnfjaa
open Go.RowKit

/-- in the midst of write: b0 is the block of the slice that came in; block bx (the first new one) holds a row that stays; the slice at hand lies in b0, or behind bx -/
structure WrI (w : World) (b0 : Option Nat) (B bx : Nat) (row : Array Value) (wr : World) (A : Option Addr) (m c : Nat) (l : List UInt8) : Prop where
  own : wr.ownsRow B 5 1 (.slice A m c) m (bv l)
  len : m = l.length
  gr : w.grownBy wr b0
  box : Blk wr bx 48 row
  at_ : (Value.slice A m c).ownBlock = b0 ∨ (∃ q, (Value.slice A m c).ownBlock = some q ∧ bx < q) ∨ (Value.slice A m c).ownBlock = none
section
variable {w wr w' : World} {b0 : Option Nat} {B bx m c : Nat} {row : Array Value} {A : Option Addr} {l : List UInt8}
theorem WrI.alloc (h : WrI w b0 B bx row wr A m c l) (o : Obj) : WrI w b0 B bx row (wr.alloc o) A m c l :=
  ⟨h.own.alloc o, h.len, ⟨h.gr.os, h.gr.tape, h.gr.output, by have := h.gr.size; simp; omega, fun k hk hne => (Below.heap_alloc wr o k (Nat.lt_of_lt_of_le hk h.gr.size)).trans (h.gr.block k hk hne)⟩, h.box.alloc o, h.at_⟩
/-- a callee that leaves all that was there -/
theorem WrI.below (h : WrI w b0 B bx row wr A m c l) (hb : Below wr.heap.size wr w') : WrI w b0 B bx row w' A m c l := by
  have hg : wr.grownBy w' none := ⟨hb.os, hb.tape, hb.output, hb.size, fun k hk _ => hb.block k hk⟩
  refine ⟨h.own.kept hg ?_, h.len, World.grownBy.andThen h.gr hg (fun j hj => by cases hj), h.box.below hb h.box.lt, h.at_⟩
  cases e : (Value.slice A m c).ownBlock with
  | none => exact .inl rfl
  | some q => exact .inr (by simp)
theorem WrI.bel (h : WrI w b0 B bx row wr A m c l) (hB : B ≤ w.heap.size) (hb : ∀ q, b0 = some q → B ≤ q) : Below B w wr :=
  ⟨h.gr.os, h.gr.tape, h.gr.output, h.gr.size, fun k hk => h.gr.block k (Nat.lt_of_lt_of_le hk hB) (fun e => by have := hb k e.symm; omega)⟩
/-- what an append leaves -/
theorem WrI.app {A' : Option Addr} {n c' : Nat} {t : List UInt8} (h : WrI w b0 B bx row wr A m c l) (hbx : w.heap.size = bx) (h0 : ∀ q, b0 = some q → q < w.heap.size) (hown : w'.ownsRow B 5 1 (.slice A' n c') n (bv (l ++ t))) (hn : n = (l ++ t).length)
    (hg : wr.grownBy w' (Value.slice A m c).ownBlock) (hob : (Value.slice A' n c').ownBlock = (Value.slice A m c).ownBlock ∨ (∃ q, (Value.slice A' n c').ownBlock = some q ∧ wr.heap.size ≤ q)) : WrI w b0 B bx row w' A' n c' (l ++ t) := by
  have hlt := h.box.lt
  have hne : (Value.slice A m c).ownBlock ≠ some bx := by
    intro e
    rcases h.at_ with h1 | ⟨q, h1, h2⟩ | h1
    · rw [h1] at e
      have := h0 _ e
      omega
    · rw [h1] at e; injection e with e; omega
    · rw [h1] at e; cases e
  refine ⟨hown, hn, World.grownBy.andThen h.gr hg (fun j hj => ?_), (hg.block bx hlt (fun e => hne e.symm)).trans h.box, ?_⟩
  · rcases h.at_ with h1 | ⟨q, h1, h2⟩ | h1
    · rw [h1] at hj; exact .inr hj
    · rw [h1] at hj; injection hj with hj; exact .inl (by omega)
    · rw [h1] at hj; cases hj
  · rcases hob with h1 | ⟨q, h1, h2⟩
    · rw [h1]; exact h.at_
    · exact .inr (.inl ⟨q, h1, by omega⟩)
theorem wpList_append_wr {ops : Array Oper} {rest : List Oper} {o : Oper} {a : Act} {Q : Exit → Act → World → Prop} (hgd : o.guard = none) (s x : Operand)
    (ho : o.op = .call { callee := .builtin .append, args := #[s, x], argTypes := #[22, 22] })
    (hI : WrI w b0 B bx row wr A m c l) (hbx : w.heap.size = bx) (h0 : ∀ q, b0 = some q → q < w.heap.size) (hB : B ≤ w.heap.size) (hs : a.eval s = .slice A m c)
    (B2 : Nat) (A2 : Option Addr) (k c2 : Nat) (t : List UInt8) (hx : a.eval x = .slice A2 k c2) (hr : Bytes wr B2 A2 k c2 t) (hlim : m + k ≤ 140737488355328)
    (h : ∀ A' c' w', WrI w b0 B bx row w' A' (m + k) c' (l ++ t) → wr.heap.size ≤ w'.heap.size → wpList Try.prog ops Q rest (a.put o.dst (.slice A' (m + k) c')) w') : wpList Try.prog ops Q (o :: rest) a wr := by
  obtain ⟨i0, hi, hz0, hz1, hz2⟩ := info_parts info_u8
  have hgs := hI.gr.size
  refine wpList_append_any wr hgd s x 22 ho B 5 i0 (.int .u8 0) 1 1 Try.underlying22 hi hz0 hz1 hz2 rfl (by omega) (.slice A m c) m (bv l) hs hI.own B2 A2 k c2 (bv t) hx hr.reads (bv_one _) (by unfold maxLen; omega) (by omega) (by omega) ?_
  intro v' w' h1 h2 h3
  rw [← bv_append] at h1
  obtain ⟨A', c', rfl⟩ : ∃ A' c', v' = .slice A' (m + k) c' := by
    rcases h1.2 with ⟨rfl, h0⟩ | ⟨g, cap, cur, rfl, _⟩
    · rw [h0]; exact ⟨_, _, rfl⟩
    · exact ⟨_, _, rfl⟩
  exact h A' c' w' (hI.app hbx h0 h1 (by rw [List.length_append, ← hI.len, ← hr.len]) h2 (h3.imp id fun e => ⟨_, e, Nat.le_refl _⟩)) h2.size
end
/-- what write answers -/
def WrQ (w : World) (B : Nat) (v : Value) (l : List UInt8) (e : Ending) (w' : World) : Prop := ∃ A m c, e = .returned (.slice A m c) ∧ w'.ownsRow B 5 1 (.slice A m c) m (bv l) ∧ m = l.length ∧ w.grownBy w' v.ownBlock ∧
  ((Value.slice A m c).ownBlock = v.ownBlock ∨ (∃ q, (Value.slice A m c).ownBlock = some q ∧ w.heap.size ≤ q) ∨ (Value.slice A m c).ownBlock = none)
theorem WrI.out {w wr : World} {v : Value} {B m c : Nat} {row : Array Value} {A : Option Addr} {l : List UInt8} (h : WrI w v.ownBlock B w.heap.size row wr A m c l) : WrQ w B v l (.returned (.slice A m c)) wr :=
  ⟨A, m, c, rfl, h.own, h.len, h.gr, h.at_.imp id (Or.imp (fun ⟨q, h1, h2⟩ => ⟨q, h1, Nat.le_of_lt h2⟩) id)⟩
theorem WrI.start {w : World} {B m c : Nat} {row : Array Value} {A : Option Addr} {l : List UInt8} (hown : w.ownsRow B 5 1 (.slice A m c) m (bv l)) (hm : m = l.length) :
    WrI w (Value.slice A m c).ownBlock B w.heap.size row (w.alloc (.cells row 48)) A m c l :=
  ⟨hown.alloc _, hm, ⟨rfl, rfl, rfl, by simp, fun k hk _ => Below.heap_alloc w _ k hk⟩, Blk.new w _ _, .inl rfl⟩
set_option maxHeartbeats 1000000 in
set_option maxRecDepth 100000 in
theorem write_plain (A : Option Addr) (m c B : Nat) (l : List UInt8) (A2 : Option Addr) (n c2 : Nat) (b : List UInt8) (w : World) (hown : w.ownsRow B 5 1 (.slice A m c) m (bv l)) (hm : m = l.length) (hB : B ≤ w.heap.size)
    (hb : Bytes w w.heap.size A2 n c2 b) (hpl : b.length = 1 ∧ Ns.encT.rd1 b < 128) (hlim : m + n ≤ 140737488355328) :
    Calls Try.prog 43 #[.slice A m c, txV A2 n c2] w (WrQ w B (.slice A m c) (l ++ b)) := by
  have hI := WrI.start (row := #[.bool false, .slice A2 n c2, .slice none 0 0]) hown hm
  have h0 : ∀ q, (Value.slice A m c).ownBlock = some q → q < w.heap.size := fun q e => (hown.lt q e).2
  have hb1 := hb.alloc (Nat.le_refl _) (.cells #[.bool false, .slice A2 n c2, .slice none 0 0] 48)
  have hp := plain_text A2 n c2 _ b _ hb1
  rw [decide_eq_true hpl] at hp
  replace hI := Lib.hid hI
  replace hb1 := Lib.hid hb1
  replace h0 := Lib.hid h0
  clear hown hb hm
  unfold txV at hp ⊢
  go_enter Try.func43, Try.ntmps43
  go_wp2_with fail
  refine hp.mono ?_
  rintro e w1 ⟨rfl, hbe⟩
  have hI1 := Lib.hid (hI.out.below hbe)
  have g1 : w1.cell? ⟨w.heap.size, 1, none⟩ = some (.slice A2 n c2) := hI1.out.box.cell 1
  have hb2 := Lib.hid (hb1.out.below (hbe.mono (by simp)))
  clear hp hbe hI hb1
  go_wp2_with (at_builtin; refine wpList_append_wr rfl _ _ rfl hI1.out rfl h0.out hB rfl _ _ _ _ b rfl hb2.out hlim ?_; intro A3 c3 w3 hI3 hs3)
  go_ret
  exact hI3.out
set_option maxHeartbeats 1000000 in
set_option maxRecDepth 100000 in
theorem write_text (A : Option Addr) (m c B : Nat) (l : List UInt8) (A2 : Option Addr) (n c2 : Nat) (b : List UInt8) (w : World) (hown : w.ownsRow B 5 1 (.slice A m c) m (bv l)) (hm : m = l.length) (hB : B ≤ w.heap.size)
    (hb : Bytes w B A2 n c2 b) (hpl : ¬ (b.length = 1 ∧ Ns.encT.rd1 b < 128)) (h55 : n ≤ 55) (hlim : m + n + 1 ≤ 140737488355328) :
    Calls Try.prog 43 #[.slice A m c, txV A2 n c2] w (WrQ w B (.slice A m c) (l ++ [UInt8.ofNat (128 + n)] ++ b)) := by
  have hI := WrI.start (row := #[.bool false, .slice A2 n c2, .slice none 0 0]) hown hm
  have hbq : ∀ q, (Value.slice A m c).ownBlock = some q → B ≤ q := fun q e => (hown.lt q e).1
  replace hbq := Lib.hid hbq
  have h0 : ∀ q, (Value.slice A m c).ownBlock = some q → q < w.heap.size := fun q e => (hown.lt q e).2
  have hb1 := hb.alloc hB (.cells #[.bool false, .slice A2 n c2, .slice none 0 0] 48)
  have hp := plain_text A2 n c2 _ b _ hb1
  rw [decide_eq_false hpl] at hp
  have hbd := body_text A2 n c2
  replace hI := Lib.hid hI
  replace hb1 := Lib.hid hb1
  replace h0 := Lib.hid h0
  have h55' : (n : Int) ≤ 55 := by omega
  clear hown hm hpl
  replace hb := Lib.hid hb
  unfold txV at hp hbd ⊢
  go_enter Try.func43, Try.ntmps43
  go_wp2_with fail
  refine hp.mono ?_
  rintro e w1 ⟨rfl, hbe⟩
  have hI1 := Lib.hid (hI.out.below hbe)
  have k1 := Lib.hid hI1.out.box
  have g1 : w1.cell? ⟨w.heap.size, 1, none⟩ = some (.slice A2 n c2) := hI1.out.box.cell 1
  have g0 : w1.cell? ⟨w.heap.size, 0, none⟩ = some (.bool false) := hI1.out.box.cell 0
  have hb2 := Lib.hid (hb1.out.below (hbe.mono (by simp; omega)))
  clear hp hbe hI hb1
  go_wp2_with (refine wpList_load_row rfl 48 _ rfl w.heap.size rfl _ _ _ _ k1.out Try.underlying48 rfl info_item3 ?_)
  refine (hbd w1 (by unfold maxLen; omega)).mono ?_
  rintro e w2 ⟨rfl, hbe2⟩
  have hI2 := Lib.hid (hI1.out.below hbe2)
  have hsz2 := hI1.out.gr.size
  have hb3 := Lib.hid (hb2.out.below (hbe2.mono (Nat.le_trans hB hsz2)))
  clear hbd g0 g1 k1 hI1 hb2 hbe2
  have hlit := hI2.out.alloc (.cells #[.int .u8 (128 + (n : Int))] 5)
  have e8 : IntKind.u8.wrap (128 + (n : Int)) = 128 + (n : Int) := by rw [IntKind.wrap_u8]; omega
  have e64 : IntKind.i64.wrap (128 + (n : Int)) = 128 + (n : Int) := by rw [IntKind.wrap_i64]; omega
  have hsrc := Bytes.lit1 (w := w2) (t := 5) (z := 128 + (n : Int)) (y := UInt8.ofNat (128 + n)) (by simp; omega)
  replace hlit := Lib.hid hlit
  go_wp2_with (first | (at_builtin; refine wpList_append_wr rfl _ _ rfl hlit.out rfl h0.out hB rfl _ _ _ _ [UInt8.ofNat (128 + n)] rfl hsrc (by omega) ?_; intro A3 c3 w3 hI3 hs3; have hb4 := Lib.hid (hb.out.below (hI3.bel hB hbq.out)); have g1 := hI3.box.cell 1; have g2 := hI3.box.cell 2; simp at g1 g2; clear hlit hsrc; replace hI3 := Lib.hid hI3) | (at_builtin; refine wpList_append_wr rfl _ _ rfl hI3.out rfl h0.out hB rfl _ _ _ _ b rfl hb4.out (by omega) ?_; intro A4 c4 w4 hI4 hs4; clear g1 g2; have g2 := hI4.box.cell 2; simp at g2; replace hI4 := Lib.hid hI4))
  refine wp_loop_rounds 1 ?_
  rw [rounds_succ]; go_wp2_with fail
  go_ret
  exact hI4.out.out
end Go.Proofs.Yteknhmhmepnfjaa

/-
  Package nest, what writes: lists with a short body.
-/
namespace Go.Proofs.Yteknhmhmepnfjaa
open Go.RowKit

/-- the contract of write on items of one depth, below B -/
def WriteC (d : Nat) : Prop := ∀ (S : Nat → Prop) (A : Option Addr) (m c B : Nat) (l : List UInt8) (v : Value) (x : Ns.It d) (w : World), w.ownsRow B 5 1 (.slice A m c) m (bv l) → m = l.length → B ≤ w.heap.size →
  (∀ q, S q → q < B) → Sits S w d v x → m + (Ns.enc d x).length ≤ 140737488355328 → (Ns.body d x).length ≤ 55 →
  Calls Try.prog 43 #[.slice A m c, v] w (WrQ w B (.slice A m c) (l ++ Ns.enc d x))
section
variable {w wr w' : World} {b0 : Option Nat} {B bx m c : Nat} {row : Array Value} {A : Option Addr} {l l2 : List UInt8}
/-- a callee that writes on -/
theorem WrI.call {e : Ending} (h : WrI w b0 B bx row wr A m c l) (hbx : w.heap.size = bx) (h0 : ∀ q, b0 = some q → q < w.heap.size) (hq : WrQ wr B (.slice A m c) l2 e w') :
    ∃ A' m' c', e = .returned (.slice A' m' c') ∧ WrI w b0 B bx row w' A' m' c' l2 := by
  obtain ⟨A', m', c', he, hown, hm, hg, hob⟩ := hq
  have hlt := h.box.lt
  have hne : (Value.slice A m c).ownBlock ≠ some bx := by
    intro e
    rcases h.at_ with h1 | ⟨q, h1, h2⟩ | h1
    · rw [h1] at e
      have := h0 _ e
      omega
    · rw [h1] at e; injection e with e; omega
    · rw [h1] at e; cases e
  refine ⟨A', m', c', he, hown, hm, World.grownBy.andThen h.gr hg (fun j hj => ?_), (hg.block bx hlt (fun e => hne e.symm)).trans h.box, ?_⟩
  · rcases h.at_ with h1 | ⟨q, h1, h2⟩ | h1
    · rw [h1] at hj; exact .inr hj
    · rw [h1] at hj; injection hj with hj; exact .inl (by omega)
    · rw [h1] at hj; cases hj
  · rcases hob with h1 | ⟨q, h1, h2⟩ | h1
    · rw [h1]; exact h.at_
    · exact .inr (.inl ⟨q, h1, by omega⟩)
    · exact .inr (.inr h1)
theorem WrI.rowed (h : WrI w b0 B bx row wr A m c l) {q : Nat} (hq : wr.heap.size ≤ q) (cs cs' : Array Value) : WrI w b0 B bx row ((wr.alloc (.cells cs 48)).setRow q cs') A m c l :=
  h.below (below_row ((Below.refl _ _).alloc (Nat.le_refl _) _) hq _)
end
set_option maxHeartbeats 2000000 in
set_option maxRecDepth 100000 in
theorem write_list (d : Nat) (hw : WriteC d) (S : Nat → Prop) (A : Option Addr) (m c B : Nat) (l : List UInt8) (A2 : Option Addr) (n c2 : Nat) (vs : List Value) (xs : List (Ns.It d)) (w : World)
    (hown : w.ownsRow B 5 1 (.slice A m c) m (bv l)) (hm : m = l.length) (hB : B ≤ w.heap.size) (hS : ∀ q, S q → q < B) (hn : n = xs.length) (hc : n ≤ c2) (hcm : c2 ≤ maxLen) (hin : InS S w 3 A2 n (flat vs)) (hall : All2 (Sits S w d) vs xs)
    (L : Nat) (hL : L = (xs.flatMap (Ns.enc d)).length) (h55 : L ≤ 55) (hsmall : ∀ x ∈ xs, (Ns.body d x).length ≤ 55) (hlim : m + L + 1 ≤ 140737488355328) :
    Calls Try.prog 43 #[.slice A m c, lsV A2 n c2] w (WrQ w B (.slice A m c) (l ++ [UInt8.ofNat (192 + L)] ++ xs.flatMap (Ns.enc d))) := by
  have hI := WrI.start (row := #[.bool true, .slice none 0 0, .slice A2 n c2]) hown hm
  have hbq : ∀ q, (Value.slice A m c).ownBlock = some q → B ≤ q := fun q e => (hown.lt q e).1
  have h0 : ∀ q, (Value.slice A m c).ownBlock = some q → q < w.heap.size := fun q e => (hown.lt q e).2
  have hp := plain_list A2 n c2 (w.alloc (.cells #[.bool true, .slice none 0 0, .slice A2 n c2] 48))
  have hbd : ∀ w', Below w.heap.size w w' → Calls Try.prog 42 #[lsV A2 n c2] w' fun e w'' => e = .returned (.int .i64 L) ∧ Below w'.heap.size w' w'' := fun w' hb => by
    rw [hL]
    exact body_list d (whole_all d) S A2 n c2 vs xs w' hn hc hcm (hin.move (fun q h1 h2 => ⟨h1, hb.block q h2⟩) hb.size) (hall.imp fun v x hx => hx.move _ _ _ (fun q h1 h2 => ⟨h1, hb.block q h2⟩) hb.size) (by omega)
  replace hI := Lib.hid hI
  replace h0 := Lib.hid h0
  replace hbq := Lib.hid hbq
  replace hin := Lib.hid hin
  replace hall := Lib.hid hall
  have h55' : (L : Int) ≤ 55 := by omega
  have hn63 : (n : Int) ≤ 9223372036854775807 := by unfold maxLen at hcm; omega
  replace hL := Lib.hid hL
  replace hn := Lib.hid hn
  replace hsmall := Lib.hid hsmall
  replace hw := Lib.hid hw
  replace hm := Lib.hid hm
  clear hown hc hcm
  unfold lsV at hp hbd ⊢
  go_enter Try.func43, Try.ntmps43
  go_wp2_with fail
  refine hp.mono ?_
  rintro e w1 ⟨rfl, hbe⟩
  have hI1 := Lib.hid (hI.out.below hbe)
  have k1 := Lib.hid hI1.out.box
  have g0 : w1.cell? ⟨w.heap.size, 0, none⟩ = some (.bool true) := hI1.out.box.cell 0
  have hbd1 := hbd w1 (((Below.refl _ _).alloc (Nat.le_refl _) _).trans (hbe.mono (by simp)))
  clear hp hbe hI hbd
  go_wp2_with (refine wpList_load_row rfl 48 _ rfl w.heap.size rfl _ _ _ _ k1.out Try.underlying48 rfl info_item3 ?_)
  refine hbd1.mono ?_
  rintro e w2 ⟨rfl, hbe2⟩
  have hI2 := Lib.hid (hI1.out.below hbe2)
  have hsz2 := hI2.out.gr.size
  clear hbd1 g0 k1 hI1 hbe2
  have hlit := hI2.out.alloc (.cells #[.int .u8 (192 + (L : Int))] 5)
  have e8 : IntKind.u8.wrap (192 + (L : Int)) = 192 + (L : Int) := by rw [IntKind.wrap_u8]; omega
  have e64 : IntKind.i64.wrap (192 + (L : Int)) = 192 + (L : Int) := by rw [IntKind.wrap_i64]; omega
  have hsrc := Bytes.lit1 (w := w2) (t := 5) (z := 192 + (L : Int)) (y := UInt8.ofNat (192 + L)) (by simp; omega)
  replace hlit := Lib.hid hlit
  go_wp2_with (first | (at_builtin; refine wpList_append_wr rfl _ _ rfl hlit.out rfl h0.out hB rfl _ _ _ _ [UInt8.ofNat (192 + L)] rfl hsrc (by omega) ?_; intro A3 c3 w3 hI3 hs3; have g1 := hI3.box.cell 1; have g2 := hI3.box.cell 2; simp at g1 g2; clear hlit hsrc; replace hI3 := Lib.hid hI3) | (at_builtin; refine wpList_append_wr rfl _ _ rfl hI3.out rfl h0.out hB rfl 0 _ _ _ [] rfl (Bytes.none_ _ _ _ (Nat.zero_le _)) (by omega) ?_; intro A4 c4 w4 hI4 hs4; clear g1 g2; have g2 := hI4.box.cell 2; simp at g2; replace hI4 := Lib.hid hI4))
  have hstep : ∀ k (hk : k < xs.length), (xs.take (k + 1)).flatMap (Ns.enc d) = (xs.take k).flatMap (Ns.enc d) ++ Ns.enc d xs[k] := by
    intro k hk
    rw [List.take_succ_eq_append_getElem hk, List.flatMap_append]
    simp
  have hle : ∀ k, ((xs.take k).flatMap (Ns.enc d)).length ≤ (xs.flatMap (Ns.enc d)).length := by
    intro k
    have h1 := congrArg (fun l => (List.flatMap (Ns.enc d) l).length) (List.take_append_drop k xs)
    simp only [List.flatMap_append, List.length_append] at h1
    omega
  replace hstep := Lib.hid hstep
  replace hle := Lib.hid hle
  replace hS := Lib.hid hS
  have hlen := hI4.out.len
  clear hI3 hs3 hs4 e8 e64 hI2 hsz2 h55'
  go_loopw [0, 61] (fun v i wr => ∃ (k m' : Nat) (A' : Option Addr) (c' : Nat), k ≤ xs.length ∧ i = .int .i64 k ∧ v = .slice A' m' c' ∧ WrI w (Value.slice A m c).ownBlock B w.heap.size #[.bool true, .slice none 0 0, .slice A2 n c2] wr A' m' c' (l ++ [UInt8.ofNat (192 + L)] ++ (xs.take k).flatMap (Ns.enc d))) (fun _ i _ => xs.length - (intOf i).toNat)
  case atStart =>
    refine ⟨0, _, _, _, Nat.zero_le _, rfl, rfl, ?_⟩
    have := hI4.out
    simpa using this
  case round =>
    clear hI4 g2 hlen
    obtain ⟨k, m', A', c', hk, rfl, rfl, hI⟩ := hrel
    by_cases hlt : k < xs.length
    · have hbel := hI.bel hB hbq.out
      obtain ⟨g, o, a, b, cc, rfl, hSg, hg, hrg, hone, hsit⟩ := items_at (hin.out.move (S' := S) (fun q h1 h2 => ⟨h1, hbel.block q (hS.out q h1)⟩) hbel.size) (hall.out.imp fun v x hx => hx.move (S' := S) _ _ _ (fun q h1 h2 => ⟨h1, hbel.block q (hS.out q h1)⟩) hbel.size) hn.out k hlt
      have hrg2 : wr.rangeAt g (o + k * 3) [a, b, cc] := by rw [Nat.mul_comm k 3]; exact hrg
      have hIr := hI.rowed (Nat.le_refl wr.heap.size) rowZ #[a, b, cc]
      have hsit2 : Sits S ((wr.alloc (.cells rowZ 48)).setRow wr.heap.size #[a, b, cc]) d (.agg #[a, b, cc]) xs[k] :=
        hsit.move _ _ _ (fun q h1 h2 => ⟨h1, (setRow_other _ _ q _ (by omega)).trans (Below.heap_alloc wr _ q h2)⟩) (by simp)
      have hs1 := hle.out (k + 1)
      rw [hstep.out k hlt, List.length_append] at hs1
      have hml := hI.len
      simp only [List.length_append, List.length_cons, List.length_nil] at hml
      have hLo := hL.out
      have hmo := hm.out
      have hcall := hw.out S A' m' c' B _ _ xs[k] _ hIr.own hIr.len (by have := hIr.gr.size; omega) hS.out hsit2 (by omega) (hsmall.out _ (List.getElem_mem hlt))
      have hbx : w.heap.size = w.heap.size := rfl
      clear hbel hrg hsit hsit2 hs1 hLo hml hmo
      replace hI := Lib.hid hI
      replace hIr := Lib.hid hIr
      have hlt' : (k : Int) < n := by have := hn.out; omega
      go_wp2_with (first
        | (refine wpList_load_mid rfl 48 _ rfl g (o + k * 3) rfl [a, b, cc] _ hrg2 Try.underlying48 rfl info_item3 ?_)
        | (refine wpList_store_row rfl 48 _ _ rfl wr.heap.size #[a, b, cc] rfl rfl _ _ (Blk.new wr 48 rowZ) info_item3 rfl (by simpa using hone) ?_)
        | (refine wpList_load_row rfl 48 _ rfl wr.heap.size rfl _ _ _ _ ((Blk.new wr 48 rowZ).row #[a, b, cc]) Try.underlying48 rfl info_item3 ?_)
        | fail)
      refine hcall.mono ?_
      intro e w2 hq
      obtain ⟨A5, m5, c5, rfl, hI5⟩ := hIr.out.call rfl h0.out hq
      replace hI5 := Lib.hid hI5
      clear hcall hq
      go_wp2_with fail
      refine ⟨⟨k + 1, _, _, _, by omega, by go_num, rfl, ?_⟩, ?_⟩
      · rw [hstep.out k hlt, ← List.append_assoc]; exact hI5.out
      · simp [intOf]; omega
    · obtain rfl : k = xs.length := by omega
      rw [List.take_length] at hI
      replace hI := Lib.hid hI
      have hlt' : ¬ (xs.length : Int) < n := by have := hn.out; omega
      go_wp2_with fail
      go_ret
      have := hI.out.out
      simp only [List.append_assoc, List.singleton_append, UInt8.ofNat_add, UInt8.reduceOfNat] at this ⊢
      exact this
end Go.Proofs.Yteknhmhmepnfjaa

/-
  Package nest, what writes: all items whose bodies are short.
-/
namespace Go.Proofs.Yteknhmhmepnfjaa
open Go.RowKit

theorem Ns.body_le : ∀ (d : Nat) (x : Ns.It d), (Ns.body d x).length ≤ (Ns.enc d x).length
  | 0, x => nomatch x
  | d + 1, .inl b => by
    show b.length ≤ (Ns.encT b).length
    unfold Ns.encT
    split
    · exact Nat.le_refl _
    · rw [List.length_append]; omega
  | d + 1, .inr xs => by
    show (xs.flatMap (Ns.enc d)).length ≤ (Ns.head 192 (xs.flatMap (Ns.enc d)).length ++ xs.flatMap (Ns.enc d)).length
    rw [List.length_append]; omega
theorem enc_le_flat {d : Nat} {x : Ns.It d} {xs : List (Ns.It d)} (h : x ∈ xs) : (Ns.enc d x).length ≤ (xs.flatMap (Ns.enc d)).length := by
  induction xs with
  | nil => cases h
  | cons y ys ih =>
    rw [List.flatMap_cons, List.length_append]
    rcases List.mem_cons.1 h with rfl | h
    · omega
    · have := ih h; omega
theorem Ns.head_small (base n : Nat) (h : n ≤ 55) : Ns.head base n = [UInt8.ofNat (base + n)] := by unfold Ns.head; rw [if_pos h]
theorem write_all : ∀ (d : Nat), WriteC d
  | 0 => fun S A m c B l v x => nomatch x
  | d + 1 => by
    intro S A m c B l v x w hown hm hB hS hsit hlim h55
    match x, hsit, hlim, h55 with
    | .inl b, hsit, hlim, h55 =>
      obtain ⟨A2, n, c2, rfl, hn, hc, hcm, hin⟩ := hsit
      subst hn
      have h55' : b.length ≤ 55 := h55
      by_cases hp : b.length = 1 ∧ Ns.encT.rd1 b < 128
      · have he : Ns.enc (d + 1) (.inl b) = b := if_pos hp
        rw [he] at hlim ⊢
        exact write_plain A m c B l A2 _ c2 b w hown hm hB ⟨rfl, hc, hcm, hin.reads fun g _ h => h⟩ hp hlim
      · have he : Ns.enc (d + 1) (.inl b) = [UInt8.ofNat (128 + b.length)] ++ b := (if_neg hp).trans (by rw [Ns.head_small _ _ h55'])
        rw [he] at hlim ⊢
        rw [List.length_append, List.length_singleton] at hlim
        rw [← List.append_assoc]
        exact write_text A m c B l A2 _ c2 b w hown hm hB ⟨rfl, hc, hcm, hin.reads fun g h _ => hS g h⟩ hp h55' (by omega)
    | .inr xs, hsit, hlim, h55 =>
      obtain ⟨A2, n, c2, vs, rfl, hn, hc, hcm, hin, hall⟩ := hsit
      have h55' : (xs.flatMap (Ns.enc d)).length ≤ 55 := h55
      have he : Ns.enc (d + 1) (.inr xs) = [UInt8.ofNat (192 + (xs.flatMap (Ns.enc d)).length)] ++ xs.flatMap (Ns.enc d) := by
        show Ns.head 192 (xs.flatMap (Ns.enc d)).length ++ xs.flatMap (Ns.enc d) = _
        rw [Ns.head_small _ _ h55']
      rw [he] at hlim ⊢
      rw [List.length_append, List.length_singleton] at hlim
      rw [← List.append_assoc]
      exact write_list d (write_all d) S A m c B l A2 n c2 vs xs w hown hm hB hS hn hc hcm hin hall _ rfl h55' (fun x hx => Nat.le_trans (Ns.body_le d x) (Nat.le_trans (enc_le_flat hx) h55')) (by omega)
end Go.Proofs.Yteknhmhmepnfjaa

/-
  Package nest, what writes: bodies above 55 bytes.
-/
namespace Go.Proofs.Yteknhmhmepnfjaa
open Go.RowKit

theorem u8_toNat' (z : Nat) (h : z < 256) : (UInt8.ofNat z).toNat = z := by simp; omega
theorem be_byte (n : Nat) (h : n < 16777216) : ∀ i, i < (Wd.be 8 n).length → (Wd.be 8 n)[(Wd.be 8 n).length - 1 - i]? = some (UInt8.ofNat (n / 256 ^ i % 256)) := by
  intro i hi
  rcases Nat.eq_zero_or_pos n with h0 | h0
  · subst h0; simp [Wd.be] at hi
  rcases Nat.lt_or_ge n 256 with h1 | h1
  · rw [Wd.be_one 7 n h0 h1] at hi ⊢
    simp at hi; subst hi
    simp
    rw [Nat.mod_eq_of_lt h1]
  rcases Nat.lt_or_ge n 65536 with h2 | h2
  · rw [Wd.be_two 6 n h1 h2] at hi ⊢
    match i, hi with
    | 0, _ => simp
    | 1, _ => simp; rw [Nat.mod_eq_of_lt (by omega)]
  · rw [Wd.be_three 5 n h2 h] at hi ⊢
    match i, hi with
    | 0, _ => simp
    | 1, _ => simp
    | 2, _ => simp; rw [Nat.mod_eq_of_lt (by omega)]
set_option maxHeartbeats 1000000 in
set_option maxRecDepth 100000 in
theorem write_text_long (A : Option Addr) (m c B : Nat) (l : List UInt8) (A2 : Option Addr) (n c2 : Nat) (b : List UInt8) (w : World) (hown : w.ownsRow B 5 1 (.slice A m c) m (bv l)) (hm : m = l.length) (hB : B ≤ w.heap.size)
    (hb : Bytes w B A2 n c2 b) (h55 : 55 < n) (h24 : n ≤ 16777215) (hlim : m + n + 4 ≤ 140737488355328) :
    Calls Try.prog 43 #[.slice A m c, txV A2 n c2] w (WrQ w B (.slice A m c) (l ++ [UInt8.ofNat (128 + 55 + (Wd.be 8 n).length)] ++ Wd.be 8 n ++ b)) := by
  have hI := WrI.start (row := #[.bool false, .slice A2 n c2, .slice none 0 0]) hown hm
  have hbq : ∀ q, (Value.slice A m c).ownBlock = some q → B ≤ q := fun q e => (hown.lt q e).1
  replace hbq := Lib.hid hbq
  have h0 : ∀ q, (Value.slice A m c).ownBlock = some q → q < w.heap.size := fun q e => (hown.lt q e).2
  have hb1 := hb.alloc hB (.cells #[.bool false, .slice A2 n c2, .slice none 0 0] 48)
  have hp := plain_text A2 n c2 _ b _ hb1
  have hbn := hb.len
  rw [decide_eq_false (by omega)] at hp
  have hbd := body_text A2 n c2
  replace hI := Lib.hid hI
  replace hb1 := Lib.hid hb1
  replace h0 := Lib.hid h0
  replace hm := Lib.hid hm
  replace hbn := Lib.hid hbn
  clear hown
  replace hb := Lib.hid hb
  unfold txV at hp hbd ⊢
  go_enter Try.func43, Try.ntmps43
  go_wp2_with fail
  refine hp.mono ?_
  rintro e w1 ⟨rfl, hbe⟩
  have hI1 := Lib.hid (hI.out.below hbe)
  have k1 := Lib.hid hI1.out.box
  have g1 : w1.cell? ⟨w.heap.size, 1, none⟩ = some (.slice A2 n c2) := hI1.out.box.cell 1
  have g0 : w1.cell? ⟨w.heap.size, 0, none⟩ = some (.bool false) := hI1.out.box.cell 0
  have hb2 := Lib.hid (hb1.out.below (hbe.mono (by simp; omega)))
  clear hp hbe hI hb1
  go_wp2_with (refine wpList_load_row rfl 48 _ rfl w.heap.size rfl _ _ _ _ k1.out Try.underlying48 rfl info_item3 ?_)
  refine (hbd w1 (by unfold maxLen; omega)).mono ?_
  rintro e w2 ⟨rfl, hbe2⟩
  have hI2 := Lib.hid (hI1.out.below hbe2)
  have hsz2 := hI1.out.gr.size
  have hb3 := Lib.hid (hb2.out.below (hbe2.mono (Nat.le_trans hB hsz2)))
  clear hbd g0 g1 k1 hI1 hb2 hbe2
  go_wp2_with fail
  have h55' : ¬ (n : Int) ≤ 55 := by omega
  refine (nest_number n w2 (by omega)).mono ?_
  rintro e w2b ⟨rfl, rfl⟩
  obtain ⟨K, hK⟩ : ∃ K, K = (Wd.be 8 n).length := ⟨_, rfl⟩
  have hK13 : 1 ≤ K ∧ K ≤ 3 := by rw [hK]; exact Ns.be_short n (by omega) (by unfold Ns.maxBytes; omega)
  have hbyte := be_byte n (by omega)
  have hbeL : (Wd.be 8 n).length = K := hK.symm
  generalize Wd.be 8 n = be at *
  rw [hbeL]
  obtain ⟨hK1, hK3⟩ := hK13
  have hlit := hI2.out.alloc (.cells #[.int .u8 (128 + 55 + (K : Int))] 5)
  have hsrc := Bytes.lit1 (w := w2) (t := 5) (z := 128 + 55 + (K : Int)) (y := UInt8.ofNat (128 + 55 + K)) (by simp; omega)
  replace hlit := Lib.hid hlit
  replace hbyte := Lib.hid hbyte
  replace hbeL := Lib.hid hbeL
  replace hK := Lib.hid hK
  have hk63 : IntKind.u8.wrap (128 + 55 + (K : Int)) = 128 + 55 + (K : Int) := by rw [IntKind.wrap_u8]; omega
  go_wp2_with (at_builtin; refine wpList_append_wr rfl _ _ rfl hlit.out rfl h0.out hB rfl _ _ _ _ [UInt8.ofNat (128 + 55 + K)] rfl hsrc (by omega) ?_; intro A3 c3 w3 hI3 hs3; clear hlit hsrc; replace hI3 := Lib.hid hI3)
  have hmo := hI3.out.len
  have hKw : IntKind.i64.wrap ((K : Int) - 1) = (K : Int) - 1 := by rw [IntKind.wrap_i64]; omega
  clear hmo hk63 hI2 hsz2
  go_loopw [0, 8] (fun v i wr => ∃ (j m' : Nat) (A' : Option Addr) (c' : Nat), j ≤ K ∧ i = .int .i64 ((j : Int) - 1) ∧ v = .slice A' m' c' ∧ WrI w (Value.slice A m c).ownBlock B w.heap.size #[.bool false, .slice A2 n c2, .slice none 0 0] wr A' m' c' (l ++ [UInt8.ofNat (128 + 55 + K)] ++ be.take (K - j))) (fun _ i _ => (intOf i + 1).toNat)
  case atStart =>
    refine ⟨K, _, _, _, Nat.le_refl _, rfl, rfl, ?_⟩
    have := hI3.out
    rw [Nat.sub_self, List.take_zero, List.append_nil]
    exact this
  case round =>
    clear hI3 hs3
    obtain ⟨j, m', A', c', hj, rfl, rfl, hI⟩ := hrel
    by_cases hj0 : 0 < j
    · obtain ⟨t, rfl⟩ : ∃ t, j = t + 1 := ⟨j - 1, by omega⟩
      have hbe0 := hbeL.out
      have hby := hbyte.out t (by omega)
      rw [hbe0, List.getElem?_eq_getElem (by omega)] at hby
      injection hby with hby
      have htk : be.take (K - t) = be.take (K - (t + 1)) ++ [be[K - 1 - t]] := by
        rw [show K - t = (K - (t + 1)) + 1 by omega, List.take_succ_eq_append_getElem (by omega)]
        congr 3; omega
      have ht3 : t < 3 := by omega
      have e1 : ((t + 1 : Nat) : Int) - 1 = (t : Int) := by omega
      rw [e1]
      have hpos : ¬ (t : Int) < 0 := by omega
      have h8w : IntKind.i64.wrap (8 * (t : Int)) = 8 * (t : Int) := by rw [IntKind.wrap_i64]; omega
      replace hby := Lib.hid hby
      replace htk := Lib.hid htk
      replace hI := Lib.hid hI
      replace hbe0 := Lib.hid hbe0
      clear e1
      have hml := hI.out.len
      simp only [List.length_append, List.length_cons, List.length_nil, List.length_take] at hml
      have hlo := hm.out
      have hbo := hbeL.out
      have hml2 : m' + 1 ≤ 140737488355328 := by omega
      have hlit := hI.out.alloc (.cells #[.int .u8 ((n : Int) / 2 ^ (8 * t) % 256)] 5)
      have hz : ((n : Int) / 2 ^ (8 * t) % 256) = ((be[K - 1 - t]'(by have := hbe0.out; omega)).toNat : Int) := by
        rw [hby.out, u8_toNat' _ (Nat.mod_lt _ (by omega)), show (256 : Nat) = 2 ^ 8 from rfl, ← Nat.pow_mul]
        norm_cast
      have hsrc := Bytes.lit1 (w := wr) (t := 5) hz
      clear hml hlo hbo hz
      replace hlit := Lib.hid hlit
      go_wp2_with (at_builtin; refine wpList_append_wr rfl _ _ rfl hlit.out rfl h0.out hB rfl _ _ _ _ [be[K - 1 - t]'(by have := hbe0.out; omega)] rfl hsrc hml2 ?_; intro A5 c5 w5 hI5 hs5; clear hlit hsrc; replace hI5 := Lib.hid hI5)
      refine ⟨⟨t, _, _, _, by omega, rfl, rfl, ?_⟩, ?_⟩
      · rw [htk.out, ← List.append_assoc]; exact hI5.out
      · simp [intOf] <;> omega
    · obtain rfl : j = 0 := by omega
      rw [Nat.sub_zero, List.take_of_length_le (by have := hbeL.out; omega)] at hI
      have hj1 : (((0 : Nat) : Int) - 1) < 0 := by omega
      have hml := hI.len
      simp only [List.length_append, List.length_cons, List.length_nil] at hml
      have hbo := hbeL.out
      have hmo := hm.out
      have hm4 : m' ≤ m + 4 := by omega
      clear hml hbo hmo
      have hb4 := Lib.hid (hb.out.below (hI.bel hB hbq.out))
      have g1 : wr.cell? ⟨w.heap.size, 1, none⟩ = some (.slice A2 n c2) := hI.box.cell 1
      replace hI := Lib.hid hI
      go_wp2_with (at_builtin; refine wpList_append_wr rfl _ _ rfl hI.out rfl h0.out hB rfl _ _ _ _ b rfl hb4.out (by omega) ?_; intro A4 c4 w4 hI4 hs4; have g2 := hI4.box.cell 2; simp at g2; replace hI4 := Lib.hid hI4)
      refine wp_loop_rounds 1 ?_
      rw [rounds_succ]; go_wp2_with fail
      go_ret
      rw [hbeL.out]
      exact hI4.out.out

/-- the contract of write on items of one depth, below B, of any length that may be -/
def WriteA (d : Nat) : Prop := ∀ (S : Nat → Prop) (A : Option Addr) (m c B : Nat) (l : List UInt8) (v : Value) (x : Ns.It d) (w : World), w.ownsRow B 5 1 (.slice A m c) m (bv l) → m = l.length → B ≤ w.heap.size →
  (∀ q, S q → q < B) → Sits S w d v x → m + (Ns.enc d x).length + 8 ≤ 140737488355328 → (Ns.body d x).length ≤ 16777215 →
  Calls Try.prog 43 #[.slice A m c, v] w (WrQ w B (.slice A m c) (l ++ Ns.enc d x))
set_option maxHeartbeats 2000000 in
set_option maxRecDepth 100000 in
theorem write_list_long (d : Nat) (hw : WriteA d) (S : Nat → Prop) (A : Option Addr) (m c B : Nat) (l : List UInt8) (A2 : Option Addr) (n c2 : Nat) (vs : List Value) (xs : List (Ns.It d)) (w : World)
    (hown : w.ownsRow B 5 1 (.slice A m c) m (bv l)) (hm : m = l.length) (hB : B ≤ w.heap.size) (hS : ∀ q, S q → q < B) (hn : n = xs.length) (hc : n ≤ c2) (hcm : c2 ≤ maxLen) (hin : InS S w 3 A2 n (flat vs)) (hall : All2 (Sits S w d) vs xs)
    (L : Nat) (hL : L = (xs.flatMap (Ns.enc d)).length) (h55 : 55 < L) (h24 : L ≤ 16777215) (hlim : m + L + 1 + (Wd.be 8 L).length + 8 ≤ 140737488355328) :
    Calls Try.prog 43 #[.slice A m c, lsV A2 n c2] w (WrQ w B (.slice A m c) (l ++ [UInt8.ofNat (192 + 55 + (Wd.be 8 L).length)] ++ Wd.be 8 L ++ xs.flatMap (Ns.enc d))) := by
  have hI := WrI.start (row := #[.bool true, .slice none 0 0, .slice A2 n c2]) hown hm
  have hbq : ∀ q, (Value.slice A m c).ownBlock = some q → B ≤ q := fun q e => (hown.lt q e).1
  have h0 : ∀ q, (Value.slice A m c).ownBlock = some q → q < w.heap.size := fun q e => (hown.lt q e).2
  have hp := plain_list A2 n c2 (w.alloc (.cells #[.bool true, .slice none 0 0, .slice A2 n c2] 48))
  have hbd : ∀ w', Below w.heap.size w w' → Calls Try.prog 42 #[lsV A2 n c2] w' fun e w'' => e = .returned (.int .i64 L) ∧ Below w'.heap.size w' w'' := fun w' hb => by
    rw [hL]
    exact body_list d (whole_all d) S A2 n c2 vs xs w' hn hc hcm (hin.move (fun q h1 h2 => ⟨h1, hb.block q h2⟩) hb.size) (hall.imp fun v x hx => hx.move _ _ _ (fun q h1 h2 => ⟨h1, hb.block q h2⟩) hb.size) (by omega)
  replace hI := Lib.hid hI
  replace h0 := Lib.hid h0
  replace hbq := Lib.hid hbq
  replace hin := Lib.hid hin
  replace hall := Lib.hid hall
  have hn63 : (n : Int) ≤ 9223372036854775807 := by unfold maxLen at hcm; omega
  replace hL := Lib.hid hL
  replace hn := Lib.hid hn
  replace hw := Lib.hid hw
  replace hm := Lib.hid hm
  clear hown hc hcm
  unfold lsV at hp hbd ⊢
  go_enter Try.func43, Try.ntmps43
  go_wp2_with fail
  refine hp.mono ?_
  rintro e w1 ⟨rfl, hbe⟩
  have hI1 := Lib.hid (hI.out.below hbe)
  have k1 := Lib.hid hI1.out.box
  have g0 : w1.cell? ⟨w.heap.size, 0, none⟩ = some (.bool true) := hI1.out.box.cell 0
  have hbd1 := hbd w1 (((Below.refl _ _).alloc (Nat.le_refl _) _).trans (hbe.mono (by simp)))
  clear hp hbe hI hbd
  go_wp2_with (refine wpList_load_row rfl 48 _ rfl w.heap.size rfl _ _ _ _ k1.out Try.underlying48 rfl info_item3 ?_)
  refine hbd1.mono ?_
  rintro e w2 ⟨rfl, hbe2⟩
  have hI2 := Lib.hid (hI1.out.below hbe2)
  have hsz2 := hI2.out.gr.size
  clear hbd1 g0 k1 hI1 hbe2
  go_wp2_with fail
  have h55' : ¬ (L : Int) ≤ 55 := by omega
  refine (nest_number L w2 (by omega)).mono ?_
  rintro e w2b ⟨rfl, rfl⟩
  obtain ⟨K, hK⟩ : ∃ K, K = (Wd.be 8 L).length := ⟨_, rfl⟩
  have hK13 : 1 ≤ K ∧ K ≤ 3 := by rw [hK]; exact Ns.be_short L (by omega) (by unfold Ns.maxBytes; omega)
  have hbyte := be_byte L (by omega)
  have hbeL : (Wd.be 8 L).length = K := hK.symm
  generalize Wd.be 8 L = be at *
  rw [hbeL]
  obtain ⟨hK1, hK3⟩ := hK13
  have hlit := hI2.out.alloc (.cells #[.int .u8 (192 + 55 + (K : Int))] 5)
  have hsrc := Bytes.lit1 (w := w2) (t := 5) (z := 192 + 55 + (K : Int)) (y := UInt8.ofNat (192 + 55 + K)) (by simp; omega)
  replace hlit := Lib.hid hlit
  replace hbyte := Lib.hid hbyte
  replace hbeL := Lib.hid hbeL
  replace hK := Lib.hid hK
  have hk63 : IntKind.u8.wrap (192 + 55 + (K : Int)) = 192 + 55 + (K : Int) := by rw [IntKind.wrap_u8]; omega
  go_wp2_with (at_builtin; refine wpList_append_wr rfl _ _ rfl hlit.out rfl h0.out hB rfl _ _ _ _ [UInt8.ofNat (192 + 55 + K)] rfl hsrc (by omega) ?_; intro A3 c3 w3 hI3 hs3; clear hlit hsrc; replace hI3 := Lib.hid hI3)
  have hmo := hI3.out.len
  have hKw : IntKind.i64.wrap ((K : Int) - 1) = (K : Int) - 1 := by rw [IntKind.wrap_i64]; omega
  clear hmo hk63 hI2 hsz2
  go_loopw [0, 8] (fun v i wr => ∃ (j m' : Nat) (A' : Option Addr) (c' : Nat), j ≤ K ∧ i = .int .i64 ((j : Int) - 1) ∧ v = .slice A' m' c' ∧ WrI w (Value.slice A m c).ownBlock B w.heap.size #[.bool true, .slice none 0 0, .slice A2 n c2] wr A' m' c' (l ++ [UInt8.ofNat (192 + 55 + K)] ++ be.take (K - j))) (fun _ i _ => (intOf i + 1).toNat)
  case atStart =>
    refine ⟨K, _, _, _, Nat.le_refl _, rfl, rfl, ?_⟩
    have := hI3.out
    rw [Nat.sub_self, List.take_zero, List.append_nil]
    exact this
  case round =>
    clear hI3 hs3
    obtain ⟨j, m', A', c', hj, rfl, rfl, hI⟩ := hrel
    by_cases hj0 : 0 < j
    · obtain ⟨t, rfl⟩ : ∃ t, j = t + 1 := ⟨j - 1, by omega⟩
      have hbe0 := hbeL.out
      have hby := hbyte.out t (by omega)
      rw [hbe0, List.getElem?_eq_getElem (by omega)] at hby
      injection hby with hby
      have htk : be.take (K - t) = be.take (K - (t + 1)) ++ [be[K - 1 - t]] := by
        rw [show K - t = (K - (t + 1)) + 1 by omega, List.take_succ_eq_append_getElem (by omega)]
        congr 3; omega
      have ht3 : t < 3 := by omega
      have e1 : ((t + 1 : Nat) : Int) - 1 = (t : Int) := by omega
      rw [e1]
      have hpos : ¬ (t : Int) < 0 := by omega
      have h8w : IntKind.i64.wrap (8 * (t : Int)) = 8 * (t : Int) := by rw [IntKind.wrap_i64]; omega
      replace hby := Lib.hid hby
      replace htk := Lib.hid htk
      replace hI := Lib.hid hI
      replace hbe0 := Lib.hid hbe0
      clear e1
      have hml := hI.out.len
      simp only [List.length_append, List.length_cons, List.length_nil, List.length_take] at hml
      have hlo := hm.out
      have hbo := hbeL.out
      have hml2 : m' + 1 ≤ 140737488355328 := by omega
      have hlit := hI.out.alloc (.cells #[.int .u8 ((L : Int) / 2 ^ (8 * t) % 256)] 5)
      have hz : ((L : Int) / 2 ^ (8 * t) % 256) = ((be[K - 1 - t]'(by have := hbe0.out; omega)).toNat : Int) := by
        rw [hby.out, u8_toNat' _ (Nat.mod_lt _ (by omega)), show (256 : Nat) = 2 ^ 8 from rfl, ← Nat.pow_mul]
        norm_cast
      have hsrc := Bytes.lit1 (w := wr) (t := 5) hz
      clear hml hlo hbo hz
      replace hlit := Lib.hid hlit
      go_wp2_with (at_builtin; refine wpList_append_wr rfl _ _ rfl hlit.out rfl h0.out hB rfl _ _ _ _ [be[K - 1 - t]'(by have := hbe0.out; omega)] rfl hsrc hml2 ?_; intro A5 c5 w5 hI5 hs5; clear hlit hsrc; replace hI5 := Lib.hid hI5)
      refine ⟨⟨t, _, _, _, by omega, rfl, rfl, ?_⟩, ?_⟩
      · rw [htk.out, ← List.append_assoc]; exact hI5.out
      · simp [intOf] <;> omega
    · obtain rfl : j = 0 := by omega
      rw [Nat.sub_zero, List.take_of_length_le (by have := hbeL.out; omega)] at hI
      have hj1 : (((0 : Nat) : Int) - 1) < 0 := by omega
      have hml := hI.len
      simp only [List.length_append, List.length_cons, List.length_nil] at hml
      have hbo := hbeL.out
      have hmo := hm.out
      have hm4 : m' ≤ m + 4 := by omega
      clear hml hbo hmo
      have g1 : wr.cell? ⟨w.heap.size, 1, none⟩ = some (.slice none 0 0) := hI.box.cell 1
      replace hI := Lib.hid hI
      go_wp2_with (at_builtin; refine wpList_append_wr rfl _ _ rfl hI.out rfl h0.out hB rfl 0 _ _ _ [] rfl (Bytes.none_ _ _ _ (Nat.zero_le _)) (by omega) ?_; intro A4 c4 w4 hI4 hs4; clear g1; have g2 := hI4.box.cell 2; simp at g2; replace hI4 := Lib.hid hI4)
      clear hI
      have hstep : ∀ k (hk : k < xs.length), (xs.take (k + 1)).flatMap (Ns.enc d) = (xs.take k).flatMap (Ns.enc d) ++ Ns.enc d xs[k] := by
        intro k hk
        rw [List.take_succ_eq_append_getElem hk, List.flatMap_append]
        simp
      have hle : ∀ k, ((xs.take k).flatMap (Ns.enc d)).length ≤ (xs.flatMap (Ns.enc d)).length := by
        intro k
        have h1 := congrArg (fun l => (List.flatMap (Ns.enc d) l).length) (List.take_append_drop k xs)
        simp only [List.flatMap_append, List.length_append] at h1
        omega
      replace hstep := Lib.hid hstep
      replace hle := Lib.hid hle
      replace hS := Lib.hid hS
      go_loopw [0, 61] (fun v i wr => ∃ (k m' : Nat) (A' : Option Addr) (c' : Nat), k ≤ xs.length ∧ i = .int .i64 k ∧ v = .slice A' m' c' ∧ WrI w (Value.slice A m c).ownBlock B w.heap.size #[.bool true, .slice none 0 0, .slice A2 n c2] wr A' m' c' (l ++ [UInt8.ofNat (192 + 55 + K)] ++ be ++ (xs.take k).flatMap (Ns.enc d))) (fun _ i _ => xs.length - (intOf i).toNat)
      case atStart =>
        refine ⟨0, _, _, _, Nat.zero_le _, rfl, rfl, ?_⟩
        have := hI4.out
        simpa using this
      case round =>
        clear hI4 g2
        obtain ⟨k, m', A', c', hk, rfl, rfl, hI⟩ := hrel
        by_cases hlt : k < xs.length
        · have hbel := hI.bel hB hbq.out
          obtain ⟨g, o, a, b, cc, rfl, hSg, hg, hrg, hone, hsit⟩ := items_at (hin.out.move (S' := S) (fun q h1 h2 => ⟨h1, hbel.block q (hS.out q h1)⟩) hbel.size) (hall.out.imp fun v x hx => hx.move (S' := S) _ _ _ (fun q h1 h2 => ⟨h1, hbel.block q (hS.out q h1)⟩) hbel.size) hn.out k hlt
          have hrg2 : wr.rangeAt g (o + k * 3) [a, b, cc] := by rw [Nat.mul_comm k 3]; exact hrg
          have hIr := hI.rowed (Nat.le_refl wr.heap.size) rowZ #[a, b, cc]
          have hsit2 : Sits S ((wr.alloc (.cells rowZ 48)).setRow wr.heap.size #[a, b, cc]) d (.agg #[a, b, cc]) xs[k] :=
            hsit.move _ _ _ (fun q h1 h2 => ⟨h1, (setRow_other _ _ q _ (by omega)).trans (Below.heap_alloc wr _ q h2)⟩) (by simp)
          have hs1 := hle.out (k + 1)
          rw [hstep.out k hlt, List.length_append] at hs1
          have hml := hI.len
          simp only [List.length_append, List.length_cons, List.length_nil, hbeL.out] at hml
          have hLo := hL.out
          have hmo := hm.out
          have hbo := hbeL.out
          have hcall := hw.out S A' m' c' B _ _ xs[k] _ hIr.own hIr.len (by have := hIr.gr.size; omega) hS.out hsit2 (by omega) (by have := Ns.body_le d xs[k]; omega)
          have hbx : w.heap.size = w.heap.size := rfl
          clear hbel hrg hsit hsit2 hs1 hLo hml hmo hbo
          replace hI := Lib.hid hI
          replace hIr := Lib.hid hIr
          have hlt' : (k : Int) < n := by have := hn.out; omega
          go_wp2_with (first
            | (refine wpList_load_mid rfl 48 _ rfl g (o + k * 3) rfl [a, b, cc] _ hrg2 Try.underlying48 rfl info_item3 ?_)
            | (refine wpList_store_row rfl 48 _ _ rfl wr.heap.size #[a, b, cc] rfl rfl _ _ (Blk.new wr 48 rowZ) info_item3 rfl (by simpa using hone) ?_)
            | (refine wpList_load_row rfl 48 _ rfl wr.heap.size rfl _ _ _ _ ((Blk.new wr 48 rowZ).row #[a, b, cc]) Try.underlying48 rfl info_item3 ?_)
            | fail)
          refine hcall.mono ?_
          intro e w2 hq
          obtain ⟨A5, m5, c5, rfl, hI5⟩ := hIr.out.call rfl h0.out hq
          replace hI5 := Lib.hid hI5
          clear hcall hq
          go_wp2_with fail
          refine ⟨⟨k + 1, _, _, _, by omega, by go_num, rfl, ?_⟩, ?_⟩
          · rw [hstep.out k hlt, ← List.append_assoc]; exact hI5.out
          · simp [intOf]; omega
        · obtain rfl : k = xs.length := by omega
          rw [List.take_length] at hI
          replace hI := Lib.hid hI
          have hlt' : ¬ (xs.length : Int) < n := by have := hn.out; omega
          go_wp2_with fail
          go_ret
          have := hI.out.out
          rw [hbeL.out]
          simp only [List.append_assoc, List.singleton_append, UInt8.ofNat_add, UInt8.reduceOfNat, UInt8.reduceAdd] at this ⊢
          exact this

end Go.Proofs.Yteknhmhmepnfjaa

/-
  Package nest, what looks: a text.
-/
namespace Go.Proofs.Yteknhmhmepnfjaa
open Go.RowKit

set_option maxHeartbeats 1000000 in
set_option maxRecDepth 100000 in
theorem look_text (g W deep : Nat) (A : Option Addr) (n c : Nat) (w : World) (hk : Blk w g 63 #[.int .i64 W, .int .i64 0]) (hlim : W + (max n 1) ≤ 16777215) :
    Calls Try.prog 41 #[.pointer (some ⟨g, 0, none⟩), txV A n c, .int .i64 deep] w fun e w' => e = .returned (.tuple #[]) ∧ Blk w' g 63 #[.int .i64 ((W + max n 1 : Nat) : Int), .int .i64 0] ∧ w.grownBy w' (some g) := by
  have hg := hk.lt
  have hb := Blk.new w 48 #[.bool false, .slice A n c, .slice none 0 0]
  have hk1 := hk.alloc (.cells #[.bool false, .slice A n c, .slice none 0 0] 48)
  have hgr := grown_alloc (World.grownBy.refl w (some g)) (.cells #[.bool false, .slice A n c, .slice none 0 0] 48)
  replace hb := Lib.hid hb
  replace hk1 := Lib.hid hk1
  replace hgr := Lib.hid hgr
  clear hk
  have hmx : max (n : Int) 1 = ((max n 1 : Nat) : Int) := by omega
  have hwr : IntKind.i64.wrap ((W : Int) + ((max n 1 : Nat) : Int)) = ((W + max n 1 : Nat) : Int) := by rw [IntKind.wrap_i64]; omega
  have hlim' : ¬ (16777215 : Int) < ((W + max n 1 : Nat) : Int) := by omega
  unfold txV
  go_enter Try.func41, Try.ntmps41
  go_wp2_with fail
  have hs1 : (w.alloc (.cells #[.bool false, .slice A n c, .slice none 0 0] 48)).heap.size = w.heap.size + 1 := by simp
  generalize w.alloc (.cells #[.bool false, .slice A n c, .slice none 0 0] 48) = w1 at *
  have g0 : w1.cell? ⟨g, 0, none⟩ = some (.int .i64 W) := hk1.out.cell 0
  have g1 : w1.cell? ⟨w.heap.size, 1, none⟩ = some (.slice A n c) := hb.out.cell 1
  refine wp_region_M (M := [11]) (S := (fun W' => W'.cell? ⟨g, 0, none⟩ = some (.int .i64 W) ∧ W'.cell? ⟨w.heap.size, 1, none⟩ = some (.slice A n c))) (by kernel_rfl) ⟨g0, g1⟩ (fun hS => ?_)
  (refine mPure (i := 0) (v := ?v1) rfl (by kernel_rfl) (fun _ _ _ h => h) (Or.inl ⟨by rfl, ?y1⟩) (.inr hS) ?r1; (case y1 => (intro W hW; clear hW; go_simp; (try with_reducible rfl); done)); try simp only [Act.put, List.setIfInBounds_toArray, List.set_cons_zero, List.set_cons_succ])
  (refine mPure (i := 1) (v := ?v2) rfl (by kernel_rfl) (fun _ _ _ h => h) (Or.inl ⟨by rfl, ?y2⟩) (.inr hS) ?r2; (case y2 => (intro W hW; clear hW; go_simp; (try with_reducible rfl); done)); try simp only [Act.put, List.setIfInBounds_toArray, List.set_cons_zero, List.set_cons_succ])
  (refine mPure (i := 2) (v := ?v3) rfl (by kernel_rfl) (fun _ _ _ h => h) (Or.inl ⟨by rfl, ?y3⟩) (.inr hS) ?r3; (case y3 => (intro W hW; clear hW; go_simp; (try with_reducible rfl); done)); try simp only [Act.put, List.setIfInBounds_toArray, List.set_cons_zero, List.set_cons_succ])
  (refine mTake (i := 3) (v := ?v4) rfl (by kernel_rfl) (fun _ _ _ h => h) (Or.inl ⟨by rfl, ?y4⟩) hS ?r4; (case y4 => (intro W hW; ((have g := hW.1; go_simp)); (try with_reducible rfl); done)); try simp only [Act.put, List.setIfInBounds_toArray, List.set_cons_zero, List.set_cons_succ])
  (refine mPure (i := 4) (v := ?v5) rfl (by kernel_rfl) (fun _ _ _ h => h) (Or.inl ⟨by rfl, ?y5⟩) (.inr hS) ?r5; (case y5 => (intro W hW; clear hW; go_simp; (try with_reducible rfl); done)); try simp only [Act.put, List.setIfInBounds_toArray, List.set_cons_zero, List.set_cons_succ])
  (refine mTake (i := 5) (v := ?v6) rfl (by kernel_rfl) (fun _ _ _ h => h) (Or.inl ⟨by rfl, ?y6⟩) hS ?r6; (case y6 => (intro W hW; ((have g := hW.2; go_simp)); (try with_reducible rfl); done)); try simp only [Act.put, List.setIfInBounds_toArray, List.set_cons_zero, List.set_cons_succ])
  (refine mPure (i := 6) (v := ?v7) rfl (by kernel_rfl) (fun _ _ _ h => h) (Or.inl ⟨by rfl, ?y7⟩) (.inr hS) ?r7; (case y7 => (intro W hW; clear hW; go_simp; (try with_reducible rfl); done)); try simp only [Act.put, List.setIfInBounds_toArray, List.set_cons_zero, List.set_cons_succ])
  (refine mPure (i := 7) (v := ?v8) rfl (by kernel_rfl) (fun _ _ _ h => h) (Or.inl ⟨by rfl, ?y8⟩) (.inr hS) ?r8; (case y8 => (intro W hW; clear hW; go_simp; (try with_reducible rfl); done)); try simp only [Act.put, List.setIfInBounds_toArray, List.set_cons_zero, List.set_cons_succ])
  (refine mPure (i := 8) (v := ?v9) rfl (by kernel_rfl) (fun _ _ _ h => h) (Or.inl ⟨by rfl, ?y9⟩) (.inr hS) ?r9; (case y9 => (intro W hW; clear hW; go_simp; (try with_reducible rfl); done)); try simp only [Act.put, List.setIfInBounds_toArray, List.set_cons_zero, List.set_cons_succ])
  (refine mPure (i := 9) (v := ?v10) rfl (by kernel_rfl) (fun _ _ _ h => h) (Or.inl ⟨by rfl, ?y10⟩) (.inr hS) ?r10; (case y10 => (intro W hW; clear hW; go_simp; (try with_reducible rfl); done)); try simp only [Act.put, List.setIfInBounds_toArray, List.set_cons_zero, List.set_cons_succ])
  (refine mPure (i := 10) (v := ?v11) rfl (by kernel_rfl) (fun _ _ _ h => h) (Or.inl ⟨by rfl, ?y11⟩) (.inr hS) ?r11; (case y11 => (intro W hW; clear hW; go_simp; (try with_reducible rfl); done)); try simp only [Act.put, List.setIfInBounds_toArray, List.set_cons_zero, List.set_cons_succ])
  have f0 : w1.drew.frozen? ⟨g, 0, none⟩ = false := hk1.out.drew.frozen 0
  have g0' := hS.1
  (refine mOne (i := 11) rfl (by kernel_rfl) (fun K hK => ?_))
  go_simp
  (refine hK.out _ _ (.inl ⟨11, by simp, by kernel_rfl⟩) ?_; clear hK K; try simp only [Act.put, List.setIfInBounds_toArray, List.set_cons_zero, List.set_cons_succ])
  refine wpAnyM_done (by kernel_rfl) ?_ _
  clear hS g0 g1 f0 g0'
  have hk2 := (hk1.out.set_ 0 (.int .i64 ((W : Int) + ((max n 1 : Nat) : Int)))).drew.eq (show _ = #[.int .i64 ((W : Int) + ((max n 1 : Nat) : Int)), .int .i64 0] from rfl)
  have hb2 := (hb.out.far (p := ⟨g, 0, none⟩) (by simp; omega) (.int .i64 ((W : Int) + ((max n 1 : Nat) : Int)))).drew
  have hgr2 := grown_drew (grown_set (i := 0) (u := .int .i64 ((W : Int) + ((max n 1 : Nat) : Int))) hgr.out)
  clear hk1 hb hgr
  generalize (w1.setCell ⟨g, 0, none⟩ (.int .i64 ((W : Int) + ((max n 1 : Nat) : Int)))).drew = w2 at *
  have hc : (W : Int) + ((max n 1 : Nat) : Int) = ((W + max n 1 : Nat) : Int) := by omega
  rw [hc] at hk2
  clear hc hwr hmx hlim
  obtain ⟨W2, hW2⟩ : ∃ W2, W2 = W + max n 1 := ⟨_, rfl⟩
  rw [← hW2] at hk2 hlim'
  replace hW2 := Lib.hid hW2
  have g0 : w2.cell? ⟨g, 0, none⟩ = some (.int .i64 W2) := hk2.cell 0
  have g1 : w2.cell? ⟨g, 1, none⟩ = some (.int .i64 0) := hk2.cell 1
  have g2 : w2.cell? ⟨w.heap.size, 2, none⟩ = some (.slice none 0 0) := hb2.cell 2
  replace hk2 := Lib.hid hk2
  replace hb2 := Lib.hid hb2
  replace hgr2 := Lib.hid hgr2
  go_wp2_with fail
  refine wp_loop_rounds 1 ?_
  rw [rounds_succ]
  go_wp2_with fail
  go_end0
  rw [← hW2.out]
  exact ⟨rfl, hk2.out, hgr2.out⟩
end Go.Proofs.Yteknhmhmepnfjaa
