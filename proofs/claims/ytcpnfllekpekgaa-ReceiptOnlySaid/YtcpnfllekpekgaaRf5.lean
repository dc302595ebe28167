/-
  The reference of chapter 2: items.
-/
import Derived.Test.YtcpnfllekpekgaaRf4
namespace Go.Proofs.Ytcpnfllekpekgaa
open Go.RowKit

def FstC (d D : Nat) : Prop := ∀ (A : Option Addr) (n c B : Nat) (l : List UInt8) (w : World) (a E : Nat), Bytes w B A n c l → B ≤ w.heap.size → a ≤ E → E ≤ n →
  Calls Try.prog 45 #[.slice A n c, .int .i64 a, .int .i64 E, .int .i64 D] w (FstQ d (cutL l a E) E w)
theorem ItL.far {S : Nat → Prop} {B d m c g : Nat} {w w' : World} {A : Option Addr} {vs : List Value} {xs : List (Ns.It d)} (h : ItL S B w d A m c vs xs) (hg : w.grownBy w' (some g)) (hgB : g < B) (hS : ∀ q, S q → q ≠ g) : ItL S B w' d A m c vs xs := by
  refine ⟨h.own.kept hg (.inr (fun e => by have := (h.own.lt _ e).1; omega)), h.len, h.all.imp fun v x hx => hx.move _ _ _ (fun q h1 h2 => ⟨h1, hg.block q h2 (fun e => ?_)⟩) hg.size⟩
  injection e with e
  rcases h1.1 with h3 | h3
  · exact hS q h3 e
  · omega
/-- where an item ends, there the next begins -/
theorem item_next {d : Nat} {l : List UInt8} {a E : Nat} {x : Ns.It (d + 1)} {r : List UInt8} (h : Ns.item d (cutL l a E) = .ok (x, r)) (haE : a ≤ E) (hE : E ≤ l.length) : cutL l (E - r.length) E = r ∧ a < E - r.length ∧ r.length ≤ E := by
  have hs := Ns.item_shorter h
  obtain ⟨hk, -⟩ := Ns.item_ok d (cutL l a E) x r h
  have hl := cutL_len l a E hE
  have hl2 := congrArg List.length hk
  rw [List.length_append] at hl2
  have hd : (cutL l a E).drop (Ns.enc (d + 1) x).length = r := by rw [hk, List.drop_left]
  rw [cutL_drop] at hd
  refine ⟨?_, by omega, by omega⟩
  rw [show E - r.length = a + (Ns.enc (d + 1) x).length by omega]
  exact hd
/-- in the midst of items -/
structure ItsI (d : Nat) (w : World) (l : List UInt8) (a E k : Nat) (A : Option Addr) (m c : Nat) (vs : List Value) (done : List (Ns.It (d + 1))) (wr : World) : Prop where
  le : a ≤ k
  leE : k ≤ E
  lst : ItL (fun _ => False) (w.heap.size + 2) wr (d + 1) A m c vs done
  cnt : m ≤ k - a
  res : Blk wr w.heap.size 38 rowZ
  it : Blk wr (w.heap.size + 1) 38 #[.bool true, .slice none 0 0, .slice A m c]
  bel : Below w.heap.size w wr
  sz : w.heap.size + 2 ≤ wr.heap.size
  eq : ∃ j, (cutL l k E).length ≤ j ∧ Ns.many (Ns.item d) (cutL l a E).length (cutL l a E) = match Ns.many (Ns.item d) j (cutL l k E) with
    | .ok xs => .ok (done ++ xs)
    | .error e => .error e
/-- the next item lies in a row of its own -/
structure ItsM (d : Nat) (w : World) (gy : Nat) (row : Array Value) (x : Ns.It (d + 1)) (A : Option Addr) (m c : Nat) (vs : List Value) (done : List (Ns.It (d + 1))) (wr : World) : Prop where
  lst : ItL (fun _ => False) (w.heap.size + 2) wr (d + 1) A m c vs done
  res : Blk wr w.heap.size 38 rowZ
  it : Blk wr (w.heap.size + 1) 38 #[.bool true, .slice none 0 0, .slice A m c]
  y : Blk wr gy 38 row
  bel : Below w.heap.size w wr
  sv : Sits (Apart (fun _ => False) (w.heap.size + 2) (.slice A m c)) wr (d + 1) (.agg row) x
  sz : w.heap.size + 2 ≤ wr.heap.size
theorem its_mid {d : Nat} {w wr w1 : World} {l : List UInt8} {a E k m c : Nat} {A : Option Addr} {vs : List Value} {done : List (Ns.It (d + 1))} {row : Array Value} {x : Ns.It (d + 1)} (h : ItsI d w l a E k A m c vs done wr) (hb : Below wr.heap.size wr w1)
    (hv : Sits (fun b => wr.heap.size ≤ b) w1 (d + 1) (.agg row) x) : ItsM d w w1.heap.size row x A m c vs done ((w1.alloc (.cells rowZ 38)).setRow w1.heap.size row) := by
  have hs := hb.size
  have hsz := h.sz
  have hb2 : Below wr.heap.size wr ((w1.alloc (.cells rowZ 38)).setRow w1.heap.size row) := below_row (hb.alloc hs _) hs _
  refine ⟨h.lst.below hb2, h.res.below hb2 (by omega), h.it.below hb2 (by omega), (Blk.new w1 _ _).row _, h.bel.trans (hb2.mono (by omega)), ?_, by have := hb2.size; omega⟩
  refine hv.move _ _ _ (fun q h1 h2 => ⟨⟨.inr (by omega), fun e => by have := (h.lst.own.lt _ e).2; omega⟩, ?_⟩) (by simp)
  exact (setRow_other _ _ q _ (by omega)).trans (Below.heap_alloc w1 _ q h2)
theorem its_next {d : Nat} {w wr w3 w5 : World} {l : List UInt8} {a E k m c c5 gy : Nat} {A A5 : Option Addr} {vs : List Value} {done : List (Ns.It (d + 1))} {row cs : Array Value} {x : Ns.It (d + 1)} {r : List UInt8} (h : ItsI d w l a E k A m c vs done wr)
    (hM : ItsM d w gy row x A m c vs done w3) (hx : Ns.item d (cutL l k E) = .ok (x, r)) (hE : E ≤ l.length) (hlt : k < E) (hL : ItL (fun _ => False) (w.heap.size + 2) w5 (d + 1) A5 (m + 1) c5 (vs ++ [.agg row]) (done ++ [x])) (hg : (w3.alloc (.cells cs 38)).grownBy w5 (Value.slice A m c).ownBlock) :
    ItsI d w l a E (E - r.length) A5 (m + 1) c5 (vs ++ [.agg row]) (done ++ [x]) (w5.setCell ⟨w.heap.size + 1, 2, none⟩ (.slice A5 (m + 1) c5)) := by
  obtain ⟨h1, h2, h3⟩ := item_next hx h.leE hE
  have hle := h.le
  have hcn := h.cnt
  have hsz := hM.sz
  have hs4 : (w3.alloc (.cells cs 38)).heap.size = w3.heap.size + 1 := by simp
  have hs5 := hg.size
  have hlow : ∀ q, q < w.heap.size + 2 → some q ≠ (Value.slice A m c).ownBlock := fun q hq e => by have := (hM.lst.own.lt q e.symm).1; omega
  have hb5 : ∀ q, q < w.heap.size + 2 → w5.heap[q]? = w3.heap[q]? := fun q hq => (hg.block q (by omega) (hlow q hq)).trans (Below.heap_alloc w3 _ q (by omega))
  have hbel : Below w.heap.size w w5 := (hM.bel.alloc (by omega) (.cells cs 38)).trans ⟨hg.os, hg.tape, hg.output, hg.size, fun q hq => hg.block q (by omega) (hlow q (by omega))⟩
  refine ⟨by omega, by omega, hL.far (g := w.heap.size + 1) (grown_set (World.grownBy.refl w5 _)) (by omega) (fun q h => h.elim), by omega, ?_, ?_, hbel.setCell (by simp) _, by rw [size_set]; omega, ?_⟩
  · exact (Below.heap_setCell w5 _ _ _ (by simp)).trans ((hb5 _ (by omega)).trans hM.res)
  · have hX5 : Blk w5 (w.heap.size + 1) 38 #[.bool true, .slice none 0 0, .slice A m c] := (hb5 _ (by omega)).trans hM.it
    exact (hX5.set_ 2 _).eq rfl
  · obtain ⟨j, hj, he⟩ := h.eq
    have hc := cutL_cons l k E hlt hE
    have hsh := Ns.item_shorter hx
    rw [he]
    obtain ⟨j, rfl⟩ : ∃ i, j = i + 1 := ⟨j - 1, by rw [hc] at hj; simp at hj; omega⟩
    refine ⟨j, by rw [h1]; omega, ?_⟩
    rw [h1]
    rw [hc] at hx ⊢
    simp only [Ns.many, hx]
    cases Ns.many (Ns.item d) j r with
    | error e => rfl
    | ok xs => simp
set_option maxHeartbeats 2000000 in
set_option maxRecDepth 100000 in
theorem ref_items (d D : Nat) (hf : FstC d D) : ItsC d D := by
  intro A n c B l w a E h hB haE hE hlim
  have hlen := h.len
  subst hlen
  have hn63 : (l.length : Int) ≤ 9223372036854775807 := by have := h.cap; have := h.lim; unfold maxLen at *; omega
  have hstart : ItsI d w l a E a none 0 0 [] [] (((w.alloc (.cells rowZ 38)).alloc (.cells rowZ 38)).setRow (w.heap.size + 1) #[.bool true, .slice none 0 0, .slice none 0 0]) := by
    have hs1 : (w.alloc (.cells rowZ 38)).heap.size = w.heap.size + 1 := by simp
    have hbe : Below w.heap.size w ((w.alloc (.cells rowZ 38)).alloc (.cells rowZ 38)) := ((Below.refl _ _).alloc (Nat.le_refl _) _).alloc (by omega) _
    have hx : Blk ((w.alloc (.cells rowZ 38)).alloc (.cells rowZ 38)) (w.heap.size + 1) 38 rowZ := Blk.new' hs1.symm
    refine ⟨Nat.le_refl _, haE, ItL.start, Nat.zero_le _, (((Blk.new w _ _).alloc _).row_far _ (by omega)), hx.row _, below_row hbe (by omega) _, by simp, _, Nat.le_refl _, ?_⟩
    cases Ns.many (Ns.item d) (cutL l a E).length (cutL l a E) <;> rfl
  have hX : Blk ((w.alloc (.cells rowZ 38)).alloc (.cells rowZ 38)) (w.heap.size + 1) 38 rowZ := Blk.new' (by simp)
  replace h := Lib.hid h
  replace hf := Lib.hid hf
  replace hstart := Lib.hid hstart
  go_enter Try.func51, Try.ntmps51
  go_wp2_with (refine wpList_store_row rfl 38 _ _ rfl (w.heap.size + 1) #[.bool true, .slice none 0 0, .slice none 0 0] rfl rfl _ _ hX info_item3 rfl (by simp [Value.oneCell']) ?_; refine list_at (ItsI d w l a E a none 0 0 [] []) hstart.out ?_; intro w2 hI2; replace hI2 := Lib.hid hI2)
  clear hX
  simp only [Act.put]
  go_loopw [1] (fun i wr => ∃ (k : Nat) (A' : Option Addr) (m c' : Nat) (vs : List Value) (done : List (Ns.It (d + 1))), i = .int .i64 k ∧ ItsI d w l a E k A' m c' vs done wr) (fun i _ => E - (intOf i).toNat)
  case atStart => exact ⟨a, _, _, _, _, _, rfl, hI2.out⟩
  case round =>
    clear hI2 hstart
    obtain ⟨k, A', m, c', vs, done, rfl, hI⟩ := hrel
    by_cases hlt : k < E
    · have hlt' : (k : Int) < E := by omega
      have hbs := hI.bel.size
      have hcall := hf.out A l.length c B l wr k E (h.out.below (hI.bel.mono hB)) (by omega) (by omega) hE
      replace hI := Lib.hid hI
      go_wp2_with fail
      refine hcall.mono ?_
      rintro e w1 ⟨hbe1, hq⟩
      have hs1 := hbe1.size
      clear hcall
      cases hx : Ns.item d (cutL l k E) with
      | error kk =>
        rw [hx] at hq
        obtain ⟨rfl, hkk⟩ := hq
        have hm : Ns.many (Ns.item d) (cutL l a E).length (cutL l a E) = .error kk := by
          obtain ⟨j, hj, he⟩ := hI.out.eq
          rw [he]
          have hc := cutL_cons l k E hlt hE
          rw [hc] at hx hj ⊢
          obtain ⟨j, rfl⟩ : ∃ i, j = i + 1 := ⟨j - 1, by simp at hj; omega⟩
          simp only [Ns.many, hx]
        replace hm := Lib.hid hm
        clear hx
        have hR1 : Blk ((w1.alloc (.cells rowZ 38)).setRow w1.heap.size #[.bool false, .slice none 0 0, .slice none 0 0]) w.heap.size 38 rowZ := (first_keep w1 _ _ (by have := hI.out.sz; omega)).trans (hI.out.res.below hbe1 (by have := hI.out.sz; omega))
        have hbe2 := below_row ((hI.out.bel.trans (hbe1.mono hbs)).alloc (by omega) (.cells rowZ 38)) (show w.heap.size ≤ w1.heap.size by omega) #[.bool false, .slice none 0 0, .slice none 0 0]
        replace hR1 := Lib.hid hR1
        replace hbe2 := Lib.hid hbe2
        rw [show itemZ = .agg #[.bool false, .slice none 0 0, .slice none 0 0] from rfl]
        go_wp2_with (first
          | (refine wpList_store_row rfl 38 _ _ rfl w1.heap.size #[.bool false, .slice none 0 0, .slice none 0 0] rfl rfl _ _ (Blk.new w1 38 rowZ) info_item3 rfl (by simp [Value.oneCell']) ?_)
          | (refine wpList_store_row rfl 38 _ _ rfl w.heap.size #[.bool false, .slice none 0 0, .slice none 0 0] rfl rfl _ _ hR1.out info_item3 rfl (by simp [Value.oneCell']) ?_))
        refine bodyPost_ret (v := .tuple #[.agg #[.bool false, .slice none 0 0, .slice none 0 0], .int .i64 0, .int .i64 kk]) (results_row_tmps rfl _ _ w.heap.size _ #[.bool false, .slice none 0 0, .slice none 0 0] _ _ _ _ rfl rfl rfl (hR1.out.row _) Try.underlying38 rfl info_item3) rfl ?_
        refine ⟨below_row hbe2.out (Nat.le_refl _) _, ?_⟩
        rw [hm.out]
        exact ⟨rfl, hkk⟩
      | ok p =>
        obtain ⟨x, r⟩ := p
        rw [hx] at hq
        obtain ⟨v, rfl, hv⟩ := hq
        obtain ⟨p, q, s, rfl, hcl, hone⟩ := hv.cells
        have hM := its_mid hI.out hbe1 hv
        have hnx := item_next hx hI.out.leE hE
        have hmlim : m < 16777216 := by have := hI.out.cnt; omega
        replace hM := Lib.hid hM
        replace hx := Lib.hid hx
        replace hnx := Lib.hid hnx
        replace hbe1 := Lib.hid hbe1
        replace hv := Lib.hid hv
        go_wp2_with (first
          | (refine wpList_store_row rfl 38 _ _ rfl w1.heap.size #[p, q, s] rfl rfl _ _ (Blk.new w1 38 rowZ) info_item3 rfl (by simpa using hone) ?_; refine list_at (ItsM d w w1.heap.size #[p, q, s] x A' m c' vs done) hM.out ?_; intro w3 hM3; have g2 : w3.cell? ⟨w.heap.size + 1, 2, none⟩ = some (.slice A' m c') := hM3.it.cell 2; replace hM3 := Lib.hid hM3)
          | (refine wpList_load_row rfl 38 _ rfl w1.heap.size rfl _ _ _ _ hM3.out.y Try.underlying38 rfl info_item3 ?_)
          | (at_builtin; refine wpList_append_it (v := .agg #[p, q, s]) rfl _ _ rfl (hM3.out.lst.below ((Below.refl _ _).alloc (Nat.le_refl _) (.cells #[p, q, s] 38))) (fun _ h => h.elim) (by have := hM3.out.sz; simp; omega) rfl rfl (by simp) (Blk.new w3 38 #[p, q, s]) (hM3.out.sv.move _ _ _ (fun q h1 h2 => ⟨h1, Below.heap_alloc w3 _ q h2⟩) (by simp)) hmlim ?_; intro A4 c4 w4 hI4 hg4; have hn := its_next hI.out hM3.out hx.out hE hlt hI4 hg4; have hX4 : Blk w4 (w.heap.size + 1) 38 #[.bool true, .slice none 0 0, .slice A' m c'] := ((hg4.block _ (by have := hM3.out.sz; simp; omega) (fun e => by have := (hM3.out.lst.own.lt _ e.symm).1; omega)).trans (Below.heap_alloc w3 _ _ (by have := hM3.out.sz; omega))).trans hM3.out.it; have gx2 : w4.cell? ⟨w.heap.size + 1, 2, none⟩ = some (.slice A' m c') := hX4.cell 2; have fx2 := hX4.frozen 2; clear hX4; replace hI4 := Lib.hid hI4; replace hg4 := Lib.hid hg4; replace hn := Lib.hid hn))
        refine ⟨⟨E - r.length, A4, m + 1, c4, _, _, rfl, hn.out⟩, ?_⟩
        have := hnx.out
        simp [intOf]; omega
    · obtain rfl : k = E := by have := hI.leE; omega
      have hlt' : ¬ (k : Int) < k := by omega
      have hO := Own.of_row hI.lst.own
      have hsz := hI.sz
      have hm : Ns.many (Ns.item d) (cutL l a k).length (cutL l a k) = .ok done := by
        obtain ⟨j, hj, he⟩ := hI.eq
        rw [he, cutL_nil l k hE, Ns.many_nil]
        simp
      have hR := hI.res
      replace hm := Lib.hid hm
      replace hO := Lib.hid hO
      replace hI := Lib.hid hI
      go_wp2_with (first
        | (refine wpList_load_row rfl 38 _ rfl (w.heap.size + 1) rfl _ _ _ _ hI.out.it Try.underlying38 rfl info_item3 ?_)
        | (refine wpList_store_row rfl 38 _ _ rfl w.heap.size #[.bool true, .slice none 0 0, .slice A' m c'] rfl rfl _ _ hR info_item3 rfl (by simp [Value.oneCell']) ?_))
      refine bodyPost_ret (v := .tuple #[.agg #[.bool true, .slice none 0 0, .slice A' m c'], .int .i64 k, .int .i64 0]) (results_row_tmps rfl _ _ w.heap.size _ #[.bool true, .slice none 0 0, .slice A' m c'] _ _ _ _ rfl rfl rfl (hR.row _) Try.underlying38 rfl info_item3) rfl ?_
      refine ⟨below_row hI.out.bel (Nat.le_refl _) _, ?_⟩
      rw [hm.out]
      refine ⟨_, rfl, A', m, c', vs, rfl, hI.out.lst.len, hO.out.cap, hO.out.lim, (InS.of_own hO.out).move (fun q h1 h2 => ⟨by omega, setRow_other wr _ q _ (by omega)⟩) (by simp), ?_⟩
      refine hI.out.lst.all.imp fun v x hx => hx.move _ _ _ (fun q h1 h2 => ?_) (by simp)
      have h3 : w.heap.size + 2 ≤ q := by rcases h1.1 with h | h; exact h.elim; exact h
      exact ⟨by omega, setRow_other wr _ q _ (by omega)⟩
end Go.Proofs.Ytcpnfllekpekgaa
