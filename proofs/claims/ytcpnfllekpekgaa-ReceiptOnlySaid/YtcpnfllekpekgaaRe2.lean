/-
  The reference of chapter 18: Decode.
-/
import Derived.Test.YtcpnfllekpekgaaRcP
import Derived.Test.YtcpnfllekpekgaaRe1
namespace Go.Proofs.Ytcpnfllekpekgaa
open Go.RowKit

theorem Rc.refRead_len (l : List UInt8) (xs : List (Ns.It 8)) (h : xs.length ≠ 4) : Rc.refRead l (.inr xs) = none := by
  match xs, h with
  | [], _ => rfl
  | [_], _ => rfl
  | [_, _], _ => rfl
  | [_, _, _], _ => rfl
  | [_, _, _, _], h => exact absurd rfl h
  | _ :: _ :: _ :: _ :: _ :: _, _ => rfl
/-- where an item's bytes stand -/
theorem item_slot {S : Nat → Prop} {w : World} {d n : Nat} {g o : Nat} {vs : List Value} {xs : List (Ns.It d)} (hin : InS S w 3 (some ⟨g, o, none⟩) n (flat vs)) (hall : All2 (Sits S w d) vs xs) (hn : n = xs.length) (i : Nat) (hi : i < xs.length) :
    ∃ (A' : Option Addr) (n' c' : Nat), w.cell? ⟨g, o + (3 * i + 1), none⟩ = some (.slice A' n' c') ∧ Bytes w w.heap.size A' n' c' (bytesOf xs[i]) := by
  obtain ⟨g', o', a, b, c, he, h1, h2, hr, _, hs⟩ := items_at hin hall hn i hi
  injection he with he
  injection he with e1 e2
  subst e1; subst e2
  obtain ⟨A', n', c', z, hv, hn', hc, hm, hin', _⟩ := hs.row
  simp only [Value.agg.injEq, Array.mk.injEq, List.cons.injEq, and_true] at hv
  obtain ⟨rfl, rfl, rfl⟩ := hv
  refine ⟨A', n', c', ?_, hn', hc, hm, hin'.reads fun _ _ h => h⟩
  have := hr 1 _ rfl
  rw [Nat.add_assoc] at this
  exact this
/-- in the midst of Decode: the items stand, a receipt is being filled -/
structure RdX (w w1 : World) (A : Option Addr) (c : Nat) (l : List UInt8) (g o c1 : Nat) (p q r s : Option Addr × Nat × Nat) (bp bq br bs : List UInt8) (gr : Nat) (row : Array Value) (W : World) : Prop where
  res : Blk W w.heap.size 24 rcZ
  it : W.cell? ⟨w1.heap.size, 2, none⟩ = some (.slice (some ⟨g, o, none⟩) 4 c1)
  c0 : W.cell? ⟨g, o + 1, none⟩ = some (.slice p.1 p.2.1 p.2.2)
  c1 : W.cell? ⟨g, o + 4, none⟩ = some (.slice q.1 q.2.1 q.2.2)
  c2 : W.cell? ⟨g, o + 7, none⟩ = some (.slice r.1 r.2.1 r.2.2)
  c3 : W.cell? ⟨g, o + 10, none⟩ = some (.slice s.1 s.2.1 s.2.2)
  b0 : Bytes W gr p.1 p.2.1 p.2.2 bp
  b1 : Bytes W gr q.1 q.2.1 q.2.2 bq
  b2 : Bytes W gr r.1 r.2.1 r.2.2 br
  b3 : Bytes W gr s.1 s.2.1 s.2.2 bs
  row : Blk W gr 24 row
  bel : Below w.heap.size w W
  arg : Bytes W w.heap.size A l.length c l
  lt0 : w.heap.size < w1.heap.size
  lt1 : w1.heap.size < gr
  ltg : g < gr
section
variable {w w1 W W' : World} {A : Option Addr} {c g o c1 gr : Nat} {l : List UInt8} {p q r s : Option Addr × Nat × Nat} {bp bq br bs : List UInt8} {row : Array Value}
theorem RdX.move {row' : Array Value} (h : RdX w w1 A c l g o c1 p q r s bp bq br bs gr row W) (hb : Below gr W W') (hr : Blk W' gr 24 row') : RdX w w1 A c l g o c1 p q r s bp bq br bs gr row' W' :=
  ⟨h.res.below hb (by have := h.lt0; have := h.lt1; omega), (hb.cell (p := ⟨_, _, none⟩) h.lt1).trans h.it, (hb.cell (p := ⟨_, _, none⟩) h.ltg).trans h.c0, (hb.cell (p := ⟨_, _, none⟩) h.ltg).trans h.c1, (hb.cell (p := ⟨_, _, none⟩) h.ltg).trans h.c2, (hb.cell (p := ⟨_, _, none⟩) h.ltg).trans h.c3,
   h.b0.below hb, h.b1.below hb, h.b2.below hb, h.b3.below hb, hr, h.bel.trans (hb.mono (by have := h.lt0; have := h.lt1; omega)), h.arg.below (hb.mono (by have := h.lt0; have := h.lt1; omega)), h.lt0, h.lt1, h.ltg⟩
theorem RdX.read (h : RdX w w1 A c l g o c1 p q r s bp bq br bs gr row W) (hb : Below W.heap.size W W') : RdX w w1 A c l g o c1 p q r s bp bq br bs gr row W' :=
  h.move (hb.mono (Nat.le_of_lt h.row.lt)) (h.row.below hb h.row.lt)
theorem RdX.set_ (h : RdX w w1 A c l g o c1 p q r s bp bq br bs gr row W) (i : Nat) (u : Value) : RdX w w1 A c l g o c1 p q r s bp bq br bs gr (row.setIfInBounds i u) (W.setCell ⟨gr, i, none⟩ u) :=
  h.move (Below.setCell (Below.refl gr W) (show gr ≤ (⟨gr, i, none⟩ : Addr).block from Nat.le_refl _) u) (h.row.set_ i u)
theorem RdX.eq {row' : Array Value} (h : RdX w w1 A c l g o c1 p q r s bp bq br bs gr row W) (e : row = row') : RdX w w1 A c l g o c1 p q r s bp bq br bs gr row' W := e ▸ h
end
theorem wordV_eq (x : Ns.It 8) : wordV (Wd.word (bytesOf x)) = .tuple #[.int .u64 (wordZ x), .bool (Wd.word (bytesOf x)).isSome] := by
  unfold wordZ
  cases Wd.word (bytesOf x) <;> rfl
set_option maxHeartbeats 2000000 in
set_option maxRecDepth 100000 in
theorem ref_Decode18 (A : Option Addr) (n c : Nat) (l : List UInt8) (w : World) (h : Bytes w w.heap.size A n c l) :
    Calls Try.prog 14 #[.slice A n c] w fun e w' => e = .returned (rcOut (Rc.refDec l)) ∧ Below w.heap.size w w' := by
  have hf := ref_Decode02 A n c l _ ((h.alloc (Nat.le_refl _) (.cells rcZ 24)).more (show w.heap.size ≤ (w.alloc (.cells rcZ 24)).heap.size by simp))
  have hb0 : Blk (w.alloc (.cells rcZ 24)) w.heap.size 24 rcZ := Blk.new w _ _
  have hbe : Below w.heap.size w (w.alloc (.cells rcZ 24)) := (Below.refl _ _).alloc (Nat.le_refl _) _
  have hlen := h.len
  subst hlen
  have harg := Lib.hid h
  clear h
  go_enter Try.func14, Try.ntmps14
  go_wp2_with fail
  refine hf.mono ?_
  rintro e w1 ⟨hbel, hq⟩
  have hs := hbel.size
  have hs0 : (w.alloc (.cells rcZ 24)).heap.size = w.heap.size + 1 := by simp
  have hb1 := hb0.below hbel (by omega)
  have hbe1 := hbe.trans (hbel.mono (by omega))
  clear hb0 hbe hbel hf
  cases hx : Ns.dec l with
  | error k =>
    rw [hx] at hq
    obtain ⟨rfl, hk⟩ := hq
    have hd := Lib.hid (show Rc.refDec l = none by unfold Rc.refDec; rw [hx])
    clear hx
    have hR : Blk ((w1.alloc (.cells rowZ 38)).setRow w1.heap.size #[.bool false, .slice none 0 0, .slice none 0 0]) w.heap.size 24 rcZ := (first_keep w1 _ _ (by omega)).trans hb1
    replace hR := Lib.hid hR
    clear hb1
    rw [show itemZ = .agg #[.bool false, .slice none 0 0, .slice none 0 0] from rfl]
    go_wp2_with (first
      | (refine wpList_store_row rfl 38 _ _ rfl w1.heap.size #[.bool false, .slice none 0 0, .slice none 0 0] rfl rfl _ _ (Blk.new w1 38 rowZ) info_item3 rfl (by simp [Value.oneCell']) ?_)
      | (refine wpList_store_row rfl 24 _ _ rfl w.heap.size rcZ rfl rfl _ _ hR.out info_receipt rfl (by simp [rcZ, Value.oneCell']) ?_))
    refine bodyPost_ret (v := .tuple #[.agg rcZ, .int .i64 180]) (results_row_tmp rfl _ _ w.heap.size _ rcZ _ _ _ rfl rfl (hR.out.row _) Try.underlying24 rfl info_receipt) rfl ?_
    refine ⟨by rw [hd.out]; rfl, below_row (below_row (hbe1.alloc (by omega) _) (by omega) _) (Nat.le_refl _) _⟩
  | ok x =>
    rw [hx] at hq
    obtain ⟨v, rfl, hv⟩ := hq
    have hd := Lib.hid (show Rc.refDec l = Rc.refRead l x by unfold Rc.refDec; rw [hx])
    clear hx
    match x, hv, hd with
    | .inl b, hv, hd =>
      obtain ⟨A1, n1, c1, rfl, hn1, hc1, hm1, hin1⟩ := hv
      have hI := dec_stored #[.bool false, .slice A1 n1 c1, .slice none 0 0] (by omega) hb1 hbe1
      replace hI := Lib.hid hI
      clear hb1 hn1 hin1 hc1 hm1 hbe1
      unfold txV
      go_wp2_with (first
        | (refine wpList_store_row rfl 38 _ _ rfl w1.heap.size #[.bool false, .slice A1 n1 c1, .slice none 0 0] rfl rfl _ _ (Blk.new w1 38 rowZ) info_item3 rfl (by simp [Value.oneCell']) ?_; refine list_at (DecI w w1 _) hI.out ?_; intro w2 hI2; have g2 : w2.cell? ⟨w1.heap.size, 2, none⟩ = some (.slice none 0 0) := hI2.it.cell 2; replace hI2 := Lib.hid hI2)
        | (refine wpList_store_row rfl 24 _ _ rfl w.heap.size rcZ rfl rfl _ _ hI2.out.res info_receipt rfl (by simp [rcZ, Value.oneCell']) ?_))
      refine bodyPost_ret (v := .tuple #[.agg rcZ, .int .i64 180]) (results_row_tmp rfl _ _ w.heap.size _ rcZ _ _ _ rfl rfl (hI2.out.res.row _) Try.underlying24 rfl info_receipt) rfl ?_
      exact ⟨by rw [hd.out]; rfl, below_row hI2.out.bel (Nat.le_refl _) _⟩
    | .inr xs, hv, hd =>
      obtain ⟨A1, n1, c1, vs, rfl, hn1, hc1, hm1, hin1, hall1⟩ := hv
      have hI := dec_stored #[.bool true, .slice none 0 0, .slice A1 n1 c1] (by omega) hb1 hbe1
      replace hI := Lib.hid hI
      clear hb1 hbe1
      unfold lsV
      by_cases h4 : n1 = 4
      · subst h4
        obtain ⟨x0, x1, x2, x3, rfl⟩ : ∃ x0 x1 x2 x3, xs = [x0, x1, x2, x3] := by
          match xs, hn1 with
          | [x0, x1, x2, x3], _ => exact ⟨x0, x1, x2, x3, rfl⟩
        clear hn1
        obtain ⟨g, o, rfl, hgS, hgl, _⟩ := hin1.2 (by omega)
        obtain ⟨p1, p2, p3, pc, pb⟩ := item_slot hin1 hall1 rfl 0 (by simp)
        obtain ⟨q1, q2, q3, qc, qb⟩ := item_slot hin1 hall1 rfl 1 (by simp)
        obtain ⟨r1, r2, r3, rc, rb⟩ := item_slot hin1 hall1 rfl 2 (by simp)
        obtain ⟨s1, s2, s3, sc, sb⟩ := item_slot hin1 hall1 rfl 3 (by simp)
        have ht : ∀ w2, DecI w w1 #[.bool true, .slice none 0 0, .slice (some ⟨g, o, none⟩) 4 c1] w2 → RdX w w1 A c l g o c1 (p1, p2, p3) (q1, q2, q3) (r1, r2, r3) (s1, s2, s3) (bytesOf x0) (bytesOf x1) (bytesOf x2) (bytesOf x3) w2.heap.size rcZ (w2.alloc (.cells rcZ 24)) := by
          intro w2 h
          have hb := h.bel1.alloc (by have := h.size; omega) (.cells rcZ 24)
          have hsz := h.size
          have hx : Blk (w2.alloc (.cells rcZ 24)) w1.heap.size 38 _ := h.it.alloc _
          exact ⟨h.res.alloc _, hx.cell 2, (hb.cell (p := ⟨_, _, none⟩) hgl).trans pc, (hb.cell (p := ⟨_, _, none⟩) hgl).trans qc, (hb.cell (p := ⟨_, _, none⟩) hgl).trans rc, (hb.cell (p := ⟨_, _, none⟩) hgl).trans sc,
            (pb.below hb).more (by omega), (qb.below hb).more (by omega), (rb.below hb).more (by omega), (sb.below hb).more (by omega), Blk.new w2 _ _, h.bel.alloc (by omega) _, harg.out.below (h.bel.alloc (by omega) _), by omega, by omega, by omega⟩
        have l0 := wordZ_lt x0
        have l1 := wordZ_lt x1
        have l2 := wordZ_lt x2
        have l3 := wordZ_lt x3
        have v0 := wordV_eq x0
        have v1 := wordV_eq x1
        have v2 := wordV_eq x2
        have v3 := wordV_eq x3
        have hd2 : Rc.refDec l = if 9 < wordZ x0 then none else if (Rc.mk (wordZ x0 : Nat) (wordZ x1) (wordZ x2) (wordZ x3)).right = true ∧ (Rc.mk (wordZ x0 : Nat) (wordZ x1) (wordZ x2) (wordZ x3)).bytes = l then some ⟨(wordZ x0 : Nat), wordZ x1, wordZ x2, wordZ x3⟩ else none := hd.out
        generalize wordZ x0 = z0 at *
        generalize wordZ x1 = z1 at *
        generalize wordZ x2 = z2 at *
        generalize wordZ x3 = z3 at *
        generalize (Wd.word (bytesOf x0)).isSome = t0 at *
        generalize (Wd.word (bytesOf x1)).isSome = t1 at *
        generalize (Wd.word (bytesOf x2)).isSome = t2 at *
        generalize (Wd.word (bytesOf x3)).isSome = t3 at *
        replace ht := Lib.hid ht
        replace v0 := Lib.hid v0
        replace v1 := Lib.hid v1
        replace v2 := Lib.hid v2
        replace v3 := Lib.hid v3
        replace hd2 := Lib.hid hd2
        clear pc qc rc sc pb qb rb sb hd hin1 hall1 hv hc1 hm1 hs
        go_wp2_with (first
          | (refine wpList_store_row rfl 38 _ _ rfl w1.heap.size #[.bool true, .slice none 0 0, .slice (some ⟨g, o, none⟩) 4 c1] rfl rfl _ _ (Blk.new w1 38 rowZ) info_item3 rfl (by simp [Value.oneCell']) ?_; refine list_at (DecI w w1 _) hI.out ?_; intro w2 hI2; have g2 : w2.cell? ⟨w1.heap.size, 2, none⟩ = some (.slice (some ⟨g, o, none⟩) 4 c1) := hI2.it.cell 2; have hX0 := ht.out w2 hI2; have k2 : (w2.alloc (.cells #[.int .i64 0, .int .u64 0, .int .u64 0, .int .u64 0] 24)).cell? ⟨w1.heap.size, 2, none⟩ = some (.slice (some ⟨g, o, none⟩) 4 c1) := hX0.it; have k3 : (w2.alloc (.cells #[.int .i64 0, .int .u64 0, .int .u64 0, .int .u64 0] 24)).cell? ⟨g, o + 1, none⟩ = some (.slice p1 p2 p3) := hX0.c0; replace hX0 := Lib.hid hX0; replace hI2 := Lib.hid hI2)
          | fail)
        clear g2 k2 k3 hI ht hgS hd
        have hXz : RdX w w1 A c l g o c1 (p1, p2, p3) (q1, q2, q3) (r1, r2, r3) (s1, s2, s3) (bytesOf x0) (bytesOf x1) (bytesOf x2) (bytesOf x3) w2.heap.size rcZ (w2.alloc (.cells #[.int .i64 0, .int .u64 0, .int .u64 0, .int .u64 0] 24)) := hX0.out
        clear hX0 hI2
        generalize hgr : w2.heap.size = gr at *
        generalize w2.alloc (.cells #[.int .i64 0, .int .u64 0, .int .u64 0, .int .u64 0] 24) = w3 at *
        refine (ref_WRead p1 p2 p3 (bytesOf x0) _ (hXz.b0.more (Nat.le_of_lt hXz.row.lt))).mono ?_
        rintro e wa ⟨rfl, hba⟩
        rw [v0.out]
        have hXa := hXz.read hba
        clear hXz hba hgr
        by_cases hz9 : 9 < z0
        · have hz9' : (9 : Int) < z0 := by omega
          replace hXa := Lib.hid hXa
          have hd3 := hd2.out
          rw [if_pos hz9] at hd3
          replace hd3 := Lib.hid hd3
          have hR4 := hXa.out.res
          go_wp2_with (refine wpList_store_row rfl 24 _ _ rfl w.heap.size rcZ rfl rfl _ _ hR4 info_receipt rfl (by simp [rcZ, Value.oneCell']) ?_)
          refine bodyPost_ret (v := .tuple #[.agg rcZ, .int .i64 180]) (results_row_tmp rfl _ _ w.heap.size _ rcZ _ _ _ rfl rfl (hR4.row _) Try.underlying24 rfl info_receipt) rfl ?_
          exact ⟨by rw [hd3.out]; rfl, below_row hXa.out.bel (Nat.le_refl _) _⟩

        have hz9' : ¬ (9 : Int) < z0 := by omega
        have hzw : IntKind.i64.wrap (z0 : Int) = z0 := by rw [IntKind.wrap_i64]; omega
        have n0 : wa.cell? ⟨gr, 0, none⟩ = some (.int .i64 0) := hXa.row.cell 0
        have f0 := hXa.row.frozen 0
        have hY0 := (hXa.set_ 0 (.int .i64 z0)).eq (show _ = (#[.int .i64 z0, .int .u64 0, .int .u64 0, .int .u64 0] : Array Value) from rfl)
        have k2 : (wa.setCell ⟨gr, 0, none⟩ (.int .i64 z0)).cell? ⟨w1.heap.size, 2, none⟩ = some (.slice (some ⟨g, o, none⟩) 4 c1) := hY0.it
        have k3 : (wa.setCell ⟨gr, 0, none⟩ (.int .i64 z0)).cell? ⟨g, o + 4, none⟩ = some (.slice q1 q2 q3) := hY0.c1
        replace hY0 := Lib.hid hY0
        replace hXa := Lib.hid hXa
        go_wp2_with fail
        refine (ref_WRead q1 q2 q3 (bytesOf x1) _ (hY0.out.b1.more (Nat.le_of_lt hY0.out.row.lt))).mono ?_
        rintro e wb ⟨rfl, hb0⟩
        rw [v1.out]
        have hXb := hY0.out.read hb0
        clear n0 f0 k2 k3 hY0 hXa hb0
        have n1 : wb.cell? ⟨gr, 1, none⟩ = some (.int .u64 0) := hXb.row.cell 1
        have f1 := hXb.row.frozen 1
        have hY1 := (hXb.set_ 1 (.int .u64 z1)).eq (show _ = (#[.int .i64 z0, .int .u64 z1, .int .u64 0, .int .u64 0] : Array Value) from rfl)
        have k2 : (wb.setCell ⟨gr, 1, none⟩ (.int .u64 z1)).cell? ⟨w1.heap.size, 2, none⟩ = some (.slice (some ⟨g, o, none⟩) 4 c1) := hY1.it
        have k3 : (wb.setCell ⟨gr, 1, none⟩ (.int .u64 z1)).cell? ⟨g, o + 7, none⟩ = some (.slice r1 r2 r3) := hY1.c2
        replace hY1 := Lib.hid hY1
        replace hXb := Lib.hid hXb
        go_wp2_with fail
        refine (ref_WRead r1 r2 r3 (bytesOf x2) _ (hY1.out.b2.more (Nat.le_of_lt hY1.out.row.lt))).mono ?_
        rintro e wc ⟨rfl, hb1⟩
        rw [v2.out]
        have hXc := hY1.out.read hb1
        clear n1 f1 k2 k3 hY1 hXb hb1
        have n2 : wc.cell? ⟨gr, 2, none⟩ = some (.int .u64 0) := hXc.row.cell 2
        have f2 := hXc.row.frozen 2
        have hY2 := (hXc.set_ 2 (.int .u64 z2)).eq (show _ = (#[.int .i64 z0, .int .u64 z1, .int .u64 z2, .int .u64 0] : Array Value) from rfl)
        have k2 : (wc.setCell ⟨gr, 2, none⟩ (.int .u64 z2)).cell? ⟨w1.heap.size, 2, none⟩ = some (.slice (some ⟨g, o, none⟩) 4 c1) := hY2.it
        have k3 : (wc.setCell ⟨gr, 2, none⟩ (.int .u64 z2)).cell? ⟨g, o + 10, none⟩ = some (.slice s1 s2 s3) := hY2.c3
        replace hY2 := Lib.hid hY2
        replace hXc := Lib.hid hXc
        go_wp2_with fail
        refine (ref_WRead s1 s2 s3 (bytesOf x3) _ (hY2.out.b3.more (Nat.le_of_lt hY2.out.row.lt))).mono ?_
        rintro e wd ⟨rfl, hb2⟩
        rw [v3.out]
        have hXd := hY2.out.read hb2
        clear n2 f2 k2 k3 hY2 hXc hb2
        have n3 : wd.cell? ⟨gr, 3, none⟩ = some (.int .u64 0) := hXd.row.cell 3
        have f3 := hXd.row.frozen 3
        have hY3 := (hXd.set_ 3 (.int .u64 z3)).eq (show _ = (#[.int .i64 z0, .int .u64 z1, .int .u64 z2, .int .u64 z3] : Array Value) from rfl)
        have hrw := hY3.row
        replace hY3 := Lib.hid hY3
        replace hXd := Lib.hid hXd
        have hreal : (Rc.mk z0 z1 z2 z3).Real := ⟨l1, l2, l3⟩
        have hE := ref_Encode (Rc.mk z0 z1 z2 z3) hreal
        unfold Rc.val at hE
        replace hE := Lib.hid hE
        go_wp2_with (refine wpList_load_row rfl 24 _ rfl gr rfl _ _ _ _ hrw Try.underlying24 rfl info_receipt ?_)
        cases hrt : (Rc.mk z0 z1 z2 z3).right with
        | false =>
          have hE2 := hE.out (wd.setCell ⟨gr, 3, none⟩ (.int .u64 z3))
          rw [hrt, if_neg (by simp)] at hE2
          clear hE hrw n3 f3
          refine hE2.mono ?_
          rintro e wf ⟨A', n', c', rfl, hN⟩
          have hXf := hY3.out.read hN.2.2
          replace hXf := Lib.hid hXf
          clear hE2 hN hY3 hXd
          have hd3 := hd2.out
          rw [if_neg hz9, if_neg (by rw [hrt]; simp)] at hd3
          replace hd3 := Lib.hid hd3
          have hR4 := hXf.out.res
          go_wp2_with (refine wpList_store_row rfl 24 _ _ rfl w.heap.size rcZ rfl rfl _ _ hR4 info_receipt rfl (by simp [rcZ, Value.oneCell']) ?_)
          refine bodyPost_ret (v := .tuple #[.agg rcZ, .int .i64 180]) (results_row_tmp rfl _ _ w.heap.size _ rcZ _ _ _ rfl rfl (hR4.row _) Try.underlying24 rfl info_receipt) rfl ?_
          exact ⟨by rw [hd3.out]; rfl, below_row hXf.out.bel (Nat.le_refl _) _⟩

        | true =>
          have hE2 := hE.out (wd.setCell ⟨gr, 3, none⟩ (.int .u64 z3))
          rw [hrt, if_pos rfl] at hE2
          clear hE hrw n3 f3
          refine hE2.mono ?_
          rintro e wf ⟨A', n', c', rfl, hN⟩
          have hXf := hY3.out.read hN.2.2
          have t1 := hN.bytes.toStr (P := Try.prog) Try.underlying25 Try.underlying5 9 Try.underlying9
          have t2 := hXf.arg.toStr (P := Try.prog) Try.underlying25 Try.underlying5 9 Try.underlying9
          obtain ⟨Bs, hBs⟩ : ∃ Bs, Bs = (Rc.mk z0 z1 z2 z3).bytes := ⟨_, rfl⟩
          rw [← hBs] at t1
          replace hXf := Lib.hid hXf
          clear hE2 hN hY3 hXd
          by_cases hBl : (Rc.mk z0 z1 z2 z3).bytes = l
          · have hd3 := hd2.out
            rw [if_neg hz9, if_pos ⟨hrt, hBl⟩] at hd3
            replace hd3 := Lib.hid hd3
            have hBl2 : Bs = l := hBs.trans hBl
            clear hBs hBl
            subst hBl2
            have hR4 := hXf.out.res
            go_wp2_with (first
              | (refine wpList_load_row rfl 24 _ rfl gr rfl _ _ _ _ hXf.out.row Try.underlying24 rfl info_receipt ?_)
              | (refine wpList_store_row rfl 24 _ _ rfl w.heap.size #[.int .i64 z0, .int .u64 z1, .int .u64 z2, .int .u64 z3] rfl rfl _ _ hR4 info_receipt rfl (by simp [Value.oneCell']) ?_))
            refine bodyPost_ret (v := .tuple #[.agg #[.int .i64 z0, .int .u64 z1, .int .u64 z2, .int .u64 z3], .int .i64 0]) (results_row_tmp rfl _ _ w.heap.size _ #[.int .i64 z0, .int .u64 z1, .int .u64 z2, .int .u64 z3] _ _ _ rfl rfl (hR4.row _) Try.underlying24 rfl info_receipt) rfl ?_
            exact ⟨by rw [hd3.out]; rfl, below_row hXf.out.bel (Nat.le_refl _) _⟩
          · have hne : ¬ Bs = l := fun e => hBl (hBs.symm.trans e)
            have hbq : (Bs == l) = false := by simp [hne]
            clear hBs
            have hcn : ¬ ((Rc.mk z0 z1 z2 z3).right = true ∧ (Rc.mk z0 z1 z2 z3).bytes = l) := fun e => hBl e.2
            have hd4 := hd2.out
            replace hcn := Lib.hid hcn
            replace hBl := Lib.hid hBl
            clear hd4
            have hd3 := hd2.out
            rw [if_neg hz9, if_neg hcn.out] at hd3
            replace hd3 := Lib.hid hd3
            have hR4 := hXf.out.res
            go_wp2_with (refine wpList_store_row rfl 24 _ _ rfl w.heap.size rcZ rfl rfl _ _ hR4 info_receipt rfl (by simp [rcZ, Value.oneCell']) ?_)
            refine bodyPost_ret (v := .tuple #[.agg rcZ, .int .i64 180]) (results_row_tmp rfl _ _ w.heap.size _ rcZ _ _ _ rfl rfl (hR4.row _) Try.underlying24 rfl info_receipt) rfl ?_
            exact ⟨by rw [hd3.out]; rfl, below_row hXf.out.bel (Nat.le_refl _) _⟩

      · have h4' : ¬ (n1 : Int) = 4 := by omega
        have hd2 := Lib.hid (show Rc.refDec l = none by rw [hd.out]; exact Rc.refRead_len l xs (by omega))
        clear hd hn1 hc1 hm1 hin1 hall1
        go_wp2_with (first
          | (refine wpList_store_row rfl 38 _ _ rfl w1.heap.size #[.bool true, .slice none 0 0, .slice A1 n1 c1] rfl rfl _ _ (Blk.new w1 38 rowZ) info_item3 rfl (by simp [Value.oneCell']) ?_; refine list_at (DecI w w1 _) hI.out ?_; intro w2 hI2; have g0 : w2.cell? ⟨w1.heap.size, 0, none⟩ = some (.bool true) := hI2.it.cell 0; have g2 : w2.cell? ⟨w1.heap.size, 2, none⟩ = some (.slice A1 n1 c1) := hI2.it.cell 2; replace hI2 := Lib.hid hI2)
          | (refine wpList_store_row rfl 24 _ _ rfl w.heap.size rcZ rfl rfl _ _ hI2.out.res info_receipt rfl (by simp [rcZ, Value.oneCell']) ?_))
        refine bodyPost_ret (v := .tuple #[.agg rcZ, .int .i64 180]) (results_row_tmp rfl _ _ w.heap.size _ rcZ _ _ _ rfl rfl (hI2.out.res.row _) Try.underlying24 rfl info_receipt) rfl ?_
        exact ⟨by rw [hd2.out]; rfl, below_row hI2.out.bel (Nat.le_refl _) _⟩
end Go.Proofs.Ytcpnfllekpekgaa
