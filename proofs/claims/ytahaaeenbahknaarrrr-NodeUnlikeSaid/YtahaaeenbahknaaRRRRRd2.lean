/-
  The reader of package nest: item, list.
-/
import Derived.Test.YtahaaeenbahknaaRRRRRd1
import Derived.Test.YtahaaeenbahknaaRRRRBy
namespace Go.Proofs.YtahaaeenbahknaaRRRR
open Go.RowKit

set_option maxHeartbeats 1000000 in
theorem clone_bytes (A : Option Addr) (n c B : Nat) (l : List UInt8) (w : World) (h : Bytes w B A n c l) (hB : B ≤ w.heap.size) (hl : l.length ≤ 140737488355328) :
    Calls Try.prog 29 #[.slice A n c] w (PostB w l) := by
  have hlen := h.len
  rcases A with _ | a
  · have hn : l = [] := by
      rcases Nat.eq_zero_or_pos n with h0 | h0
      · exact List.eq_nil_of_length_eq_zero (by omega)
      · obtain ⟨g, o, e, _⟩ := h.reads.2 h0
        cases e
    subst hn
    have hq := Lib.run_eql_slice_nil w 22 5 none 0 c 0 0 Try.underlying22
    subst hlen
    go_enter Try.func29, Try.ntmps29
    go_wp2
    go_ret
    exact ⟨_, _, _, rfl, NewB.none_ w⟩
  · go_enter Try.func29, Try.ntmps29
    have hq := Lib.run_eql_slice_nil w 22 5 (some a) n c 0 0 Try.underlying22
    have ho := own_lit (n := 0) w #[] [] w.heap.size rfl (by simp [maxLen]) (Nat.le_refl _) rfl
    subst hlen
    go_wp2_with (at_builtin; refine wpList_append_u8 rfl _ _ rfl w.heap.size _ 0 [] rfl ho B _ _ _ l rfl (h.alloc hB _) (by omega) (by simp) ?_; intro A1 c1 w1 hown1 hb1)
    rw [List.nil_append, Nat.zero_add] at hown1
    go_ret
    exact ⟨_, _, _, rfl, by simp, by simpa using hown1, ((Below.refl _ _).alloc (Nat.le_refl _) _).trans hb1⟩

theorem clone_nil (w : World) : Calls Try.prog 29 #[.slice none 0 0] w fun e w' => e = .returned (.slice none 0 0) ∧ w = w' := by
  have hq := Lib.run_eql_slice_nil w 22 5 none 0 0 0 0 Try.underlying22
  go_enter Try.func29, Try.ntmps29
  go_wp2
  go_ret
  exact ⟨rfl, rfl⟩
theorem info_item3 : (Try.prog.info? 46).map (·.size) = some 3 := by kernel_rfl
namespace Ns
theorem size_bad {k : Nat} {l : List UInt8} {e : Int} (h : size k l = .error e) : e = 22 ∨ e = 23 := by
  unfold size at h
  split at h
  · cases h
  · split at h
    · cases h; exact .inr rfl
    · split at h
      · cases h; exact .inl rfl
      · split at h
        · cases h; exact .inr rfl
        · cases h
end Ns
/-- what item answers, and list -/
def ItemQ {d : Nat} (x : Except Int (Ns.It (d + 1) × List UInt8)) (g : Nat) (w : World) (e : Ending) (w' : World) : Prop :=
  w.grownBy w' (some g) ∧ match x with
    | .ok (y, r) => ∃ v, e = .returned v ∧ Sits (fun b => w.heap.size ≤ b) w' (d + 1) v y ∧ ∃ A n c, RdIs w' g A n c r
    | .error k => e = .returned itemZ ∧ RdBad w' g k ∧ k ≠ 0
theorem ItemQ.ok {d : Nat} {x : Except Int (Ns.It (d + 1) × List UInt8)} {g : Nat} {w w' : World} {v : Value} {y : Ns.It (d + 1)} {r : List UInt8} (hx : x = .ok (y, r)) (hg : w.grownBy w' (some g))
    (hv : Sits (fun b => w.heap.size ≤ b) w' (d + 1) v y) (hr : ∃ A n c, RdIs w' g A n c r) : ItemQ x g w (.returned v) w' := by
  subst hx; exact ⟨hg, v, rfl, hv, hr⟩
theorem ItemQ.bad {d : Nat} {x : Except Int (Ns.It (d + 1) × List UInt8)} {g : Nat} {w w' : World} {k : Int} (hx : x = .error k) (hg : w.grownBy w' (some g)) (hr : RdBad w' g k) (hk : k ≠ 0) : ItemQ x g w (.returned itemZ) w' := by
  subst hx; exact ⟨hg, rfl, hr, hk⟩
def rowZ : Array Value := #[.bool false, .slice none 0 0, .slice none 0 0]
def ItList (d : Nat) (D : Int) : Prop := ∀ (g : Nat) (c0 : UInt8) (A : Option Addr) (n c : Nat) (l : List UInt8) (w : World), RdIs w g A n c l → 192 ≤ c0.toNat →
  Calls Try.prog 50 #[.pointer (some ⟨g, 0, none⟩), .int .i64 ((c0.toNat : Int) - 192), .int .i64 D] w (ItemQ (Ns.item d (c0 :: l)) g w)
theorem RdIs.row {w : World} {g n c R : Nat} {A : Option Addr} {l : List UInt8} (h : RdIs w g A n c l) (hR : g < R) (cs : Array Value) : RdIs (w.setRow R cs) g A n c l :=
  ⟨h.cells.row_far cs (by omega), h.txt.below (below_row (Below.refl g w) (by omega) cs)⟩
theorem RdIs.below {w w' : World} {g n c B : Nat} {A : Option Addr} {l : List UInt8} (h : RdIs w g A n c l) (hb : Below B w w') (hg : g < B) : RdIs w' g A n c l :=
  ⟨h.cells.below hb hg, h.txt.below (hb.mono (Nat.le_of_lt hg))⟩
theorem Sits.text {S : Nat → Prop} {w : World} {d n c : Nat} {A : Option Addr} {b : List UInt8} (hn : n = b.length) (hc : n ≤ c) (hm : c ≤ maxLen) (h : InS S w 1 A n (bv b)) : Sits S w (d + 1) (txV A n c) (Ns.tx b) :=
  ⟨A, n, c, rfl, hn, hc, hm, h⟩
/-- the end: a text of new bytes -/
theorem item_text {d : Nat} {x : Except Int (Ns.It (d + 1) × List UInt8)} {g m c B : Nat} {w w3 : World} {A : Option Addr} {b r : List UInt8} (hx : x = .ok (Ns.tx b, r)) (hg : g < w.heap.size) (hown : w3.ownsRow B 5 1 (.slice A m c) m (bv b))
    (hB : w.heap.size < B) (hm : m = b.length) (hgr : w.grownBy w3 (some g)) (hr : ∃ A n c, RdIs w3 g A n c r) (cs : Array Value) : ItemQ x g w (.returned (txV A m c)) (w3.setRow w.heap.size cs) := by
  have ho := Own.of_row hown
  refine ItemQ.ok hx (grown_row hgr (Nat.le_refl _) _) (Sits.text hm ho.cap ho.lim ((InS.of_own ho).move (fun g hg1 hg2 => ⟨by omega, setRow_other w3 _ g cs (by omega)⟩) (by simp))) ?_
  obtain ⟨A, n, c, h⟩ := hr
  exact ⟨A, n, c, h.row hg cs⟩
set_option maxHeartbeats 1000000 in
set_option maxRecDepth 100000 in
theorem rd_item_core (d : Nat) (D : Int) (hD : (D = 8 ∧ d = 0) ∨ (D ≠ 8 ∧ 0 < d ∧ ItList d D)) (g : Nat) (A : Option Addr) (n c : Nat) (l : List UInt8) (w : World) (h : RdIs w g A n c l) :
    Calls Try.prog 43 #[.pointer (some ⟨g, 0, none⟩), .int .i64 D] w (ItemQ (Ns.item d l) g w) := by
  have hg := h.cells.lt
  have hr0 : RdIs (w.alloc (.cells rowZ 46)) g A n c l := ⟨h.cells.alloc _, h.txt.alloc (Nat.le_of_lt hg) _⟩
  have hb0 : Blk (w.alloc (.cells rowZ 46)) w.heap.size 46 rowZ := Blk.new w _ _
  have hg0 : w.grownBy (w.alloc (.cells rowZ 46)) (some g) := grown_alloc (World.grownBy.refl w _) _
  clear h
  cases l with
  | nil =>
    have hf := rd_take_no g 1 A n c [] _ hr0 (by simp)
    go_enter Try.func43, Try.ntmps43
    go_wp2_with fail
    refine hf.mono ?_
    rintro e w1 ⟨rfl, hbad, hg1⟩
    have hb1 := hb0.grown hg1 (by omega)
    have hb1l := hb1.lt
    have hgr := hg0.trans hg1
    clear hf hr0 hb0 hg0 hg1
    go_wp2_with (refine wpList_store_row rfl 46 _ _ rfl w.heap.size #[.bool false, .slice none 0 0, .slice none 0 0] rfl rfl _ _ hb1 info_item3 rfl (by simp [Value.oneCell']) ?_)
    go_wp2_with fail
    refine bodyPost_ret (v := .agg #[.bool false, .slice none 0 0, .slice none 0 0]) (results_cell_row rfl _ _ w.heap.size _ #[.bool false, .slice none 0 0, .slice none 0 0] _ _ rfl (hb1.row _) Try.underlying46 rfl info_item3) rfl ?_
    exact ItemQ.bad (Ns.item_nil d) (grown_row hgr (Nat.le_refl _) _) (by obtain ⟨s1, s2, s3, hs⟩ := hbad; exact ⟨s1, s2, s3, hs.row_far _ (by omega)⟩) (by decide)
  | cons c0 l =>
    have hf := rd_take g 1 A n c (c0 :: l) _ hr0 (by simp)
    have htk := hr0.txt.takeN (k := 1) (by have := hr0.txt.len; simp at this; omega)
    go_enter Try.func43, Try.ntmps43
    go_wp2_with fail
    refine hf.mono ?_
    rintro e w1 ⟨rfl, ⟨A1, hr1⟩, hg1⟩
    have hb1 := hb0.grown hg1 (by omega)
    have hb1l := hb1.lt
    have hgr := hg0.trans hg1
    replace htk := htk.grown hg1 (Nat.le_refl _) (by simp; omega)
    clear hf hr0 hb0 hg0 hg1
    have hrd := htk.reads
    clear htk
    obtain ⟨g0, o, u, rfl, _, hx, hc⟩ := hrd.at_ (k := 0) (by omega)
    have hx' : u = .int .u8 (c0.toNat : Int) := by simpa [bv] using hx.symm
    subst hx'
    rw [Nat.add_zero] at hc
    simp only [List.drop_one, List.tail_cons] at hr1
    generalize n - 1 = n1 at hr1
    generalize c - 1 = c1 at hr1
    clear hrd hx
    have hc256 := c0.toNat_lt
    replace hr1 := Lib.hid hr1
    replace hb1 := Lib.hid hb1
    replace hgr := Lib.hid hgr
    replace hD := Lib.hid hD
    by_cases hlow : c0.toNat < 128
    · have hl1 : (c0.toNat : Int) < 128 := by omega
      have hz := Lib.hid (Ns.item_one d c0 l hlow)
      have hown := own_lit (n := 1) w1 #[.int .u8 (c0.toNat : Int)] [c0] w1.heap.size rfl (by simp [maxLen]) (Nat.le_refl _) rfl
      go_wp2_with (refine wpList_store_row rfl 46 _ _ rfl w.heap.size #[.bool false, .slice (some ⟨w1.heap.size, 0, none⟩) 1 1, .slice none 0 0] rfl rfl _ _ (hb1.out.alloc _) info_item3 rfl (by simp [Value.oneCell']) ?_)
      go_wp2_with fail
      refine bodyPost_ret (v := .agg #[.bool false, .slice (some ⟨w1.heap.size, 0, none⟩) 1 1, .slice none 0 0]) (results_cell_row rfl _ _ w.heap.size _ #[.bool false, .slice (some ⟨w1.heap.size, 0, none⟩) 1 1, .slice none 0 0] _ _ rfl ((hb1.out.alloc _).row _) Try.underlying46 rfl info_item3) rfl ?_
      exact item_text hz.out hg hown hb1l rfl (grown_alloc hgr.out _) ⟨_, _, _, hr1.out.cells.alloc _, hr1.out.txt.alloc (by omega) _⟩ _
    by_cases hshort : c0.toNat < 192
    · have hl1 : ¬ (c0.toNat : Int) < 128 := by omega
      have hl2 : ¬ (192 : Int) ≤ (c0.toNat : Int) := by omega
      have e1 : IntKind.i64.wrap ((c0.toNat : Int) - 128) = ((c0.toNat - 128 : Nat) : Int) := by rw [IntKind.wrap_i64]; omega
      have hsz := rd_size g (c0.toNat - 128) A1 n1 c1 l w1 hr1.out (by omega)
      have hx := Ns.item_tx d c0 l hlow hshort
      unfold Ns.textOf at hx
      replace hx := Lib.hid hx
      go_wp2_with fail
      refine hsz.mono ?_
      rintro e w2 ⟨hg2, hq⟩
      have hb2 := Lib.hid (hb1.out.grown hg2 (by omega))
      have hb2l := hb2.out.lt
      have hgr2 := Lib.hid (hgr.out.trans hg2)
      clear hsz hb1 hr1 hgr hg2 hc hb1l e1
      cases hs : Ns.size (c0.toNat - 128) l with
      | error k =>
        rw [hs] at hq
        have hx2 := hx.out
        rw [hs] at hx2
        replace hx2 := Lib.hid hx2
        have hk := Lib.hid (Ns.size_bad hs)
        clear hx hs
        obtain ⟨rfl, hbad⟩ := hq
        go_wp2_with (refine wpList_store_row rfl 46 _ _ rfl w.heap.size #[.bool false, .slice none 0 0, .slice none 0 0] rfl rfl _ _ hb2.out info_item3 rfl (by simp [Value.oneCell']) ?_)
        go_wp2_with fail
        refine bodyPost_ret (v := .agg #[.bool false, .slice none 0 0, .slice none 0 0]) (results_cell_row rfl _ _ w.heap.size _ #[.bool false, .slice none 0 0, .slice none 0 0] _ _ rfl (hb2.out.row _) Try.underlying46 rfl info_item3) rfl ?_
        exact ItemQ.bad hx2.out (grown_row hgr2.out (Nat.le_refl _) _) (by obtain ⟨s1, s2, s3, hs⟩ := hbad; exact ⟨s1, s2, s3, hs.row_far _ (by omega)⟩) (by have := hk.out; omega)
      | ok p =>
        obtain ⟨v, r⟩ := p
        rw [hs] at hq
        have hx2 := hx.out
        rw [hs] at hx2
        replace hx2 := Lib.hid hx2
        have hv24 : v ≤ Ns.maxBytes := (Ns.size_ok (base := 128) (by decide) hs (by omega)).2
        clear hx hs
        obtain ⟨rfl, A2, n2, c2, hr2⟩ := hq
        by_cases hv : r.length < v
        · have hx3 := hx2.out
          simp only [if_pos hv] at hx3
          replace hx3 := Lib.hid hx3
          have hf := rd_take_no g v A2 n2 c2 r w2 hr2 hv
          go_wp2_with fail
          refine hf.mono ?_
          rintro e w3 ⟨rfl, hbad, hg3⟩
          have hb3 := hb2.out.grown hg3 (by omega)
          have hb3l := hb3.lt
          have hgr3 := Lib.hid (hgr2.out.trans hg3)
          clear hf hr2 hgr2 hb2 hg3
          go_wp2_with fail
          refine (clone_nil w3).mono ?_
          rintro e w4 ⟨rfl, rfl⟩
          go_wp2_with (refine wpList_store_row rfl 46 _ _ rfl w.heap.size #[.bool false, .slice none 0 0, .slice none 0 0] rfl rfl _ _ hb3 info_item3 rfl (by simp [Value.oneCell']) ?_)
          go_wp2_with fail
          refine bodyPost_ret (v := .agg #[.bool false, .slice none 0 0, .slice none 0 0]) (results_cell_row rfl _ _ w.heap.size _ #[.bool false, .slice none 0 0, .slice none 0 0] _ _ rfl (hb3.row _) Try.underlying46 rfl info_item3) rfl ?_
          exact ItemQ.bad hx3.out (grown_row hgr3.out (Nat.le_refl _) _) (by obtain ⟨s1, s2, s3, hs⟩ := hbad; exact ⟨s1, s2, s3, hs.row_far _ (by omega)⟩) (by decide)
        · have hf := rd_take g v A2 n2 c2 r w2 hr2 (by omega)
          have htk := hr2.txt.takeN (k := v) (by have := hr2.txt.len; omega)
          have hx3 := hx2.out
          simp only [if_neg hv] at hx3
          replace hx3 := Lib.hid hx3
          clear hx2
          go_wp2_with fail
          refine hf.mono ?_
          rintro e w3 ⟨rfl, ⟨A3, hr3⟩, hg3⟩
          have hb3 := Lib.hid (hb2.out.grown hg3 (by omega))
          have hb3l := hb3.out.lt
          have hgr3 := Lib.hid (hgr2.out.trans hg3)
          replace htk := htk.grown hg3 (Nat.le_refl _) (by omega)
          generalize n2 - v = n3 at hr3
          generalize c2 - v = c3 at hr3
          replace hr3 := Lib.hid hr3
          clear hf hr2 hgr2 hb2 hg3
          by_cases hv1 : v = 1
          · subst hv1
            cases r with
            | nil => simp at hv
            | cons y r =>
            obtain ⟨g4, o4, u, rfl, _, hx, hc⟩ := htk.reads.at_ (k := 0) (by omega)
            have hx' : u = .int .u8 (y.toNat : Int) := by simpa [bv] using hx.symm
            subst hx'
            rw [Nat.add_zero] at hc
            clear hx
            replace htk := Lib.hid htk
            by_cases hy : y.toNat < 128
            · have hy' : (y.toNat : Int) < 128 := by omega
              have hx4 := hx3.out
              rw [if_pos ⟨rfl, hy⟩] at hx4
              replace hx4 := Lib.hid hx4
              clear hx3
              have hf := rd_fail g _ 23 w3 hr3.out.cells
              go_wp2_with fail
              refine hf.mono ?_
              rintro e w4 ⟨rfl, hbad, hg4⟩
              have hb4 := hb3.out.grown hg4 (by omega)
              have hb4l := hb4.lt
              have hgr4 := Lib.hid (hgr3.out.trans hg4)
              clear hf hr3 hgr3 hb3 hg4
              go_wp2_with (refine wpList_store_row rfl 46 _ _ rfl w.heap.size #[.bool false, .slice none 0 0, .slice none 0 0] rfl rfl _ _ hb4 info_item3 rfl (by simp [Value.oneCell']) ?_)
              go_wp2_with fail
              refine bodyPost_ret (v := .agg #[.bool false, .slice none 0 0, .slice none 0 0]) (results_cell_row rfl _ _ w.heap.size _ #[.bool false, .slice none 0 0, .slice none 0 0] _ _ rfl (hb4.row _) Try.underlying46 rfl info_item3) rfl ?_
              exact ItemQ.bad hx4.out (grown_row hgr4.out (Nat.le_refl _) _) ⟨_, _, _, hbad.row_far _ (by omega)⟩ (by decide)
            · have hy' : ¬ (y.toNat : Int) < 128 := by omega
              have hx4 := hx3.out
              rw [if_neg (fun e => hy e.2)] at hx4
              replace hx4 := Lib.hid hx4
              clear hx3
              have hf := clone_bytes _ 1 c2 g _ w3 htk.out (by omega) (by simp)
              go_wp2_with fail
              refine hf.mono ?_
              rintro e w4 ⟨A4, m4, c4, rfl, hm4, hown, hbel⟩
              have hb4 := hb3.out.below hbel hb3l
              have hb4l := hb4.lt
              have hgr4 := Lib.hid (hgr3.out.trans (grown_below hbel))
              have hr4 := hr3.out.below hbel (by omega)
              clear hf hr3 hgr3 hb3
              replace hm4 := Lib.hid hm4
              go_wp2_with (refine wpList_store_row rfl 46 _ _ rfl w.heap.size #[.bool false, .slice A4 m4 c4, .slice none 0 0] rfl rfl _ _ hb4 info_item3 rfl (by simp [Value.oneCell']) ?_)
              go_wp2_with fail
              refine bodyPost_ret (v := .agg #[.bool false, .slice A4 m4 c4, .slice none 0 0]) (results_cell_row rfl _ _ w.heap.size _ #[.bool false, .slice A4 m4 c4, .slice none 0 0] _ _ rfl (hb4.row _) Try.underlying46 rfl info_item3) rfl ?_
              exact item_text hx4.out hg hown hb3l hm4.out hgr4.out ⟨_, _, _, hr4⟩ _
          · have hv1' : ¬ (v : Int) = 1 := by omega
            have hx4 := hx3.out
            rw [if_neg (fun e => hv1 e.1)] at hx4
            replace hx4 := Lib.hid hx4
            clear hx3
            have hf := clone_bytes _ v c2 g _ w3 htk (by omega) (by have := htk.len; unfold Ns.maxBytes at hv24; omega)
            clear htk
            go_wp2_with fail
            refine hf.mono ?_
            rintro e w4 ⟨A4, m4, c4, rfl, hm4, hown, hbel⟩
            have hb4 := hb3.out.below hbel hb3l
            have hb4l := hb4.lt
            have hgr4 := Lib.hid (hgr3.out.trans (grown_below hbel))
            have hr4 := hr3.out.below hbel (by omega)
            clear hf hr3 hgr3 hb3
            replace hm4 := Lib.hid hm4
            go_wp2_with (refine wpList_store_row rfl 46 _ _ rfl w.heap.size #[.bool false, .slice A4 m4 c4, .slice none 0 0] rfl rfl _ _ hb4 info_item3 rfl (by simp [Value.oneCell']) ?_)
            go_wp2_with fail
            refine bodyPost_ret (v := .agg #[.bool false, .slice A4 m4 c4, .slice none 0 0]) (results_cell_row rfl _ _ w.heap.size _ #[.bool false, .slice A4 m4 c4, .slice none 0 0] _ _ rfl (hb4.row _) Try.underlying46 rfl info_item3) rfl ?_
            exact item_text hx4.out hg hown hb3l hm4.out hgr4.out ⟨_, _, _, hr4⟩ _
    · have hl1 : ¬ (c0.toNat : Int) < 128 := by omega
      have hl2 : (192 : Int) ≤ (c0.toNat : Int) := by omega
      have e1 : IntKind.i64.wrap ((c0.toNat : Int) - 192) = (c0.toNat : Int) - 192 := by rw [IntKind.wrap_i64]; omega
      rcases hD.out with ⟨hD8, hd⟩ | ⟨hD8, hd, hlist⟩
      · subst hD8
        subst hd
        have hx := Lib.hid (Ns.item_ls0 c0 l hshort)
        have hf := rd_fail g _ 21 w1 hr1.out.cells
        clear hD
        go_wp2_with fail
        refine hf.mono ?_
        rintro e w4 ⟨rfl, hbad, hg4⟩
        have hb4 := hb1.out.grown hg4 (by omega)
        have hb4l := hb4.lt
        have hgr4 := Lib.hid (hgr.out.trans hg4)
        clear hf hr1 hgr hb1 hg4 hc hb1l
        go_wp2_with (refine wpList_store_row rfl 46 _ _ rfl w.heap.size #[.bool false, .slice none 0 0, .slice none 0 0] rfl rfl _ _ hb4 info_item3 rfl (by simp [Value.oneCell']) ?_)
        go_wp2_with fail
        refine bodyPost_ret (v := .agg #[.bool false, .slice none 0 0, .slice none 0 0]) (results_cell_row rfl _ _ w.heap.size _ #[.bool false, .slice none 0 0, .slice none 0 0] _ _ rfl (hb4.row _) Try.underlying46 rfl info_item3) rfl ?_
        exact ItemQ.bad hx.out (grown_row hgr4.out (Nat.le_refl _) _) ⟨_, _, _, hbad.row_far _ (by omega)⟩ (by decide)
      · have hf := hlist g c0 A1 n1 c1 l w1 hr1.out (by omega)
        clear hlist hD
        go_wp2_with fail
        refine hf.mono ?_
        rintro e w4 ⟨hg4, hq⟩
        have hb4 := hb1.out.grown hg4 (by omega)
        have hb4l := hb4.lt
        have hgr4 := Lib.hid (hgr.out.trans hg4)
        clear hf hr1 hgr hb1 hg4 hc e1
        cases hs : Ns.item d (c0 :: l) with
        | error k =>
          rw [hs] at hq
          replace hs := Lib.hid hs
          obtain ⟨rfl, ⟨s1, s2, s3, hbad⟩, hk⟩ := hq
          replace hk := Lib.hid hk
          go_wp2_with (refine wpList_store_row rfl 46 _ _ rfl w.heap.size #[.bool false, .slice none 0 0, .slice none 0 0] rfl rfl _ _ hb4 info_item3 rfl (by simp [Value.oneCell']) ?_)
          go_wp2_with fail
          refine bodyPost_ret (v := .agg #[.bool false, .slice none 0 0, .slice none 0 0]) (results_cell_row rfl _ _ w.heap.size _ #[.bool false, .slice none 0 0, .slice none 0 0] _ _ rfl (hb4.row _) Try.underlying46 rfl info_item3) rfl ?_
          exact ItemQ.bad hs.out (grown_row hgr4.out (Nat.le_refl _) _) ⟨_, _, _, hbad.row_far _ (by omega)⟩ hk.out
        | ok p =>
          obtain ⟨y, r⟩ := p
          rw [hs] at hq
          replace hs := Lib.hid hs
          obtain ⟨v, rfl, hv, A4, n4, c4, hr4⟩ := hq
          obtain ⟨a, b, c, rfl, _, hone⟩ := hv.cells
          replace hone := Lib.hid hone
          replace hv := Lib.hid hv
          replace hr4 := Lib.hid hr4
          go_wp2_with (refine wpList_store_row rfl 46 _ _ rfl w.heap.size #[a, b, c] rfl rfl _ _ hb4 info_item3 rfl (by have := hone.out; simpa using this) ?_)
          go_wp2_with fail
          refine bodyPost_ret (v := .agg #[a, b, c]) (results_cell_row rfl _ _ w.heap.size _ #[a, b, c] _ _ rfl (hb4.row _) Try.underlying46 rfl info_item3) rfl ?_
          refine ItemQ.ok hs.out (grown_row hgr4.out (Nat.le_refl _) _) (hv.out.move _ _ _ (fun g hg1 hg2 => ⟨by omega, setRow_other w4 _ g _ (by omega)⟩) (by simp)) ⟨_, _, _, hr4.out.row hg _⟩
end Go.Proofs.YtahaaeenbahknaaRRRR
