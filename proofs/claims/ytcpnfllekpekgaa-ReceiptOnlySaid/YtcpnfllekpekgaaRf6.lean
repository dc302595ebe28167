/-
  The reference of chapter 2: first of all bytes, First, Decode.
-/
import Derived.Test.YtcpnfllekpekgaaRf5
namespace Go.Proofs.Ytcpnfllekpekgaa
open Go.RowKit

set_option maxHeartbeats 1000000 in
set_option maxRecDepth 100000 in
theorem first_deep (A : Option Addr) (n c B : Nat) (l : List UInt8) (w : World) (a E : Nat) (h : Bytes w B A n c l) (hB : B ≤ w.heap.size) (haE : a < E) (hE : E ≤ n) (hc1 : 192 ≤ (l[a]'(by have := h.len; omega)).toNat) :
    Calls Try.prog 45 #[.slice A n c, .int .i64 a, .int .i64 E, .int .i64 8] w (FstQ 0 (cutL l a E) E w) := by
  have hlen := h.len
  subst hlen
  have hn63 : (l.length : Int) ≤ 9223372036854775807 := by have := h.cap; have := h.lim; unfold maxLen at *; omega
  have hb0 : Blk (w.alloc (.cells rowZ 38)) w.heap.size 38 rowZ := Blk.new w _ _
  have hbe : Below w.heap.size w (w.alloc (.cells rowZ 38)) := (Below.refl _ _).alloc (Nat.le_refl _) _
  replace hbe := Lib.hid hbe
  replace hb0 := Lib.hid hb0
  have hcc := cutL_cons l a E haE hE
  have hx := Ns.item_ls0 l[a] (cutL l (a + 1) E) (by omega)
  rw [← hcc] at hx
  obtain ⟨g, o, u, rfl, hg, hu, hcl⟩ := h.reads.at_ (k := a) (by omega)
  rw [bv_at l a (by omega)] at hu
  cases hu
  have hcl2 : (w.alloc (.cells #[.bool false, .slice none 0 0, .slice none 0 0] 38)).cell? ⟨g, o + a, none⟩ = some (.int .u8 (l[a].toNat : Int)) := (World.cell?_alloc_lt w _ ⟨g, o + a, none⟩ (by show g < _; omega)).trans hcl
  have hl2 : (192 : Int) ≤ l[a].toNat := by omega
  have h256 : l[a].toNat < 256 := l[a].toNat_lt
  have hlt' : ¬ (E : Int) ≤ a := by omega
  generalize l[a] = y at *
  replace h := Lib.hid h
  replace hcc := Lib.hid hcc
  replace hx := Lib.hid hx
  clear hcl
  go_enter Try.func45, Try.ntmps45
  go_wp2_with (refine wpList_store_row rfl 38 _ _ rfl w.heap.size #[.bool false, .slice none 0 0, .slice none 0 0] rfl rfl _ _ hb0.out info_item3 rfl (by simp [Value.oneCell']) ?_)
  refine bodyPost_ret (v := .tuple #[.agg #[.bool false, .slice none 0 0, .slice none 0 0], .int .i64 0, .int .i64 21]) (results_row_tmps rfl _ _ w.heap.size _ #[.bool false, .slice none 0 0, .slice none 0 0] _ _ _ _ rfl rfl rfl (hb0.out.row _) Try.underlying38 rfl info_item3) rfl ?_
  exact FstQ.bad hx.out (below_row hbe.out (Nat.le_refl _) _) (by decide)
theorem first_all : ∀ (d : Nat), d ≤ 8 → FstC d (8 - d) := by
  intro d
  induction d with
  | zero =>
    intro _ A n c B l w a E h hB haE hE
    have hlen := h.len
    rcases Nat.lt_or_ge a E with hlt | hge
    · rcases Nat.lt_or_ge (l[a]'(by omega)).toNat 128 with h1 | h1
      · refine first_low 0 8 (by omega) A n c B l w a E h hB haE hE (fun y t ht => ?_)
        rw [cutL_cons l a E hlt (by omega)] at ht
        injection ht with ht
        rw [← ht]; exact h1
      · rcases Nat.lt_or_ge (l[a]'(by omega)).toNat 192 with h2 | h2
        · exact first_text 0 8 (by omega) A n c B l w a E h hB hlt hE h1 h2
        · exact first_deep A n c B l w a E h hB hlt hE h2
    · refine first_low 0 8 (by omega) A n c B l w a E h hB haE hE (fun y t ht => ?_)
      obtain rfl : a = E := by omega
      rw [cutL_nil l a (by omega)] at ht
      cases ht
  | succ d ih =>
    intro hd A n c B l w a E h hB haE hE
    have hlen := h.len
    rcases Nat.lt_or_ge a E with hlt | hge
    · rcases Nat.lt_or_ge (l[a]'(by omega)).toNat 128 with h1 | h1
      · refine first_low _ (8 - (d + 1)) (by omega) A n c B l w a E h hB haE hE (fun y t ht => ?_)
        rw [cutL_cons l a E hlt (by omega)] at ht
        injection ht with ht
        rw [← ht]; exact h1
      · rcases Nat.lt_or_ge (l[a]'(by omega)).toNat 192 with h2 | h2
        · exact first_text _ (8 - (d + 1)) (by omega) A n c B l w a E h hB hlt hE h1 h2
        · have hi := ref_items d _ (ih (by omega))
          rw [show 8 - d = 8 - (d + 1) + 1 by omega] at hi
          exact first_list d (8 - (d + 1)) (by omega) hi A n c B l w a E h hB hlt hE h2
    · refine first_low _ (8 - (d + 1)) (by omega) A n c B l w a E h hB haE hE (fun y t ht => ?_)
      obtain rfl : a = E := by omega
      rw [cutL_nil l a (by omega)] at ht
      cases ht
set_option maxHeartbeats 1000000 in
set_option maxRecDepth 100000 in
theorem ref_First (A : Option Addr) (n c : Nat) (l : List UInt8) (w : World) (h : Bytes w w.heap.size A n c l) :
    Calls Try.prog 36 #[.slice A n c] w (FirstQ l w) := by
  have hlen := h.len
  subst hlen
  have hs0 : (w.alloc (.cells rowZ 38)).heap.size = w.heap.size + 1 := by simp
  have hf := first_all 8 (Nat.le_refl _) A l.length c w.heap.size l (w.alloc (.cells rowZ 38)) 0 l.length (h.alloc (Nat.le_refl _) _) (by omega) (Nat.zero_le _) (Nat.le_refl _)
  have hb0 : Blk (w.alloc (.cells rowZ 38)) w.heap.size 38 rowZ := Blk.new w _ _
  have hbe : Below w.heap.size w (w.alloc (.cells rowZ 38)) := (Below.refl _ _).alloc (Nat.le_refl _) _
  rw [show cutL l 0 l.length = l by unfold cutL; simp, show ((8 - 8 : Nat) : Int) = 0 from rfl] at hf
  go_enter Try.func36, Try.ntmps36
  go_wp2_with fail
  refine hf.mono ?_
  rintro e w1 ⟨hbe1, hq⟩
  have hb1 := hb0.below hbe1 (by omega)
  have hbw := hbe.trans (hbe1.mono (by omega))
  clear hf hb0 hbe
  cases hx : Ns.item 8 l with
  | error k =>
    rw [hx] at hq
    obtain ⟨rfl, hk⟩ := hq
    replace hx := Lib.hid hx
    rw [show itemZ = .agg #[.bool false, .slice none 0 0, .slice none 0 0] from rfl]
    go_wp2_with (refine wpList_store_row rfl 38 _ _ rfl w.heap.size #[.bool false, .slice none 0 0, .slice none 0 0] rfl rfl _ _ hb1 info_item3 rfl (by simp [Value.oneCell']) ?_)
    refine bodyPost_ret (v := .tuple #[.agg #[.bool false, .slice none 0 0, .slice none 0 0], .int .i64 0, .int .i64 k]) (results_row_tmps rfl _ _ w.heap.size _ #[.bool false, .slice none 0 0, .slice none 0 0] _ _ _ _ rfl rfl rfl (hb1.row _) Try.underlying38 rfl info_item3) rfl ?_
    refine ⟨below_row hbw (Nat.le_refl _) _, ?_⟩
    rw [hx.out]
    exact ⟨rfl, hk⟩
  | ok p =>
    obtain ⟨x, r⟩ := p
    rw [hx] at hq
    obtain ⟨v, rfl, hv⟩ := hq
    obtain ⟨a, b, cc, rfl, _, hone⟩ := hv.cells
    replace hx := Lib.hid hx
    replace hv := Lib.hid hv
    go_wp2_with (refine wpList_store_row rfl 38 _ _ rfl w.heap.size #[a, b, cc] rfl rfl _ _ hb1 info_item3 rfl (by simpa using hone) ?_)
    refine bodyPost_ret (v := .tuple #[.agg #[a, b, cc], .int .i64 _, .int .i64 0]) (results_row_tmps rfl _ _ w.heap.size _ #[a, b, cc] _ _ _ _ rfl rfl rfl (hb1.row _) Try.underlying38 rfl info_item3) rfl ?_
    refine ⟨below_row hbw (Nat.le_refl _) _, ?_⟩
    rw [hx.out]
    exact ⟨_, rfl, hv.out.move _ _ _ (fun q h1 h2 => ⟨by omega, setRow_other w1 _ q _ (by omega)⟩) (by simp)⟩
set_option maxHeartbeats 1000000 in
set_option maxRecDepth 100000 in
theorem ref_Decode02 (A : Option Addr) (n c : Nat) (l : List UInt8) (w : World) (h : Bytes w w.heap.size A n c l) :
    Calls Try.prog 22 #[.slice A n c] w (DecQ l w) := by
  have hf := ref_First A n c l _ ((h.alloc (Nat.le_refl _) (.cells rowZ 38)).more (show w.heap.size ≤ (w.alloc (.cells rowZ 38)).heap.size by simp))
  have hb0 : Blk (w.alloc (.cells rowZ 38)) w.heap.size 38 rowZ := Blk.new w _ _
  have hbe : Below w.heap.size w (w.alloc (.cells rowZ 38)) := (Below.refl _ _).alloc (Nat.le_refl _) _
  have hlen := h.len
  subst hlen
  clear h
  go_enter Try.func22, Try.ntmps22
  go_wp2_with fail
  refine hf.mono ?_
  rintro e w1 ⟨hbel, hq⟩
  have hs := hbel.size
  have hs0 : (w.alloc (.cells rowZ 38)).heap.size = w.heap.size + 1 := by simp
  have hb1 := hb0.below hbel (by omega)
  have hbe1 := hbe.trans (hbel.mono (by omega))
  clear hb0 hbe hbel hf
  cases hx : Ns.item 8 l with
  | error k =>
    rw [hx] at hq
    obtain ⟨rfl, hk⟩ := hq
    have hd := Lib.hid (show Ns.dec l = .error k by unfold Ns.dec; rw [hx])
    clear hx
    have hR : Blk ((w1.alloc (.cells rowZ 38)).setRow w1.heap.size #[.bool false, .slice none 0 0, .slice none 0 0]) w.heap.size 38 rowZ := (first_keep w1 _ _ (by omega)).trans hb1
    replace hR := Lib.hid hR
    clear hb1
    rw [show itemZ = .agg #[.bool false, .slice none 0 0, .slice none 0 0] from rfl]
    go_wp2_with (first
      | (refine wpList_store_row rfl 38 _ _ rfl w1.heap.size #[.bool false, .slice none 0 0, .slice none 0 0] rfl rfl _ _ (Blk.new w1 38 rowZ) info_item3 rfl (by simp [Value.oneCell']) ?_)
      | (refine wpList_load_row rfl 38 _ rfl w1.heap.size rfl _ _ _ _ ((Blk.new w1 38 rowZ).row #[.bool false, .slice none 0 0, .slice none 0 0]) Try.underlying38 rfl info_item3 ?_)
      | (refine wpList_store_row rfl 38 _ _ rfl w.heap.size #[.bool false, .slice none 0 0, .slice none 0 0] rfl rfl _ _ hR.out info_item3 rfl (by simp [Value.oneCell']) ?_))
    refine bodyPost_ret (v := .tuple #[itemZ, .int .i64 k]) (results_row_tmp rfl _ _ w.heap.size _ #[.bool false, .slice none 0 0, .slice none 0 0] _ _ _ rfl rfl (hR.out.row _) Try.underlying38 rfl info_item3) rfl ?_
    refine ⟨below_row (below_row (hbe1.alloc (by omega) _) (by omega) _) (Nat.le_refl _) _, ?_⟩
    rw [hd.out]
    exact ⟨rfl, hk⟩
  | ok p =>
    obtain ⟨x, r⟩ := p
    rw [hx] at hq
    obtain ⟨v, rfl, hv⟩ := hq
    have hlr := Ns.item_shorter hx
    obtain ⟨a, b, cc, rfl, _, h1⟩ := hv.cells
    have hR : Blk ((w1.alloc (.cells rowZ 38)).setRow w1.heap.size #[a, b, cc]) w.heap.size 38 rowZ := (first_keep w1 _ _ (by omega)).trans hb1
    replace hR := Lib.hid hR
    clear hb1
    replace hv := Lib.hid hv
    cases r with
    | nil =>
      have hd := Lib.hid (show Ns.dec l = .ok x by unfold Ns.dec; rw [hx])
      have hnl : ¬ ((l.length - ([] : List UInt8).length : Nat) : Int) < (l.length : Int) := by simp
      clear hx
      go_wp2_with (first
      | (refine wpList_store_row rfl 38 _ _ rfl w1.heap.size #[a, b, cc] rfl rfl _ _ (Blk.new w1 38 rowZ) info_item3 rfl (by simpa using h1) ?_)
      | (refine wpList_load_row rfl 38 _ rfl w1.heap.size rfl _ _ _ _ ((Blk.new w1 38 rowZ).row #[a, b, cc]) Try.underlying38 rfl info_item3 ?_)
      | (refine wpList_store_row rfl 38 _ _ rfl w.heap.size #[a, b, cc] rfl rfl _ _ hR.out info_item3 rfl (by simpa using h1) ?_))
      refine bodyPost_ret (v := .tuple #[.agg #[a, b, cc], .int .i64 0]) (results_row_tmp rfl _ _ w.heap.size _ #[a, b, cc] _ _ _ rfl rfl (hR.out.row _) Try.underlying38 rfl info_item3) rfl ?_
      refine ⟨below_row (below_row (hbe1.alloc (by omega) _) (by omega) _) (Nat.le_refl _) _, ?_⟩
      rw [hd.out]
      refine ⟨_, rfl, hv.out.move _ _ _ (fun q h1 h2 => ?_) (by simp)⟩
      rw [hs0] at h1
      exact ⟨by omega, (setRow_other _ _ q _ (by omega)).trans (first_keep w1 _ q h2)⟩
    | cons y r =>
      have hd := Lib.hid (show Ns.dec l = .error 24 by unfold Ns.dec; rw [hx])
      have hnl : ((l.length - (y :: r).length : Nat) : Int) < (l.length : Int) := by simp at hlr ⊢; omega
      clear hx
      go_wp2_with (first
      | (refine wpList_store_row rfl 38 _ _ rfl w1.heap.size #[a, b, cc] rfl rfl _ _ (Blk.new w1 38 rowZ) info_item3 rfl (by simpa using h1) ?_)
      | (refine wpList_load_row rfl 38 _ rfl w1.heap.size rfl _ _ _ _ ((Blk.new w1 38 rowZ).row #[a, b, cc]) Try.underlying38 rfl info_item3 ?_)
      | (refine wpList_store_row rfl 38 _ _ rfl w.heap.size #[.bool false, .slice none 0 0, .slice none 0 0] rfl rfl _ _ hR.out info_item3 rfl (by simp [Value.oneCell']) ?_))
      refine bodyPost_ret (v := .tuple #[itemZ, .int .i64 24]) (results_row_tmp rfl _ _ w.heap.size _ #[.bool false, .slice none 0 0, .slice none 0 0] _ _ _ rfl rfl (hR.out.row _) Try.underlying38 rfl info_item3) rfl ?_
      refine ⟨below_row (below_row (hbe1.alloc (by omega) _) (by omega) _) (Nat.le_refl _) _, ?_⟩
      rw [hd.out]
      exact ⟨rfl, by decide⟩
end Go.Proofs.Ytcpnfllekpekgaa
