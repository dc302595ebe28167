/-
  The reference of chapter 2: first, of texts.
-/
import Derived.Test.YtcpnfllekpekgaaRf2
namespace Go.Proofs.Ytcpnfllekpekgaa
open Go.RowKit

theorem fst_slice {w : World} {B c g o a v E : Nat} {l : List UInt8} (hb : Bytes w B (some ⟨g, o, none⟩) l.length c l) (hE : E ≤ l.length) (hv : a + v ≤ E) (hc : c ≠ a) : Bytes w B (some ⟨g, o + a, none⟩) v (c - a) ((cutL l a E).take v) := by
  have h1 := (hb.cutIf (k := a) (by omega)).takeN (k := v) (by omega)
  rw [if_neg hc, Option.map_some, add_mk, show (l.drop a).take v = (cutL l a E).take v from by rw [cutL_take l a E v hv]; unfold cutL; rw [List.take_drop]] at h1
  exact h1
theorem fst_slice0 {w : World} {B c g o a v E : Nat} {l : List UInt8} (hb : Bytes w B (some ⟨g, o, none⟩) l.length c l) (hE : E ≤ l.length) (hv : a + v ≤ E) (hc : c = a) : Bytes w B (some ⟨g, o, none⟩) v 0 ((cutL l a E).take v) := by
  have h1 := (hb.cutIf (k := a) (by omega)).takeN (k := v) (by omega)
  rw [if_pos hc, show (l.drop a).take v = (cutL l a E).take v from by rw [cutL_take l a E v hv]; unfold cutL; rw [List.take_drop], show c - a = 0 by omega] at h1
  exact h1
set_option maxHeartbeats 4000000 in
set_option maxRecDepth 100000 in
theorem first_text (d D : Nat) (hD : D ≤ 8) (A : Option Addr) (n c B : Nat) (l : List UInt8) (w : World) (a E : Nat) (h : Bytes w B A n c l) (hB : B ≤ w.heap.size) (haE : a < E) (hE : E ≤ n) (hc1 : 128 ≤ (l[a]'(by have := h.len; omega)).toNat) (hc2 : (l[a]'(by have := h.len; omega)).toNat < 192) :
    Calls Try.prog 45 #[.slice A n c, .int .i64 a, .int .i64 E, .int .i64 D] w (FstQ d (cutL l a E) E w) := by
  have hlen := h.len
  subst hlen
  have hn63 : (l.length : Int) ≤ 9223372036854775807 := by have := h.cap; have := h.lim; unfold maxLen at *; omega
  have hn46 : l.length ≤ maxLen := by have := h.cap; have := h.lim; omega
  have hcap : (l.length : Int) ≤ c := by have := h.cap; omega
  have hb0 : Blk (w.alloc (.cells rowZ 38)) w.heap.size 38 rowZ := Blk.new w _ _
  have hbe : Below w.heap.size w (w.alloc (.cells rowZ 38)) := (Below.refl _ _).alloc (Nat.le_refl _) _
  have hs0 : (w.alloc (.cells rowZ 38)).heap.size = w.heap.size + 1 := by simp
  have hb := (h.alloc hB (.cells rowZ 38))
  replace hbe := Lib.hid hbe
  replace hb0 := Lib.hid hb0
  replace hs0 := Lib.hid hs0
  have hcc := cutL_cons l a E haE hE
  have hx := Ns.item_tx d l[a] (cutL l (a + 1) E) (by omega) hc2
  rw [← hcc] at hx
  unfold Ns.textOf at hx
  obtain ⟨g, o, u, rfl, hg, hu, hcl⟩ := h.reads.at_ (k := a) (by omega)
  rw [bv_at l a (by omega)] at hu
  cases hu
  have hcl2 : (w.alloc (.cells #[.bool false, .slice none 0 0, .slice none 0 0] 38)).cell? ⟨g, o + a, none⟩ = some (.int .u8 (l[a].toNat : Int)) := (World.cell?_alloc_lt w _ ⟨g, o + a, none⟩ (by show g < _; omega)).trans hcl
  have ha1 : IntKind.i64.wrap ((a : Int) + 1) = ((a + 1 : Nat) : Int) := by rw [IntKind.wrap_i64]; omega
  have hl1 : ¬ (l[a].toNat : Int) < 128 := by omega
  have hl2 : ¬ (192 : Int) ≤ l[a].toNat := by omega
  have hN : IntKind.i64.wrap ((l[a].toNat : Int) - 128) = ((l[a].toNat - 128 : Nat) : Int) := by rw [IntKind.wrap_i64]; omega
  have hN63 : l[a].toNat - 128 ≤ 63 := by have := l[a].toNat_lt; omega
  have hlt' : ¬ (E : Int) ≤ a := by omega
  generalize l[a] = y at *
  obtain ⟨N, hNe⟩ : ∃ N, N = y.toNat - 128 := ⟨_, rfl⟩
  rw [← hNe] at hN hx hN63
  replace hNe := Lib.hid hNe
  replace h := Lib.hid h
  replace hcc := Lib.hid hcc
  replace hb := Lib.hid hb
  clear hcl
  go_enter Try.func45, Try.ntmps45
  by_cases h55 : N ≤ 55
  · have hsz : Ns.size N (cutL l (a + 1) E) = .ok (N, cutL l (a + 1) E) := by unfold Ns.size; rw [if_pos h55]
    rw [hsz] at hx
    simp only at hx
    have h55' : (N : Int) ≤ 55 := by omega
    clear hsz
    replace hx := Lib.hid hx
    have hRl := Lib.hid (cutL_len l (a + 1) E hE)
    by_cases hv : (cutL l (a + 1) E).length < N
    · have hx2 := hx.out
      rw [if_pos hv] at hx2
      replace hx2 := Lib.hid hx2
      have hv' : (E : Int) - ((a + 1 : Nat) : Int) < ((N : Nat) : Int) := by rw [hRl.out] at hv; omega
      have hEw : IntKind.i64.wrap ((E : Int) - ((a + 1 : Nat) : Int)) = (E : Int) - ((a + 1 : Nat) : Int) := by rw [IntKind.wrap_i64]; omega
      clear hv hx
      go_wp2_with (refine wpList_store_row rfl 38 _ _ rfl w.heap.size #[.bool false, .slice none 0 0, .slice none 0 0] rfl rfl _ _ hb0.out info_item3 rfl (by simp [Value.oneCell']) ?_)
      refine bodyPost_ret (v := .tuple #[.agg #[.bool false, .slice none 0 0, .slice none 0 0], .int .i64 0, .int .i64 22]) (results_row_tmps rfl _ _ w.heap.size _ #[.bool false, .slice none 0 0, .slice none 0 0] _ _ _ _ rfl rfl rfl (hb0.out.row _) Try.underlying38 rfl info_item3) rfl ?_
      exact FstQ.bad (hx2).out (below_row hbe.out (Nat.le_refl _) _) (by decide)

    · have hx2 := hx.out
      rw [if_neg hv] at hx2
      replace hx2 := Lib.hid hx2
      have hv0 : a + 1 + N ≤ E := by rw [hRl.out] at hv; omega
      have hv' : ¬ (E : Int) - ((a + 1 : Nat) : Int) < ((N : Nat) : Int) := by omega
      have hEw : IntKind.i64.wrap ((E : Int) - ((a + 1 : Nat) : Int)) = (E : Int) - ((a + 1 : Nat) : Int) := by rw [IntKind.wrap_i64]; omega
      clear hv hx
      by_cases hv1 : N = 1
      · have hcy := cutL_cons l (a + 1) E (by omega) hE
        obtain ⟨g5, o5, u5, he5, hg5, hu5, hcl5⟩ := hb.out.reads.at_ (k := a + 1) (by omega)
        simp only [Option.some.injEq, Addr.mk.injEq, and_true] at he5
        obtain ⟨rfl, rfl⟩ := he5
        rw [bv_at l (a + 1) (by omega)] at hu5
        cases hu5
        have hcl6 : (w.alloc (.cells #[.bool false, .slice none 0 0, .slice none 0 0] 38)).cell? ⟨g, o + (a + 1), none⟩ = some (.int .u8 ((l[a + 1]'(by omega)).toNat : Int)) := hcl5
        have hr1 : Ns.encT.rd1 (cutL l (a + 1) E) = (l[a + 1]'(by omega)).toNat := by rw [hcy]; rfl
        have hy256 := (l[a + 1]'(by omega)).toNat_lt
        generalize (l[a + 1]'(by omega)).toNat = y2 at *
        clear hcl5
        replace hcy := Lib.hid hcy
        subst hv1
        by_cases hy : y2 < 128
        · have hx3 := hx2.out
          rw [if_pos ⟨rfl, by rw [hr1]; exact hy⟩] at hx3
          replace hx3 := Lib.hid hx3
          have hy' : (y2 : Int) < 128 := by omega
          clear hx2 hr1
          go_wp2_with (refine wpList_store_row rfl 38 _ _ rfl w.heap.size #[.bool false, .slice none 0 0, .slice none 0 0] rfl rfl _ _ hb0.out info_item3 rfl (by simp [Value.oneCell']) ?_)
          refine bodyPost_ret (v := .tuple #[.agg #[.bool false, .slice none 0 0, .slice none 0 0], .int .i64 0, .int .i64 23]) (results_row_tmps rfl _ _ w.heap.size _ #[.bool false, .slice none 0 0, .slice none 0 0] _ _ _ _ rfl rfl rfl (hb0.out.row _) Try.underlying38 rfl info_item3) rfl ?_
          exact FstQ.bad (hx3).out (below_row hbe.out (Nat.le_refl _) _) (by decide)

        · have hx3 := hx2.out
          rw [if_neg (fun e => hy (by rw [← hr1]; exact e.2))] at hx3
          replace hx3 := Lib.hid hx3
          have hy' : ¬ (y2 : Int) < 128 := by omega
          clear hx2 hr1
          have hbl := Lib.hid (show ((cutL l (a + 1) E).take (1)).length = 1 by rw [List.length_take, hRl.out]; omega)
          have hcat : ¬ c = a + 1 := by omega
          have hby := Lib.hid (fst_slice hb.out hE (a := a + 1) (v := 1) (by omega) hcat)
          clear hb
          have hf := ref_copied _ _ _ _ _ _ hby.out (by rw [hs0.out]; omega) (by rw [hbl.out]; omega)
          go_wp2_with fail
          refine hf.mono ?_
          rintro e w2 ⟨A2, m2, c2, rfl, hN⟩
          have hs0' := hs0.out
          have hb2 := hb0.out.below hN.2.2 (by omega)
          have hbe2 := hbe.out.trans (hN.2.2.mono (by omega))
          replace hN := Lib.hid hN
          replace hbe2 := Lib.hid hbe2
          clear hf
          go_wp2_with (refine wpList_store_row rfl 38 _ _ rfl w.heap.size #[.bool false, .slice A2 m2 c2, .slice none 0 0] rfl rfl _ _ hb2 info_item3 rfl (by simp [Value.oneCell']) ?_)
          refine bodyPost_ret (v := .tuple #[.agg #[.bool false, .slice A2 m2 c2, .slice none 0 0], .int .i64 _, .int .i64 0]) (results_row_tmps rfl _ _ w.heap.size _ #[.bool false, .slice A2 m2 c2, .slice none 0 0] _ _ _ _ rfl rfl rfl (hb2.row _) Try.underlying38 rfl info_item3) rfl ?_
          exact fst_text hx3.out hN.out.2.1 (by omega) hN.out.1 hbe2.out (by rw [List.length_drop, hRl.out]; omega) _


      · have hv1' : ¬ ((N : Nat) : Int) = 1 := by omega
        have hx3 := hx2.out
        rw [if_neg (fun e => hv1 e.1)] at hx3
        replace hx3 := Lib.hid hx3
        clear hx2
        have hbl := Lib.hid (show ((cutL l (a + 1) E).take (N)).length = N by rw [List.length_take, hRl.out]; omega)
        by_cases hcat : c = a + 1
        · have hby := Lib.hid (fst_slice0 hb.out hE (a := a + 1) (v := N) (by omega) hcat)
          subst hcat
          clear hb
          have hf := ref_copied _ _ _ _ _ _ hby.out (by rw [hs0.out]; omega) (by rw [hbl.out]; omega)
          go_wp2_with fail
          refine hf.mono ?_
          rintro e w2 ⟨A2, m2, c2, rfl, hN⟩
          have hs0' := hs0.out
          have hb2 := hb0.out.below hN.2.2 (by omega)
          have hbe2 := hbe.out.trans (hN.2.2.mono (by omega))
          replace hN := Lib.hid hN
          replace hbe2 := Lib.hid hbe2
          clear hf
          go_wp2_with (refine wpList_store_row rfl 38 _ _ rfl w.heap.size #[.bool false, .slice A2 m2 c2, .slice none 0 0] rfl rfl _ _ hb2 info_item3 rfl (by simp [Value.oneCell']) ?_)
          refine bodyPost_ret (v := .tuple #[.agg #[.bool false, .slice A2 m2 c2, .slice none 0 0], .int .i64 _, .int .i64 0]) (results_row_tmps rfl _ _ w.heap.size _ #[.bool false, .slice A2 m2 c2, .slice none 0 0] _ _ _ _ rfl rfl rfl (hb2.row _) Try.underlying38 rfl info_item3) rfl ?_
          exact fst_text hx3.out hN.out.2.1 (by omega) hN.out.1 hbe2.out (by rw [List.length_drop, hRl.out]; omega) _

        · have hby := Lib.hid (fst_slice hb.out hE (a := a + 1) (v := N) (by omega) hcat)
          clear hb
          have hf := ref_copied _ _ _ _ _ _ hby.out (by rw [hs0.out]; omega) (by rw [hbl.out]; omega)
          go_wp2_with fail
          refine hf.mono ?_
          rintro e w2 ⟨A2, m2, c2, rfl, hN⟩
          have hs0' := hs0.out
          have hb2 := hb0.out.below hN.2.2 (by omega)
          have hbe2 := hbe.out.trans (hN.2.2.mono (by omega))
          replace hN := Lib.hid hN
          replace hbe2 := Lib.hid hbe2
          clear hf
          go_wp2_with (refine wpList_store_row rfl 38 _ _ rfl w.heap.size #[.bool false, .slice A2 m2 c2, .slice none 0 0] rfl rfl _ _ hb2 info_item3 rfl (by simp [Value.oneCell']) ?_)
          refine bodyPost_ret (v := .tuple #[.agg #[.bool false, .slice A2 m2 c2, .slice none 0 0], .int .i64 _, .int .i64 0]) (results_row_tmps rfl _ _ w.heap.size _ #[.bool false, .slice A2 m2 c2, .slice none 0 0] _ _ _ _ rfl rfl rfl (hb2.row _) Try.underlying38 rfl info_item3) rfl ?_
          exact fst_text hx3.out hN.out.2.1 (by omega) hN.out.1 hbe2.out (by rw [List.length_drop, hRl.out]; omega) _



  by_cases h58 : 58 < N
  · have hsz : Ns.size N (cutL l (a + 1) E) = .error 23 := by unfold Ns.size; rw [if_neg h55, if_pos h58]
    rw [hsz] at hx
    simp only at hx
    have h58' : (58 : Int) < N := by omega
    clear hsz
    replace hx := Lib.hid hx
    go_wp2_with (refine wpList_store_row rfl 38 _ _ rfl w.heap.size #[.bool false, .slice none 0 0, .slice none 0 0] rfl rfl _ _ hb0.out info_item3 rfl (by simp [Value.oneCell']) ?_)
    refine bodyPost_ret (v := .tuple #[.agg #[.bool false, .slice none 0 0, .slice none 0 0], .int .i64 0, .int .i64 23]) (results_row_tmps rfl _ _ w.heap.size _ #[.bool false, .slice none 0 0, .slice none 0 0] _ _ _ _ rfl rfl rfl (hb0.out.row _) Try.underlying38 rfl info_item3) rfl ?_
    exact FstQ.bad (hx).out (below_row hbe.out (Nat.le_refl _) _) (by decide)

  obtain ⟨m, hNm⟩ : ∃ m, m = N - 55 := ⟨_, rfl⟩
  have h55' : ¬ (N : Int) ≤ 55 := by omega
  have h58' : ¬ (58 : Int) < (N : Int) := by omega
  have hmw : IntKind.i64.wrap ((N : Int) - 55) = (m : Int) := by rw [IntKind.wrap_i64]; omega
  have hR0 := cutL_len l (a + 1) E hE
  have hm1 : 0 < m := by omega
  have hm3 : m ≤ 3 := by omega
  have hEw0 : IntKind.i64.wrap ((E : Int) - ((a + 1 : Nat) : Int)) = (E : Int) - ((a + 1 : Nat) : Int) := by rw [IntKind.wrap_i64]; omega
  by_cases hsh : (cutL l (a + 1) E).length < m
  · have hsz : Ns.size N (cutL l (a + 1) E) = .error 22 := by unfold Ns.size; rw [if_neg h55, if_neg h58, ← hNm, if_pos hsh]
    rw [hsz] at hx
    simp only at hx
    have hsh' : (E : Int) - ((a + 1 : Nat) : Int) < (m : Int) := by omega
    clear hsz hsh hR0 h55 h58
    replace hNm := Lib.hid hNm
    replace hx := Lib.hid hx
    go_wp2_with (refine wpList_store_row rfl 38 _ _ rfl w.heap.size #[.bool false, .slice none 0 0, .slice none 0 0] rfl rfl _ _ hb0.out info_item3 rfl (by simp [Value.oneCell']) ?_)
    refine bodyPost_ret (v := .tuple #[.agg #[.bool false, .slice none 0 0, .slice none 0 0], .int .i64 0, .int .i64 22]) (results_row_tmps rfl _ _ w.heap.size _ #[.bool false, .slice none 0 0, .slice none 0 0] _ _ _ _ rfl rfl rfl (hb0.out.row _) Try.underlying38 rfl info_item3) rfl ?_
    exact FstQ.bad (hx).out (below_row hbe.out (Nat.le_refl _) _) (by decide)

  have hsz : Ns.size N (cutL l (a + 1) E) = if Wd.tight (cutL l (a + 1) (a + 1 + m)) = false ∨ Wd.rd (cutL l (a + 1) (a + 1 + m)) ≤ 55 then .error 23 else .ok (Wd.rd (cutL l (a + 1) (a + 1 + m)), cutL l (a + 1 + m) E) := by
    unfold Ns.size
    rw [if_neg h55, if_neg h58, ← hNm, if_neg hsh, cutL_take l (a + 1) E m (by omega), cutL_drop]
  have hmE : a + 1 + m ≤ E := by omega
  replace hNm := Lib.hid hNm
  clear h55 h58
  have htl := cutL_len l (a + 1) (a + 1 + m) (by omega)
  rw [show a + 1 + m - (a + 1) = m by omega] at htl
  have htat : ∀ k (hk : k < m), (cutL l (a + 1) (a + 1 + m))[k]? = some (l[a + 1 + k]'(Nat.lt_of_lt_of_le (Nat.add_lt_add_left hk _) (Nat.le_trans hmE hE))) := fun k hk => cutL_at l (a + 1) (a + 1 + m) k (by omega) (by omega)
  obtain ⟨t, ht⟩ : ∃ t, t = cutL l (a + 1) (a + 1 + m) := ⟨_, rfl⟩
  rw [← ht] at hsz htl htat
  rw [hsz] at hx
  have hsh' : ¬ (E : Int) - ((a + 1 : Nat) : Int) < (m : Int) := by omega
  clear hsz hsh hR0
  replace ht := Lib.hid ht
  replace hx := Lib.hid hx
  replace htl := Lib.hid htl
  replace htat := Lib.hid htat
  go_wp2_with fail
  go_loop [13, 15] (fun n i => ∃ k : Nat, k ≤ m ∧ i = .int .i64 k ∧ n = .int .i64 (Wd.rd (t.take k) : Nat)) (fun _ i => m - (intOf i).toNat)
  case atStart => exact ⟨0, Nat.zero_le _, rfl, rfl⟩
  case round =>
    obtain ⟨k, hk, rfl, rfl⟩ := hrel
    by_cases hlt : k < m
    · obtain ⟨g5, o5, u5, he5, hg5, hu5, hcl5⟩ := hb.out.reads.at_ (k := a + 1 + k) (by omega)
      simp only [Option.some.injEq, Addr.mk.injEq, and_true] at he5
      obtain ⟨rfl, rfl⟩ := he5
      rw [bv_at l (a + 1 + k) (by omega)] at hu5
      cases hu5
      have hkt : k < t.length := by rw [htl.out]; exact hlt
      have htk : t[k] = l[a + 1 + k]'(by omega) := by
        have := htat.out k hlt
        rw [List.getElem?_eq_getElem hkt] at this
        injection this
      have hcl6 : (w.alloc (.cells #[.bool false, .slice none 0 0, .slice none 0 0] 38)).cell? ⟨g, o + (a + 1 + k), none⟩ = some (.int .u8 ((l[a + 1 + k]'(by omega)).toNat : Int)) := hcl5
      have hrd := Wd.rd_snoc (t.take k) t[k]
      rw [← List.take_succ_eq_append_getElem hkt, htk] at hrd
      have hlt2 := Wd.rd_lt (t.take k)
      have hb6 : Wd.rd (t.take k) < 65536 := Nat.lt_of_lt_of_le hlt2 (by rw [List.length_take, Nat.min_eq_left (by omega)]; exact Nat.pow_le_pow_right (n := 256) (i := k) (j := 2) (by omega) (by omega))
      have hy256 := (l[a + 1 + k]'(by omega)).toNat_lt
      generalize (l[a + 1 + k]'(by omega)).toNat = y2 at *
      generalize Wd.rd (t.take k) = R at *
      have hkw : IntKind.i64.wrap (((a + 1 : Nat) : Int) + (k : Int)) = ((a + 1 + k : Nat) : Int) := by rw [IntKind.wrap_i64]; omega
      have hlt' : (k : Int) < (m : Int) := by omega
      have hw1 : IntKind.i64.wrap (256 * (R : Int)) = 256 * (R : Int) := by rw [IntKind.wrap_i64]; omega
      have hw2 : IntKind.i64.wrap (256 * (R : Int) + (y2 : Int)) = 256 * (R : Int) + (y2 : Int) := by rw [IntKind.wrap_i64]; omega
      have hil : ((a + 1 + k : Nat) : Int) < (l.length : Int) := by omega
      clear hcl5 htk hlt2
      replace hrd := Lib.hid hrd
      go_wp2_with fail
      refine ⟨⟨k + 1, by omega, by go_num, ?_⟩, ?_⟩
      · rw [hrd.out]; congr 1; omega
      · simp [intOf]; omega
    · obtain rfl : k = m := by omega
      rw [List.take_of_length_le (by rw [htl.out]; exact Nat.le_refl _)]
      obtain ⟨g5, o5, u5, he5, hg5, hu5, hcl5⟩ := hb.out.reads.at_ (k := a + 1) (by omega)
      simp only [Option.some.injEq, Addr.mk.injEq, and_true] at he5
      obtain ⟨rfl, rfl⟩ := he5
      rw [bv_at l (a + 1) (by omega)] at hu5
      cases hu5
      have hcl6 : (w.alloc (.cells #[.bool false, .slice none 0 0, .slice none 0 0] 38)).cell? ⟨g, o + (a + 1), none⟩ = some (.int .u8 ((l[a + 1]'(by omega)).toNat : Int)) := hcl5
      have htt : Wd.tight t = (l[a + 1]'(by omega) != 0) := by
        have := htat.out 0 hm1
        cases t with
        | nil => simp at this
        | cons z t =>
          simp only [List.getElem?_cons_zero, Option.some.injEq] at this
          subst this
          rfl
      obtain ⟨V, hV⟩ : ∃ V, V = Wd.rd t := ⟨_, rfl⟩
      have hV24 : V < 16777216 := by
        rw [hV]
        refine Nat.lt_of_lt_of_le (Wd.rd_lt t) ?_
        rw [htl.out]
        exact Nat.pow_le_pow_right (n := 256) (j := 3) (by omega) (by omega)
      rw [← hV]
      rw [← hV] at hx
      replace hV := Lib.hid hV
      generalize l[a + 1]'(by omega) = y2 at *
      have hy256 := y2.toNat_lt
      have hlt' : ¬ (k : Int) < (k : Int) := by omega
      clear hcl5
      by_cases hz0 : y2 = 0
      · have hy0 : (y2.toNat : Int) = 0 := by rw [hz0]; rfl
        have hx2 := hx.out
        rw [if_pos (.inl (by rw [htt, hz0]; rfl))] at hx2
        replace hx2 := Lib.hid hx2
        clear hx htt hz0
        go_wp2_with (refine wpList_store_row rfl 38 _ _ rfl w.heap.size #[.bool false, .slice none 0 0, .slice none 0 0] rfl rfl _ _ hb0.out info_item3 rfl (by simp [Value.oneCell']) ?_)
        refine bodyPost_ret (v := .tuple #[.agg #[.bool false, .slice none 0 0, .slice none 0 0], .int .i64 0, .int .i64 23]) (results_row_tmps rfl _ _ w.heap.size _ #[.bool false, .slice none 0 0, .slice none 0 0] _ _ _ _ rfl rfl rfl (hb0.out.row _) Try.underlying38 rfl info_item3) rfl ?_
        exact FstQ.bad (hx2).out (below_row hbe.out (Nat.le_refl _) _) (by decide)

      · have hy0 : ¬ (y2.toNat : Int) = 0 := fun e => hz0 (UInt8.toNat_inj.1 (show y2.toNat = 0 by omega))
        by_cases hV55 : V ≤ 55
        · have hV55' : (V : Int) < 56 := by omega
          have hx2 := hx.out
          rw [if_pos (.inr hV55)] at hx2
          replace hx2 := Lib.hid hx2
          clear hx htt hz0
          go_wp2_with (refine wpList_store_row rfl 38 _ _ rfl w.heap.size #[.bool false, .slice none 0 0, .slice none 0 0] rfl rfl _ _ hb0.out info_item3 rfl (by simp [Value.oneCell']) ?_)
          refine bodyPost_ret (v := .tuple #[.agg #[.bool false, .slice none 0 0, .slice none 0 0], .int .i64 0, .int .i64 23]) (results_row_tmps rfl _ _ w.heap.size _ #[.bool false, .slice none 0 0, .slice none 0 0] _ _ _ _ rfl rfl rfl (hb0.out.row _) Try.underlying38 rfl info_item3) rfl ?_
          exact FstQ.bad (hx2).out (below_row hbe.out (Nat.le_refl _) _) (by decide)

        · have hV55' : ¬ (V : Int) < 56 := by omega
          have hx1 := hx.out
          rw [if_neg (by rw [htt]; simp [hz0]; omega)] at hx1
          simp only at hx1
          replace hx1 := Lib.hid hx1
          have ha2 : IntKind.i64.wrap (((a + 1 : Nat) : Int) + (k : Int)) = ((a + 1 + k : Nat) : Int) := by rw [IntKind.wrap_i64]; omega
          clear hx htt hz0 hEw0
          replace hx := hx1
          clear hx1
          have hRl := Lib.hid (cutL_len l (a + 1 + k) E hE)
          by_cases hv : (cutL l (a + 1 + k) E).length < V
          · have hx2 := hx.out
            rw [if_pos hv] at hx2
            replace hx2 := Lib.hid hx2
            have hv' : (E : Int) - ((a + 1 + k : Nat) : Int) < ((V : Nat) : Int) := by rw [hRl.out] at hv; omega
            have hEw : IntKind.i64.wrap ((E : Int) - ((a + 1 + k : Nat) : Int)) = (E : Int) - ((a + 1 + k : Nat) : Int) := by rw [IntKind.wrap_i64]; omega
            clear hv hx
            go_wp2_with (refine wpList_store_row rfl 38 _ _ rfl w.heap.size #[.bool false, .slice none 0 0, .slice none 0 0] rfl rfl _ _ hb0.out info_item3 rfl (by simp [Value.oneCell']) ?_)
            refine bodyPost_ret (v := .tuple #[.agg #[.bool false, .slice none 0 0, .slice none 0 0], .int .i64 0, .int .i64 22]) (results_row_tmps rfl _ _ w.heap.size _ #[.bool false, .slice none 0 0, .slice none 0 0] _ _ _ _ rfl rfl rfl (hb0.out.row _) Try.underlying38 rfl info_item3) rfl ?_
            exact FstQ.bad (hx2).out (below_row hbe.out (Nat.le_refl _) _) (by decide)

          · have hx2 := hx.out
            rw [if_neg hv] at hx2
            replace hx2 := Lib.hid hx2
            have hv0 : a + 1 + k + V ≤ E := by rw [hRl.out] at hv; omega
            have hv' : ¬ (E : Int) - ((a + 1 + k : Nat) : Int) < ((V : Nat) : Int) := by omega
            have hEw : IntKind.i64.wrap ((E : Int) - ((a + 1 + k : Nat) : Int)) = (E : Int) - ((a + 1 + k : Nat) : Int) := by rw [IntKind.wrap_i64]; omega
            clear hv hx
            by_cases hv1 : V = 1
            · exact absurd hv1 (by omega)
            · have hv1' : ¬ ((V : Nat) : Int) = 1 := by omega
              have hx3 := hx2.out
              rw [if_neg (fun e => hv1 e.1)] at hx3
              replace hx3 := Lib.hid hx3
              clear hx2
              have hbl := Lib.hid (show ((cutL l (a + 1 + k) E).take (V)).length = V by rw [List.length_take, hRl.out]; omega)
              have hcat : ¬ c = a + 1 + k := by omega
              have hby := Lib.hid (fst_slice hb.out hE (a := a + 1 + k) (v := V) (by omega) hcat)
              clear hb
              have hf := ref_copied _ _ _ _ _ _ hby.out (by rw [hs0.out]; omega) (by rw [hbl.out]; omega)
              go_wp2_with fail
              refine hf.mono ?_
              rintro e w2 ⟨A2, m2, c2, rfl, hN⟩
              have hs0' := hs0.out
              have hb2 := hb0.out.below hN.2.2 (by omega)
              have hbe2 := hbe.out.trans (hN.2.2.mono (by omega))
              replace hN := Lib.hid hN
              replace hbe2 := Lib.hid hbe2
              clear hf
              go_wp2_with (refine wpList_store_row rfl 38 _ _ rfl w.heap.size #[.bool false, .slice A2 m2 c2, .slice none 0 0] rfl rfl _ _ hb2 info_item3 rfl (by simp [Value.oneCell']) ?_)
              refine bodyPost_ret (v := .tuple #[.agg #[.bool false, .slice A2 m2 c2, .slice none 0 0], .int .i64 _, .int .i64 0]) (results_row_tmps rfl _ _ w.heap.size _ #[.bool false, .slice A2 m2 c2, .slice none 0 0] _ _ _ _ rfl rfl rfl (hb2.row _) Try.underlying38 rfl info_item3) rfl ?_
              exact fst_text hx3.out hN.out.2.1 (by omega) hN.out.1 hbe2.out (by rw [List.length_drop, hRl.out]; omega) _



end Go.Proofs.Ytcpnfllekpekgaa
