/-
  Texts of a proof, one behind the other: Law06f.
-/
import Derived.Test.YtioanppnkhiokaaNodedbOrderA4
/-
  The laws of chapter 06: NodedbOrder.
-/
namespace Go.Proofs.Ytioanppnkhiokaa
open Go.RowKit

set_option maxRecDepth 100000 in
set_option maxHeartbeats 4000000 in
theorem law_NodedbOrder (ts : List ByteArray) (A : Option Addr) (n c : Nat) (w : World) (h : StrsIn w w.heap.size ts A n c) (hlim : n ≤ 1048576) :
    Calls Try.prog 5 #[.slice A n c] w (PostT w) := by
  have hn63 : (n : Int) ≤ 9223372036854775807 := by omega
  have hlen := Lib.hid h.len
  have hlim2 := Lib.hid hlim
  clear hlim
  have hsz := Lib.hid (show ∀ t ∈ ts, t.size ≤ 140737488355328 from fun t ht => by have := h.ok t ht; omega)
  replace h := Lib.hid h
  go_enter Try.func5, Try.ntmps5
  go_wp2_with fail
  refine (law_begun n _).mono ?_
  rintro e w1 ⟨S, b, rfl, hb0, hSb, hst, hb1⟩
  replace hst := Lib.hid hst
  replace hb1 := Lib.hid hb1
  go_wp2_with fail
  refine (db_New n w1).mono ?_
  rintro e w2 ⟨S2, b2, rfl, hb2, hbS2, hst2, hbl2⟩
  have hlo := Lib.hid (show w.heap.size ≤ b ∧ w.heap.size ≤ b2 ∧ b ≠ b2 ∧ w.heap.size ≤ w2.heap.size from by
    have h1 := hst.out.map.lt
    have h2 := hb1.out.size
    have h3 := hbl2.size
    exact ⟨by omega, by omega, by omega, by omega⟩)
  have hs1 := Lib.hid (hst.out.step hbl2)
  have hs2 := Lib.hid hst2
  have hbel := Lib.hid (hb1.out.trans (hbl2.mono hb1.out.size))
  clear hst hb1 hst2 hbl2 hb2 hbS2 hb0 hSb
  go_upto_region 7 with fail
  refine code_at (OrdM w w2.heap.size n [] S b [] none 0 0 [] S2 b2) ?_ ?_
  · have hb4 := (Below.refl w2.heap.size w2).alloc (Nat.le_refl _) (.cells #[.int .i64 n, .slice none 0 0] 45)
    exact ⟨hs1.out.step hb4, hs2.out.step hb4, Blk.new w2 _ _, RefIs.nil _ _, hbel.out.trans (hb4.mono hbel.out.size), ⟨hlo.out.1, hlo.out.2.1, hlo.out.2.2.2⟩, hlo.out.2.2.1⟩
  clear hs1 hs2 hbel hlo
  generalize w2.heap.size = R
  intro w3 hi
  replace hi := Lib.hid hi
  go_wp2_with fail
  replace hi := hi.out
  go_loopw [43] (fun iv wr => ∃ (k : Nat) (A' : Option Addr) (n' c' : Nat), k ≤ n ∧ iv = .int .i64 k ∧ NC (ts.take k) ∧ OrdM w R n (runP n (ts.take k)) S b (runP n (ts.take k)) A' n' c' (runP n (ts.reverse.take k)) S2 b2 wr) (fun iv _ => n - (intOf iv).toNat)
  case atStart => exact ⟨0, none, 0, 0, Nat.zero_le _, rfl, by simp [NC], by simpa [runP] using hi⟩
  case round =>
    clear hi
    obtain ⟨k, A', n', c', hk, rfl, hnc, hi⟩ := hrel
    replace hnc := Lib.hid hnc
    by_cases hlt : k < n
    · have hlt' : (k : Int) < n := by omega
      obtain ⟨m, hm⟩ : ∃ m, m = n - 1 - k := ⟨_, rfl⟩
      have hkx : k < ts.length := by have := hlen.out; omega
      have hmx : m < ts.length := by have := hlen.out; omega
      have hkr : k < ts.reverse.length := by simpa using hkx
      obtain ⟨g, o, hA, hg, hr⟩ := h.out.at_ (by omega)
      subst hA
      have hrx := hr k hkx
      have hry := hr m hmx
      have e1 := Lib.hid (run_take_succ hkx n)
      have e2 := Lib.hid (run_take_succ hkr n)
      have hym : ts.reverse[k] = ts[m] := by
        rw [List.getElem_reverse]
        have := hlen.out
        congr 1
        omega
      rw [hym] at e2
      have hxs := Lib.hid (h.out.ok _ (List.getElem_mem hkx))
      have hys := Lib.hid (h.out.ok _ (List.getElem_mem hmx))
      have hok1 := Lib.hid (runP_ok (most := n) (ts := ts.take k) (fun t ht => hsz.out t (List.mem_of_mem_take ht)))
      have hok2 := Lib.hid (runP_ok (most := n) (ts := ts.reverse.take k) (fun t ht => hsz.out t (by simpa using List.mem_of_mem_take ht)))
      have hput := Lib.hid (show (putK (asc (runP n (ts.take k))) ts[k] (getL (runP n (ts.take k)) (dg ts[k])) n = 60 ∨ putK (asc (runP n (ts.take k))) ts[k] (getL (runP n (ts.take k)) (dg ts[k])) n = 0 ∧ NC (ts.take (k + 1))) from by
        have hl := hlen.out
        have hl2 := hlim2.out
        have htk : (ts.take k).length = k := by rw [List.length_take]; omega
        have hgot := got_runs (most := n) (ts := ts.take k) (fun t ht => hsz.out t (List.mem_of_mem_take ht)) hnc.out (by rw [htk]; omega) (by rw [htk]; omega)
        have e : ts.take (k + 1) = ts.take k ++ [ts[k]] := by rw [List.take_succ_eq_append_getElem]
        rw [e]
        rcases hgot.put (most := n) hok1.out.one hnc.out (by rw [htk]; omega) (by rw [htk]; omega) ts[k] with ⟨h1, _⟩ | ⟨h1, h2, _⟩
        · exact .inl h1
        · exact .inr ⟨h1, h2⟩)
      have hputy := Lib.hid (((few_run (ts := ts.reverse) (most := n) k (by omega) (by have := hlen.out; simp; omega) (by have := hlen.out; have := hlim2.out; simp; omega)).put (most := n) (by omega) (by have := hlim2.out; omega) ts[m] (dg ts[m])).1)
      have hLn : (runP n (ts.take k)).length ≤ k := (few_run (ts := ts) (most := n) k (by omega) (by have := hlen.out; omega) (by have := hlen.out; have := hlim2.out; omega)).len
      replace hLn := Lib.hid hLn
      clear hym hr
      generalize hL1 : runP n (ts.take k) = L at *
      generalize runP n (ts.reverse.take k) = M at *
      generalize ts[k] = x at *
      generalize ts[m] = y at *

      clear hL1
      have hn' : n' ≤ k := by have := hi.rf.len; have := hLn.out; omega
      have cP := Lib.hid (fun W (hW : StoreIs W S b n (asc L)) => db_Put S b n (asc L) x (getL L (dg x)) W hW (by have := hxs.out; omega) (dg x) rfl (asc_get L _) (fun v hv => hok1.out.small v hv))
      have cQ := Lib.hid (fun W (hW : StoreIs W S2 b2 n (asc M)) => db_Put S2 b2 n (asc M) y (getL M (dg y)) W hW (by have := hys.out; omega) (dg y) rfl (asc_get M _) (fun v hv => hok2.out.small v hv))
      have cR := Lib.hid (fun W (hW : RefIs W W.heap.size L A' n' c') => ref_Put n L A' n' c' x W hW hok1.out (by have := hlim2.out; omega) (by have := hxs.out; omega) (dg x) rfl)
      simp only [← asc_put hok1.out] at cP
      simp only [← asc_put hok2.out] at cQ
      have hX1 : (putX (asc L) (dg x) x (getL L (dg x)) n).length = 32 := by unfold putX; split; exact Dig.of_length _; rfl
      have hX2 : (putX (asc M) (dg y) y (getL M (dg y)) n).length = 32 := by unfold putX; split; exact Dig.of_length _; rfl
      generalize putX (asc L) (dg x) x (getL L (dg x)) n = X1 at *
      generalize putX (asc M) (dg y) y (getL M (dg y)) n = X2 at *
      generalize putK (asc L) x (getL L (dg x)) n = K1 at *
      generalize putK (asc M) y (getL M (dg y)) n = K2 at *
      generalize putL L n x (dg x) = L' at *
      generalize putL M n y (dg y) = M' at *
      have hsX1 := row32_size hX1
      have hsX2 := row32_size hX2
      clear hxs hys hok1 hok2 hLn hn'
      have hcell : ∀ W : World, Below w.heap.size w W → W.cell? ⟨g, o + k, none⟩ = some (.string x) ∧ W.cell? ⟨g, o + m, none⟩ = some (.string y) := fun W hb => ⟨(hb.cell (p := ⟨g, o + k, none⟩) hg).trans hrx, (hb.cell (p := ⟨g, o + m, none⟩) hg).trans hry⟩
      replace hcell := Lib.hid hcell
      clear hrx hry
      have c1 := (hcell.out _ hi.bel).1
      replace hi := Lib.hid hi
      go_wp2_with fail
      refine (cP.out _ hi.out.s1).mono ?_
      rintro e w4 ⟨rfl, hst4, hg4⟩
      replace hi := Lib.hid (hi.out.turn1 hst4 hg4)
      unfold digV
      clear hst4 hg4 c1 cP
      go_upto_region 11 with (refine wpList_store_row rfl 30 _ _ rfl w4.heap.size (row32 X1) rfl rfl _ _ (Blk.zeros w4 _ 30 rfl) (by rw [hsX1]; exact info_digest) (by rw [hsX1]; rfl) (row32_one _) ?_)
      refine code_at (OrdM w R n L' S b L A' n' c' M S2 b2) ?_ ?_
      · have hb5 := below_row ((Below.refl w4.heap.size w4).alloc (Nat.le_refl _) (.cells (bv zero32).toArray 30)) (Nat.le_refl _) (row32 X1)
        exact hi.out.step hb5
      clear hi
      generalize w4.heap.size = V1
      intro w5 hi
      have c2 : w5.cell? ⟨g, o + (n - 1 - k), none⟩ = some (.string y) := by rw [← hm]; exact (hcell.out _ hi.bel).2
      replace hi := Lib.hid hi
      go_wp2_with fail
      refine (cQ.out _ hi.out.s2).mono ?_
      rintro e w6 ⟨rfl, hst6, hg6⟩
      replace hi := Lib.hid (hi.out.turn2 hst6 hg6)
      unfold digV
      clear hst6 hg6 c2 cQ
      go_upto_region 12 with (refine wpList_store_row rfl 30 _ _ rfl w6.heap.size (row32 X2) rfl rfl _ _ (Blk.zeros w6 _ 30 rfl) (by rw [hsX2]; exact info_digest) (by rw [hsX2]; rfl) (row32_one _) ?_)
      refine code_at (OrdM w R n L' S b L A' n' c' M' S2 b2) ?_ ?_
      · have hb5 := below_row ((Below.refl w6.heap.size w6).alloc (Nat.le_refl _) (.cells (bv zero32).toArray 30)) (Nat.le_refl _) (row32 X2)
        exact hi.out.step hb5
      clear hi
      generalize w6.heap.size = V2
      intro w7 hi
      have hgw := Lib.hid (show g < w7.heap.size from by have := hi.bel.size; omega)
      have c3 := Lib.hid (hcell.out _ hi.bel).1
      replace hi := Lib.hid hi
      refine wp_region_held_drew (S := (Below w7.heap.size w7)) (by kernel_rfl) (by exact (Below.refl _ _).drew) (fun hS => ?_)
      (refine hTake (i := 0) rfl (by kernel_rfl) (by kernel_rfl) (by kernel_rfl) (fun _ _ _ h => h) (yieldsIf_load_mid (by rfl) _ _ rfl _ _ rfl [.int .i64 n, .slice A' n' c'] _ (fun W hW => ((hi.out.r.below hW hi.out.r.lt).rangeL)) Try.underlying45 rfl info_sto) hS ?_; try simp only [Act.put, List.setIfInBounds_toArray, List.set_cons_zero, List.set_cons_succ])
      (refine hTake (i := 1) (v := ?v1) rfl (by kernel_rfl) (by kernel_rfl) (by kernel_rfl) (fun _ _ _ h => h) (Or.inl ⟨by rfl, ?y1⟩) hS ?r1; (case y1 => (intro W hW; (go_simp); (try with_reducible rfl); done)); try simp only [Act.put, List.setIfInBounds_toArray, List.set_cons_zero, List.set_cons_succ])
      (refine hTake (i := 2) (v := ?v2) rfl (by kernel_rfl) (by kernel_rfl) (by kernel_rfl) (fun _ _ _ h => h) (Or.inl ⟨by rfl, ?y2⟩) hS ?r2; (case y2 => (intro W hW; (go_simp); (try with_reducible rfl); done)); try simp only [Act.put, List.setIfInBounds_toArray, List.set_cons_zero, List.set_cons_succ])
      (refine hTake (i := 3) (v := ?v3) rfl (by kernel_rfl) (by kernel_rfl) (by kernel_rfl) (fun _ _ _ h => h) (Or.inl ⟨by rfl, ?y3⟩) hS ?r3; (case y3 => (intro W hW; (go_simp); (try with_reducible rfl); done)); try simp only [Act.put, List.setIfInBounds_toArray, List.set_cons_zero, List.set_cons_succ])
      (refine hTake (i := 4) (v := ?v4) rfl (by kernel_rfl) (by kernel_rfl) (by kernel_rfl) (fun _ _ _ h => h) (Or.inl ⟨by rfl, ?y4⟩) hS ?r4; (case y4 => (intro W hW; ((have g1 := (hW.cell (p := ⟨g, o + k, none⟩) hgw.out).trans c3.out; go_simp)); (try with_reducible rfl); done)); try simp only [Act.put, List.setIfInBounds_toArray, List.set_cons_zero, List.set_cons_succ])
      have hS0 := Lib.hid hS
      clear hS
      apply use_tail (C := PutT w7 L')
      case h =>
        intro tail
        refine anyH_at (fun _ => True) trivial hS0.out ?_
        intro v0 _ hS
        refine hThree (i := 5) (i' := 10) (i'' := 11) rfl rfl rfl (by kernel_rfl) (fun K hK => ?_) (fun K hK => ?_) (fun K hK => ?_)
        · rw [if_pos (by rfl)]
          go_simp
          refine (cR.out _ ((hi.out.rf.below hS).more hS.size)).mono ?_
          rintro e z ⟨A6, n6, c6, rfl, hr, hb⟩
          unfold digV
          have hS2 := hS.trans (hb.mono hS.size)
          clear hb
          go_wp2_with fail
          (refine hK.out _ _ (by exact hS2) (fun hS => ?_); clear hK K; try simp only [Act.put, List.setIfInBounds_toArray, List.set_cons_zero, List.set_cons_succ])
          clear hS2
          (refine hTake (i := 6) (v := ?v5) rfl (by kernel_rfl) (by kernel_rfl) (by kernel_rfl) (fun _ _ _ h => h) (Or.inl ⟨by rfl, ?y5⟩) hS ?r5; (case y5 => (intro W hW; (go_simp); (try with_reducible rfl); done)); try simp only [Act.put, List.setIfInBounds_toArray, List.set_cons_zero, List.set_cons_succ])
          (refine hTake (i := 7) (v := ?v6) rfl (by kernel_rfl) (by kernel_rfl) (by kernel_rfl) (fun _ _ _ h => h) (Or.inl ⟨by rfl, ?y6⟩) hS ?r6; (case y6 => (intro W hW; (go_simp); (try with_reducible rfl); done)); try simp only [Act.put, List.setIfInBounds_toArray, List.set_cons_zero, List.set_cons_succ])
          (refine hTake (i := 8) (v := ?v7) rfl (by kernel_rfl) (by kernel_rfl) (by kernel_rfl) (fun _ _ _ h => h) (Or.inl ⟨by rfl, ?y7⟩) hS ?r7; (case y7 => (intro W hW; (go_simp); (try with_reducible rfl); done)); try simp only [Act.put, List.setIfInBounds_toArray, List.set_cons_zero, List.set_cons_succ])
          (refine hTake (i := 9) (v := ?v8) rfl (by kernel_rfl) (by kernel_rfl) (by kernel_rfl) (fun _ _ _ h => h) (Or.inl ⟨by rfl, ?y8⟩) hS ?r8; (case y8 => (intro W hW; (go_simp); (try with_reducible rfl); done)); try simp only [Act.put, List.setIfInBounds_toArray, List.set_cons_zero, List.set_cons_succ])
          refine hTwo (i := 10) (i' := 11) rfl rfl (by kernel_rfl) (fun K hK => ?_) (fun K hK => ?_)
          · rw [if_pos (by rfl)]
            go_simp
            have hl1 := hS.size
            have hS2 : Below w7.heap.size w7 (z.alloc (.cells #[.int .i64 0, .slice none 0 0] 45)) := hS.alloc hS.size _
            (refine hK.out _ _ (by exact hS2) (fun hS => ?_); clear hK K; try simp only [Act.put, List.setIfInBounds_toArray, List.set_cons_zero, List.set_cons_succ])
            clear hS2
            refine anyH_at (fun W => RefIs W W.heap.size L' A6 n6 c6 ∧ Blk W z.heap.size 45 #[.int .i64 0, .slice none 0 0] ∧ True) ?_ hS ?_
            · have hb : Below z.heap.size z (z.alloc _) := (Below.refl _ _).alloc (Nat.le_refl _) (.cells #[.int .i64 0, .slice none 0 0] 45)
              exact ⟨(hr.below hb).more hb.size, Blk.new z _ _, trivial⟩
            clear hS
            clear hr
            generalize z.heap.size = T1 at *
            rintro v2 ⟨hr, ht1, _⟩ hS
            refine hOne (i := 11) rfl (by kernel_rfl) (fun K hK => ?_)
            rw [if_pos (by rfl)]
            go_simp
            have hl2 := hS.size
            have hne : T1 ≠ v2.heap.size := by have := ht1.lt; omega
            have hS2 : Below w7.heap.size w7 (v2.alloc (.cells (bv zero32).toArray 30)) := hS.alloc hS.size _
            (refine hK.out _ _ (by exact hS2) (fun hS => ?_); clear hK K; try simp only [Act.put, List.setIfInBounds_toArray, List.set_cons_zero, List.set_cons_succ])
            clear hS2
            refine anyH_at (fun W => RefIs W W.heap.size L' A6 n6 c6 ∧ Blk W T1 45 #[.int .i64 0, .slice none 0 0] ∧ (∃ cs : Array Value, Blk W v2.heap.size 30 cs ∧ cs.size = 32) ∧ True) ?_ hS ?_
            · have hb : Below v2.heap.size v2 (v2.alloc _) := (Below.refl _ _).alloc (Nat.le_refl _) (.cells (bv zero32).toArray 30)
              exact ⟨(hr.below hb).more hb.size, ht1.below hb ht1.lt, ⟨_, Blk.new v2 _ _, rfl⟩, trivial⟩
            clear hS
            clear hr
            clear ht1
            generalize v2.heap.size = T2 at *
            rintro v3 ⟨hr, ht1, ht2, _⟩ hS
            exact tail T1 T2 A6 n6 c6 v3 ⟨hS, ht1, ht2, hr, hl1, hl2, hne⟩
          · rw [if_pos (by rfl)]
            go_simp
            have hl2 := hS.size
            have hS2 : Below w7.heap.size w7 (z.alloc (.cells (bv zero32).toArray 30)) := hS.alloc hS.size _
            (refine hK.out _ _ (by exact hS2) (fun hS => ?_); clear hK K; try simp only [Act.put, List.setIfInBounds_toArray, List.set_cons_zero, List.set_cons_succ])
            clear hS2
            refine anyH_at (fun W => RefIs W W.heap.size L' A6 n6 c6 ∧ (∃ cs : Array Value, Blk W z.heap.size 30 cs ∧ cs.size = 32) ∧ True) ?_ hS ?_
            · have hb : Below z.heap.size z (z.alloc _) := (Below.refl _ _).alloc (Nat.le_refl _) (.cells (bv zero32).toArray 30)
              exact ⟨(hr.below hb).more hb.size, ⟨_, Blk.new z _ _, rfl⟩, trivial⟩
            clear hS
            clear hr
            generalize z.heap.size = T2 at *
            rintro v2 ⟨hr, ht2, _⟩ hS
            refine hOne (i := 10) rfl (by kernel_rfl) (fun K hK => ?_)
            rw [if_pos (by rfl)]
            go_simp
            have hl1 := hS.size
            have hne : v2.heap.size ≠ T2 := by obtain ⟨cs, h1, _⟩ := ht2; have := h1.lt; omega
            have hS2 : Below w7.heap.size w7 (v2.alloc (.cells #[.int .i64 0, .slice none 0 0] 45)) := hS.alloc hS.size _
            (refine hK.out _ _ (by exact hS2) (fun hS => ?_); clear hK K; try simp only [Act.put, List.setIfInBounds_toArray, List.set_cons_zero, List.set_cons_succ])
            clear hS2
            refine anyH_at (fun W => RefIs W W.heap.size L' A6 n6 c6 ∧ Blk W v2.heap.size 45 #[.int .i64 0, .slice none 0 0] ∧ (∃ cs : Array Value, Blk W T2 30 cs ∧ cs.size = 32) ∧ True) ?_ hS ?_
            · have hb : Below v2.heap.size v2 (v2.alloc _) := (Below.refl _ _).alloc (Nat.le_refl _) (.cells #[.int .i64 0, .slice none 0 0] 45)
              exact ⟨(hr.below hb).more hb.size, Blk.new v2 _ _, ht2.elim fun cs h => ⟨cs, h.1.below hb h.1.lt, h.2⟩, trivial⟩
            clear hS
            clear hr
            clear ht2
            generalize v2.heap.size = T1 at *
            rintro v3 ⟨hr, ht1, ht2, _⟩ hS
            exact tail T1 T2 A6 n6 c6 v3 ⟨hS, ht1, ht2, hr, hl1, hl2, hne⟩
        · rw [if_pos (by rfl)]
          go_simp
          have hl1 := hS.size
          have hS2 : Below w7.heap.size w7 (v0.alloc (.cells #[.int .i64 0, .slice none 0 0] 45)) := hS.alloc hS.size _
          (refine hK.out _ _ (by exact hS2) (fun hS => ?_); clear hK K; try simp only [Act.put, List.setIfInBounds_toArray, List.set_cons_zero, List.set_cons_succ])
          clear hS2
          refine anyH_at (fun W => Blk W v0.heap.size 45 #[.int .i64 0, .slice none 0 0] ∧ True) ?_ hS ?_
          · have hb : Below v0.heap.size v0 (v0.alloc _) := (Below.refl _ _).alloc (Nat.le_refl _) (.cells #[.int .i64 0, .slice none 0 0] 45)
            exact ⟨Blk.new v0 _ _, trivial⟩
          clear hS
          generalize v0.heap.size = T1 at *
          rintro v1 ⟨ht1, _⟩ hS
          refine hTwo (i := 5) (i' := 11) rfl rfl (by kernel_rfl) (fun K hK => ?_) (fun K hK => ?_)
          · rw [if_pos (by rfl)]
            go_simp
            refine (cR.out _ ((hi.out.rf.below hS).more hS.size)).mono ?_
            rintro e z ⟨A6, n6, c6, rfl, hr, hb⟩
            unfold digV
            have hS2 := hS.trans (hb.mono hS.size)
            replace ht1 : Blk z T1 45 #[.int .i64 0, .slice none 0 0] := ht1.below hb ht1.lt
            clear hb
            go_wp2_with fail
            (refine hK.out _ _ (by exact hS2) (fun hS => ?_); clear hK K; try simp only [Act.put, List.setIfInBounds_toArray, List.set_cons_zero, List.set_cons_succ])
            clear hS2
            (refine hTake (i := 6) (v := ?v9) rfl (by kernel_rfl) (by kernel_rfl) (by kernel_rfl) (fun _ _ _ h => h) (Or.inl ⟨by rfl, ?y9⟩) hS ?r9; (case y9 => (intro W hW; (go_simp); (try with_reducible rfl); done)); try simp only [Act.put, List.setIfInBounds_toArray, List.set_cons_zero, List.set_cons_succ])
            (refine hTake (i := 7) (v := ?v10) rfl (by kernel_rfl) (by kernel_rfl) (by kernel_rfl) (fun _ _ _ h => h) (Or.inl ⟨by rfl, ?y10⟩) hS ?r10; (case y10 => (intro W hW; (go_simp); (try with_reducible rfl); done)); try simp only [Act.put, List.setIfInBounds_toArray, List.set_cons_zero, List.set_cons_succ])
            (refine hTake (i := 8) (v := ?v11) rfl (by kernel_rfl) (by kernel_rfl) (by kernel_rfl) (fun _ _ _ h => h) (Or.inl ⟨by rfl, ?y11⟩) hS ?r11; (case y11 => (intro W hW; (go_simp); (try with_reducible rfl); done)); try simp only [Act.put, List.setIfInBounds_toArray, List.set_cons_zero, List.set_cons_succ])
            (refine hTake (i := 9) (v := ?v12) rfl (by kernel_rfl) (by kernel_rfl) (by kernel_rfl) (fun _ _ _ h => h) (Or.inl ⟨by rfl, ?y12⟩) hS ?r12; (case y12 => (intro W hW; (go_simp); (try with_reducible rfl); done)); try simp only [Act.put, List.setIfInBounds_toArray, List.set_cons_zero, List.set_cons_succ])
            refine hOne (i := 11) rfl (by kernel_rfl) (fun K hK => ?_)
            rw [if_pos (by rfl)]
            go_simp
            have hl2 := hS.size
            have hne : T1 ≠ z.heap.size := by have := ht1.lt; omega
            have hS2 : Below w7.heap.size w7 (z.alloc (.cells (bv zero32).toArray 30)) := hS.alloc hS.size _
            (refine hK.out _ _ (by exact hS2) (fun hS => ?_); clear hK K; try simp only [Act.put, List.setIfInBounds_toArray, List.set_cons_zero, List.set_cons_succ])
            clear hS2
            refine anyH_at (fun W => RefIs W W.heap.size L' A6 n6 c6 ∧ Blk W T1 45 #[.int .i64 0, .slice none 0 0] ∧ (∃ cs : Array Value, Blk W z.heap.size 30 cs ∧ cs.size = 32) ∧ True) ?_ hS ?_
            · have hb : Below z.heap.size z (z.alloc _) := (Below.refl _ _).alloc (Nat.le_refl _) (.cells (bv zero32).toArray 30)
              exact ⟨(hr.below hb).more hb.size, ht1.below hb ht1.lt, ⟨_, Blk.new z _ _, rfl⟩, trivial⟩
            clear hS
            clear hr
            clear ht1
            generalize z.heap.size = T2 at *
            rintro v3 ⟨hr, ht1, ht2, _⟩ hS
            exact tail T1 T2 A6 n6 c6 v3 ⟨hS, ht1, ht2, hr, hl1, hl2, hne⟩
          · rw [if_pos (by rfl)]
            go_simp
            have hl2 := hS.size
            have hne : T1 ≠ v1.heap.size := by have := ht1.lt; omega
            have hS2 : Below w7.heap.size w7 (v1.alloc (.cells (bv zero32).toArray 30)) := hS.alloc hS.size _
            (refine hK.out _ _ (by exact hS2) (fun hS => ?_); clear hK K; try simp only [Act.put, List.setIfInBounds_toArray, List.set_cons_zero, List.set_cons_succ])
            clear hS2
            refine anyH_at (fun W => Blk W T1 45 #[.int .i64 0, .slice none 0 0] ∧ (∃ cs : Array Value, Blk W v1.heap.size 30 cs ∧ cs.size = 32) ∧ True) ?_ hS ?_
            · have hb : Below v1.heap.size v1 (v1.alloc _) := (Below.refl _ _).alloc (Nat.le_refl _) (.cells (bv zero32).toArray 30)
              exact ⟨ht1.below hb ht1.lt, ⟨_, Blk.new v1 _ _, rfl⟩, trivial⟩
            clear hS
            clear ht1
            generalize v1.heap.size = T2 at *
            rintro v2 ⟨ht1, ht2, _⟩ hS
            refine hOne (i := 5) rfl (by kernel_rfl) (fun K hK => ?_)
            rw [if_pos (by rfl)]
            go_simp
            refine (cR.out _ ((hi.out.rf.below hS).more hS.size)).mono ?_
            rintro e z ⟨A6, n6, c6, rfl, hr, hb⟩
            unfold digV
            have hS2 := hS.trans (hb.mono hS.size)
            replace ht1 : Blk z T1 45 #[.int .i64 0, .slice none 0 0] := ht1.below hb ht1.lt
            replace ht2 : (∃ cs : Array Value, Blk z T2 30 cs ∧ cs.size = 32) := ht2.elim fun cs h => ⟨cs, h.1.below hb h.1.lt, h.2⟩
            clear hb
            go_wp2_with fail
            (refine hK.out _ _ (by exact hS2) (fun hS => ?_); clear hK K; try simp only [Act.put, List.setIfInBounds_toArray, List.set_cons_zero, List.set_cons_succ])
            clear hS2
            (refine hTake (i := 6) (v := ?v13) rfl (by kernel_rfl) (by kernel_rfl) (by kernel_rfl) (fun _ _ _ h => h) (Or.inl ⟨by rfl, ?y13⟩) hS ?r13; (case y13 => (intro W hW; (go_simp); (try with_reducible rfl); done)); try simp only [Act.put, List.setIfInBounds_toArray, List.set_cons_zero, List.set_cons_succ])
            (refine hTake (i := 7) (v := ?v14) rfl (by kernel_rfl) (by kernel_rfl) (by kernel_rfl) (fun _ _ _ h => h) (Or.inl ⟨by rfl, ?y14⟩) hS ?r14; (case y14 => (intro W hW; (go_simp); (try with_reducible rfl); done)); try simp only [Act.put, List.setIfInBounds_toArray, List.set_cons_zero, List.set_cons_succ])
            (refine hTake (i := 8) (v := ?v15) rfl (by kernel_rfl) (by kernel_rfl) (by kernel_rfl) (fun _ _ _ h => h) (Or.inl ⟨by rfl, ?y15⟩) hS ?r15; (case y15 => (intro W hW; (go_simp); (try with_reducible rfl); done)); try simp only [Act.put, List.setIfInBounds_toArray, List.set_cons_zero, List.set_cons_succ])
            (refine hTake (i := 9) (v := ?v16) rfl (by kernel_rfl) (by kernel_rfl) (by kernel_rfl) (fun _ _ _ h => h) (Or.inl ⟨by rfl, ?y16⟩) hS ?r16; (case y16 => (intro W hW; (go_simp); (try with_reducible rfl); done)); try simp only [Act.put, List.setIfInBounds_toArray, List.set_cons_zero, List.set_cons_succ])
            exact tail T1 T2 A6 n6 c6 z ⟨hS, ht1, ht2, hr, hl1, hl2, hne⟩
        · rw [if_pos (by rfl)]
          go_simp
          have hl2 := hS.size
          have hS2 : Below w7.heap.size w7 (v0.alloc (.cells (bv zero32).toArray 30)) := hS.alloc hS.size _
          (refine hK.out _ _ (by exact hS2) (fun hS => ?_); clear hK K; try simp only [Act.put, List.setIfInBounds_toArray, List.set_cons_zero, List.set_cons_succ])
          clear hS2
          refine anyH_at (fun W => (∃ cs : Array Value, Blk W v0.heap.size 30 cs ∧ cs.size = 32) ∧ True) ?_ hS ?_
          · have hb : Below v0.heap.size v0 (v0.alloc _) := (Below.refl _ _).alloc (Nat.le_refl _) (.cells (bv zero32).toArray 30)
            exact ⟨⟨_, Blk.new v0 _ _, rfl⟩, trivial⟩
          clear hS
          generalize v0.heap.size = T2 at *
          rintro v1 ⟨ht2, _⟩ hS
          refine hTwo (i := 5) (i' := 10) rfl rfl (by kernel_rfl) (fun K hK => ?_) (fun K hK => ?_)
          · rw [if_pos (by rfl)]
            go_simp
            refine (cR.out _ ((hi.out.rf.below hS).more hS.size)).mono ?_
            rintro e z ⟨A6, n6, c6, rfl, hr, hb⟩
            unfold digV
            have hS2 := hS.trans (hb.mono hS.size)
            replace ht2 : (∃ cs : Array Value, Blk z T2 30 cs ∧ cs.size = 32) := ht2.elim fun cs h => ⟨cs, h.1.below hb h.1.lt, h.2⟩
            clear hb
            go_wp2_with fail
            (refine hK.out _ _ (by exact hS2) (fun hS => ?_); clear hK K; try simp only [Act.put, List.setIfInBounds_toArray, List.set_cons_zero, List.set_cons_succ])
            clear hS2
            (refine hTake (i := 6) (v := ?v17) rfl (by kernel_rfl) (by kernel_rfl) (by kernel_rfl) (fun _ _ _ h => h) (Or.inl ⟨by rfl, ?y17⟩) hS ?r17; (case y17 => (intro W hW; (go_simp); (try with_reducible rfl); done)); try simp only [Act.put, List.setIfInBounds_toArray, List.set_cons_zero, List.set_cons_succ])
            (refine hTake (i := 7) (v := ?v18) rfl (by kernel_rfl) (by kernel_rfl) (by kernel_rfl) (fun _ _ _ h => h) (Or.inl ⟨by rfl, ?y18⟩) hS ?r18; (case y18 => (intro W hW; (go_simp); (try with_reducible rfl); done)); try simp only [Act.put, List.setIfInBounds_toArray, List.set_cons_zero, List.set_cons_succ])
            (refine hTake (i := 8) (v := ?v19) rfl (by kernel_rfl) (by kernel_rfl) (by kernel_rfl) (fun _ _ _ h => h) (Or.inl ⟨by rfl, ?y19⟩) hS ?r19; (case y19 => (intro W hW; (go_simp); (try with_reducible rfl); done)); try simp only [Act.put, List.setIfInBounds_toArray, List.set_cons_zero, List.set_cons_succ])
            (refine hTake (i := 9) (v := ?v20) rfl (by kernel_rfl) (by kernel_rfl) (by kernel_rfl) (fun _ _ _ h => h) (Or.inl ⟨by rfl, ?y20⟩) hS ?r20; (case y20 => (intro W hW; (go_simp); (try with_reducible rfl); done)); try simp only [Act.put, List.setIfInBounds_toArray, List.set_cons_zero, List.set_cons_succ])
            refine hOne (i := 10) rfl (by kernel_rfl) (fun K hK => ?_)
            rw [if_pos (by rfl)]
            go_simp
            have hl1 := hS.size
            have hne : z.heap.size ≠ T2 := by obtain ⟨cs, h1, _⟩ := ht2; have := h1.lt; omega
            have hS2 : Below w7.heap.size w7 (z.alloc (.cells #[.int .i64 0, .slice none 0 0] 45)) := hS.alloc hS.size _
            (refine hK.out _ _ (by exact hS2) (fun hS => ?_); clear hK K; try simp only [Act.put, List.setIfInBounds_toArray, List.set_cons_zero, List.set_cons_succ])
            clear hS2
            refine anyH_at (fun W => RefIs W W.heap.size L' A6 n6 c6 ∧ Blk W z.heap.size 45 #[.int .i64 0, .slice none 0 0] ∧ (∃ cs : Array Value, Blk W T2 30 cs ∧ cs.size = 32) ∧ True) ?_ hS ?_
            · have hb : Below z.heap.size z (z.alloc _) := (Below.refl _ _).alloc (Nat.le_refl _) (.cells #[.int .i64 0, .slice none 0 0] 45)
              exact ⟨(hr.below hb).more hb.size, Blk.new z _ _, ht2.elim fun cs h => ⟨cs, h.1.below hb h.1.lt, h.2⟩, trivial⟩
            clear hS
            clear hr
            clear ht2
            generalize z.heap.size = T1 at *
            rintro v3 ⟨hr, ht1, ht2, _⟩ hS
            exact tail T1 T2 A6 n6 c6 v3 ⟨hS, ht1, ht2, hr, hl1, hl2, hne⟩
          · rw [if_pos (by rfl)]
            go_simp
            have hl1 := hS.size
            have hne : v1.heap.size ≠ T2 := by obtain ⟨cs, h1, _⟩ := ht2; have := h1.lt; omega
            have hS2 : Below w7.heap.size w7 (v1.alloc (.cells #[.int .i64 0, .slice none 0 0] 45)) := hS.alloc hS.size _
            (refine hK.out _ _ (by exact hS2) (fun hS => ?_); clear hK K; try simp only [Act.put, List.setIfInBounds_toArray, List.set_cons_zero, List.set_cons_succ])
            clear hS2
            refine anyH_at (fun W => Blk W v1.heap.size 45 #[.int .i64 0, .slice none 0 0] ∧ (∃ cs : Array Value, Blk W T2 30 cs ∧ cs.size = 32) ∧ True) ?_ hS ?_
            · have hb : Below v1.heap.size v1 (v1.alloc _) := (Below.refl _ _).alloc (Nat.le_refl _) (.cells #[.int .i64 0, .slice none 0 0] 45)
              exact ⟨Blk.new v1 _ _, ht2.elim fun cs h => ⟨cs, h.1.below hb h.1.lt, h.2⟩, trivial⟩
            clear hS
            clear ht2
            generalize v1.heap.size = T1 at *
            rintro v2 ⟨ht1, ht2, _⟩ hS
            refine hOne (i := 5) rfl (by kernel_rfl) (fun K hK => ?_)
            rw [if_pos (by rfl)]
            go_simp
            refine (cR.out _ ((hi.out.rf.below hS).more hS.size)).mono ?_
            rintro e z ⟨A6, n6, c6, rfl, hr, hb⟩
            unfold digV
            have hS2 := hS.trans (hb.mono hS.size)
            replace ht1 : Blk z T1 45 #[.int .i64 0, .slice none 0 0] := ht1.below hb ht1.lt
            replace ht2 : (∃ cs : Array Value, Blk z T2 30 cs ∧ cs.size = 32) := ht2.elim fun cs h => ⟨cs, h.1.below hb h.1.lt, h.2⟩
            clear hb
            go_wp2_with fail
            (refine hK.out _ _ (by exact hS2) (fun hS => ?_); clear hK K; try simp only [Act.put, List.setIfInBounds_toArray, List.set_cons_zero, List.set_cons_succ])
            clear hS2
            (refine hTake (i := 6) (v := ?v21) rfl (by kernel_rfl) (by kernel_rfl) (by kernel_rfl) (fun _ _ _ h => h) (Or.inl ⟨by rfl, ?y21⟩) hS ?r21; (case y21 => (intro W hW; (go_simp); (try with_reducible rfl); done)); try simp only [Act.put, List.setIfInBounds_toArray, List.set_cons_zero, List.set_cons_succ])
            (refine hTake (i := 7) (v := ?v22) rfl (by kernel_rfl) (by kernel_rfl) (by kernel_rfl) (fun _ _ _ h => h) (Or.inl ⟨by rfl, ?y22⟩) hS ?r22; (case y22 => (intro W hW; (go_simp); (try with_reducible rfl); done)); try simp only [Act.put, List.setIfInBounds_toArray, List.set_cons_zero, List.set_cons_succ])
            (refine hTake (i := 8) (v := ?v23) rfl (by kernel_rfl) (by kernel_rfl) (by kernel_rfl) (fun _ _ _ h => h) (Or.inl ⟨by rfl, ?y23⟩) hS ?r23; (case y23 => (intro W hW; (go_simp); (try with_reducible rfl); done)); try simp only [Act.put, List.setIfInBounds_toArray, List.set_cons_zero, List.set_cons_succ])
            (refine hTake (i := 9) (v := ?v24) rfl (by kernel_rfl) (by kernel_rfl) (by kernel_rfl) (fun _ _ _ h => h) (Or.inl ⟨by rfl, ?y24⟩) hS ?r24; (case y24 => (intro W hW; (go_simp); (try with_reducible rfl); done)); try simp only [Act.put, List.setIfInBounds_toArray, List.set_cons_zero, List.set_cons_succ])
            exact tail T1 T2 A6 n6 c6 z ⟨hS, ht1, ht2, hr, hl1, hl2, hne⟩
      case t =>
        intro T1 T2 A6 n6 c6 w8 hP
        have hS := hP.bel
        replace hP := Lib.hid hP
        (refine hOne (i := 12) rfl (by kernel_rfl) (fun K hK => ?_))
        rw [if_pos (by rfl)]
        refine wp_store_row 45 _ _ rfl T1 #[.int .i64 n, .slice A6 n6 c6] rfl rfl _ _ hP.out.t1 info_sto rfl (sto_one _ _ _ _) ?_
        have hS2 := below_row hS hP.out.l1 #[.int .i64 n, .slice A6 n6 c6]
        (refine hK.out _ _ (by exact hS2) (fun hS => ?_); clear hK K; try simp only [Act.put, List.setIfInBounds_toArray, List.set_cons_zero, List.set_cons_succ])
        clear hS2
        obtain ⟨cs, hcs, hcl⟩ := hP.out.t2
        have hcs2 := Lib.hid (hcs.row_far #[.int .i64 n, .slice A6 n6 c6] (Ne.symm hP.out.ne))
        have ht1 := Lib.hid ((hP.out.t1.row #[.int .i64 n, .slice A6 n6 c6]).row_far (row32 X1) hP.out.ne)
        have hrf := Lib.hid (((hP.out.rf.far hP.out.t1 (by simp) #[.int .i64 n, .slice A6 n6 c6]).far hcs2.out (by omega) (row32 X1)).more (show w8.heap.size ≤ ((w8.setRow T1 #[.int .i64 n, .slice A6 n6 c6]).setRow T2 (row32 X1)).heap.size by simp))
        have hi8 := Lib.hid (hi.out.step (below_row (below_row hP.out.bel hP.out.l1 #[.int .i64 n, .slice A6 n6 c6]) hP.out.l2 (row32 X1)))
        (refine hOne (i := 13) rfl (by kernel_rfl) (fun K hK => ?_))
        rw [if_pos (by rfl)]
        refine wp_store_row 30 _ _ rfl T2 (row32 X1) rfl rfl _ _ hcs2.out (by rw [hsX1]; exact info_digest) (by rw [hsX1]; exact hcl) (row32_one _) ?_
        have hS2 := below_row hS hP.out.l2 (row32 X1)
        (refine hK.out _ _ (by exact hS2) (fun hS => ?_); clear hK K; try simp only [Act.put, List.setIfInBounds_toArray, List.set_cons_zero, List.set_cons_succ])
        clear hS2
        (refine hTake (i := 14) (v := ?v25) rfl (by kernel_rfl) (by kernel_rfl) (by kernel_rfl) (fun _ _ _ h => h) (Or.inl ⟨by rfl, ?y25⟩) hS ?r25; (case y25 => (intro W hW; (go_simp); (try with_reducible rfl); done)); try simp only [Act.put, List.setIfInBounds_toArray, List.set_cons_zero, List.set_cons_succ])
        refine wpAnyH_done (by kernel_rfl) ?_ _
        clear hS hP hi hcs hcs2 hcl hS0
        go_upto_region 13 with fail
        refine code_at (fun W => OrdM w R n L' S b L A' n' c' M' S2 b2 W ∧ Blk W T1 45 #[.int .i64 n, .slice A6 n6 c6] ∧ RefIs W W.heap.size L' A6 n6 c6) ⟨hi8.out, ht1.out, hrf.out⟩ ?_
        clear hi8 ht1 hrf
        rintro w9 ⟨hi, ht1, hrf⟩
        replace hi := Lib.hid hi
        replace ht1 := Lib.hid ht1
        replace hrf := Lib.hid hrf
        go_upto_region 14 with (first
          | (refine wpList_load_row rfl 45 _ rfl T1 rfl _ #[.int .i64 n, .slice A6 n6 c6] _ _ ht1.out Try.underlying45 rfl info_sto ?_)
          | (refine wpList_store_row rfl 45 _ _ rfl R #[.int .i64 n, .slice A6 n6 c6] rfl rfl _ _ hi.out.r info_sto rfl (sto_one _ _ _ _) ?_))
        refine code_at (OrdM w R n L' S b L' A6 n6 c6 M' S2 b2) (hi.out.sto hrf.out) ?_
        clear hi ht1 hrf
        intro wa hi
        have hbl := Lib.hid hi.bel
        replace hi := Lib.hid hi
        rcases hput.out with rfl | ⟨rfl, hnc1⟩
        · go_wp2_with fail
          go_ret
          exact ⟨by simp, hbl.out⟩
        · replace hnc1 := Lib.hid hnc1
          rcases hputy.out with rfl | rfl
          · go_wp2_with fail
            exact ⟨⟨k + 1, A6, n6, c6, by omega, by go_num, hnc1.out, by rw [e1.out, e2.out]; exact hi.out⟩, by simp [intOf]; omega⟩
          · go_wp2_with fail
            exact ⟨⟨k + 1, A6, n6, c6, by omega, by go_num, hnc1.out, by rw [e1.out, e2.out]; exact hi.out⟩, by simp [intOf]; omega⟩
    · obtain rfl : n = k := by omega
      have hlt' : ¬ (n : Int) < n := by omega
      have hperm := Lib.hid (show (runP n ts).Perm (runP n ts.reverse) from run_perm hsz.out (by have := hnc; rwa [show ts.take n = ts by rw [hlen.out, List.take_length]] at this) (by have := hlen.out; omega) (by have := hlen.out; have := hlim2.out; omega) (List.reverse_perm ts))
      have hok1 := Lib.hid (runP_ok (most := n) (ts := ts) hsz.out)
      have hok2 := Lib.hid (runP_ok (most := n) (ts := ts.reverse) (fun t ht => hsz.out t (by simpa using ht)))
      rw [show ts.take n = ts by rw [hlen.out, List.take_length], show ts.reverse.take n = ts.reverse by rw [hlen.out, ← List.length_reverse, List.take_length]] at hi
      have hfew := Lib.hid (show (runP n ts).length ≤ n from by
        have := (few_run (ts := ts) (most := n) ts.length (Nat.le_refl _) (by have := hlen.out; omega) (by have := hlen.out; have := hlim2.out; omega)).len
        rw [List.take_length] at this
        have := hlen.out
        omega)
      have hsrt := Lib.hid (srt_perm hperm.out)
      have hmem := Lib.hid (show ∀ d ∈ srt (runP n ts), d.length = 32 ∧ ∃ x, getL (runP n ts) d = some x ∧ getL (runP n ts.reverse) d = some x ∧ 1 ≤ x.2 from fun d hd => by
        obtain ⟨p, hp, rfl⟩ := srt_mem hd
        exact ⟨(hok1.out.all p hp).1, _, getL_mem hok1.out.one p hp, getL_mem hok2.out.one p (hperm.out.mem_iff.1 hp), (hok1.out.all p hp).2.2.1⟩)
      have hpl := Lib.hid (hperm.out.length_eq)
      clear hnc hperm
      generalize runP n ts = L at *
      generalize runP n ts.reverse = M at *
      have cA := Lib.hid (fun W (hW : StoreIs W S b n (asc L)) => db_List_asc S b n L W hW (by have := hfew.out; have := hlim2.out; omega))
      have cB := Lib.hid (fun W (hW : StoreIs W S2 b2 n (asc M)) => db_List_asc S2 b2 n M W hW (by have := hfew.out; have := hpl.out; have := hlim2.out; omega))
      simp only [← hsrt.out] at cB
      have cLa := Lib.hid (fun W (hW : StoreIs W S b n (asc L)) => db_Len S b n (asc L) W hW)
      have cLb := Lib.hid (fun W (hW : StoreIs W S2 b2 n (asc M)) => db_Len S2 b2 n (asc M) W hW)
      simp only [asc_length] at cLa cLb
      simp only [← hpl.out] at cLb
      clear hlt hlt' hk
      replace hi := Lib.hid hi
      go_wp2_with fail
      refine (cA.out _ hi.out.s1).mono ?_
      rintro e w4 ⟨B1, m1, e1, rfl, hd1, hb4⟩
      replace hi := Lib.hid (hi.out.step hb4)
      replace hd1 := Lib.hid hd1
      clear hb4
      go_wp2_with fail
      refine (cB.out _ hi.out.s2).mono ?_
      rintro e w5 ⟨B2, m2, e2, rfl, hd2, hb5⟩
      replace hi := Lib.hid (hi.out.step hb5)
      replace hd1 := Lib.hid (hd1.out.below hb5)
      replace hd2 := Lib.hid hd2
      clear hb5
      go_wp2_with fail
      refine (law06_same (srt L) (srt L) B1 B2 m1 m2 e1 e2 _ _ w5 hd1.out hd2.out).mono ?_
      rintro e w6 ⟨rfl, hb6⟩
      rw [decide_eq_true rfl]
      replace hi := Lib.hid (hi.out.step hb6)
      clear hb6 hd1 hd2
      go_wp2_with fail
      refine (cLa.out _ hi.out.s1).mono ?_
      rintro e w7 ⟨rfl, rfl⟩
      go_wp2_with fail
      refine (cLb.out _ hi.out.s2).mono ?_
      rintro e w7 ⟨rfl, rfl⟩
      go_wp2_with fail
      refine (cA.out _ hi.out.s1).mono ?_
      rintro e w7 ⟨B3, m3, e3, rfl, hd3, hb7⟩
      replace hi := Lib.hid (hi.out.step hb7)
      clear hb7 cA cB cLa cLb
      have hm3 := Lib.hid hd3.len
      have hm63 : (m3 : Int) ≤ 9223372036854775807 := by have := hd3.cap; have := hd3.lim; unfold maxLen at this; omega
      replace hd3 := Lib.hid hd3
      go_wp2_with fail
      replace hi := hi.out
      go_loopw [109] (fun iv wr => ∃ j : Nat, j ≤ m3 ∧ iv = .int .i64 j ∧ OrdM w R n L S b L A' n' c' M S2 b2 wr ∧ Below w7.heap.size w7 wr) (fun iv _ => m3 - (intOf iv).toNat)
      case atStart => exact ⟨0, Nat.zero_le _, rfl, hi, Below.refl _ _⟩
      case round =>
        clear hi
        obtain ⟨j, hj, rfl, hi, hbj⟩ := hrel
        by_cases hjm : j < m3
        · have hjm' : (j : Int) < m3 := by omega
          have hjx : j < (srt L).length := by have := hm3.out; omega
          obtain ⟨g3, o3, hA3, hg3, hr3⟩ := (hd3.out.below hbj).row j hjx
          subst hA3
          obtain ⟨hdl, ⟨xt, xn⟩, hx1, hx2, hx3⟩ := hmem.out _ (List.getElem_mem hjx)
          generalize (srt L)[j] = d at *
          have hsd := row32_size hdl
          replace hx1 := Lib.hid hx1
          replace hx2 := Lib.hid hx2
          replace hx3 : 1 ≤ xn := hx3
          have hse : (xt.toList == xt.toList) = true := by simp
          replace hr3 := Lib.hid hr3
          replace hi := Lib.hid hi
          replace hbj := Lib.hid hbj
          go_upto_region 24 with (first
            | (refine wpList_mid_g (by rfl) 30 _ rfl g3 (o3 + j * 32) rfl (bv d) _ hr3.out Try.underlying30 rfl (by rw [bv_length, hdl]; exact info_digest) ?_)
            | (refine wpList_store_row rfl 30 _ _ rfl wr.heap.size (row32 d) rfl rfl _ _ (Blk.zeros wr _ 30 rfl) (by rw [hsd]; exact info_digest) (by rw [hsd]; rfl) (row32_one _) ?_))
          refine code_at (fun W => OrdM w R n L S b L A' n' c' M S2 b2 W ∧ Below w7.heap.size w7 W ∧ Blk W wr.heap.size 30 (row32 d)) ?_ ?_
          · have hb8 := below_row ((Below.refl wr.heap.size wr).alloc (Nat.le_refl _) (.cells (bv zero32).toArray 30)) (Nat.le_refl _) (row32 d)
            exact ⟨hi.out.step hb8, hbj.out.trans (hb8.mono hbj.out.size), (Blk.zeros wr _ 30 rfl).row _⟩
          clear hi hbj hr3
          generalize wr.heap.size = T
          rintro w8 ⟨hi, hb8, hT⟩
          have cG := Lib.hid (db_Get S b n (asc L) d (getL L d) w8 hi.s1 hdl (asc_get L _))
          rw [hx1.out] at cG
          replace hi := Lib.hid hi
          replace hb8 := Lib.hid hb8
          replace hT := Lib.hid hT
          go_wp2_with (refine wpList_load_row rfl 30 _ rfl T rfl _ (row32 d) _ _ hT.out Try.underlying30 rfl (by rw [hsd]; exact info_digest) ?_)
          refine cG.out.mono ?_
          rintro e w9 ⟨rfl, hb9⟩
          have hi9 := hi.out.step hb9
          have hb9' := Lib.hid (hb8.out.trans (hb9.mono hb8.out.size))
          have hT9 := Lib.hid (hT.out.below hb9 hT.out.lt)
          clear cG hi hb8 hT hb9
          simp only [Option.getD_some, Option.isSome_some]
          have cG := Lib.hid (db_Get S2 b2 n (asc M) d (getL M d) w9 hi9.s2 hdl (asc_get M _))
          rw [hx2.out] at cG
          replace hi9 := Lib.hid hi9
          go_wp2_with (refine wpList_load_row rfl 30 _ rfl T rfl _ (row32 d) _ _ hT9.out Try.underlying30 rfl (by rw [hsd]; exact info_digest) ?_)
          refine cG.out.mono ?_
          rintro e wa ⟨rfl, hba⟩
          have hia := Lib.hid (hi9.out.step hba)
          have hbb := Lib.hid (hb9'.out.trans (hba.mono hb9'.out.size))
          clear cG hi9 hb9' hT9 hba
          simp only [Option.getD_some, Option.isSome_some]
          go_wp2_with fail
          exact ⟨⟨j + 1, by omega, by go_num, hia.out, hbb.out⟩, by simp [intOf]; omega⟩
        · obtain rfl : m3 = j := by omega
          have hjm' : ¬ (m3 : Int) < m3 := by omega
          have hbl := Lib.hid hi.bel
          clear hi hbj
          go_wp2_with fail
          go_ret
          exact ⟨by simp, hbl.out⟩
end Go.Proofs.Ytioanppnkhiokaa
