/-
  Package node: ref (what an item names).
-/
import Derived.Test.YtahaaeenbahknaaRRRRNoT
import Derived.Test.YtahaaeenbahknaaRRRRNe7
import Derived.Laws.CopyRow
namespace Go.Proofs.YtahaaeenbahknaaRRRR
open Go.RowKit

/-- 'copy(a[:], b)' into a row that is known whole -/
theorem wp_copy_row {P : Program} {o : Oper} {a : Act} {w : World} {K : Act → World → Prop} {Q : Exit → Act → World → Prop} (d s : Operand) (dT sT elem : TypeId)
    (ho : o.op = .call { callee := .builtin .copy, args := #[d, s], argTypes := #[dT, sT] }) (g off dLen dCap : Nat) (ad : Addr) (sLen sCap : Nat) (cur : Array Value) (t : TypeId) (cs : List Value)
    (hd : a.eval d = .slice (some ⟨g, off, none⟩) dLen dCap) (hs : a.eval s = .slice (some ad) sLen sCap)
    (hu : P.underlying dT = some (.slice elem)) (hi : (P.info? elem).map (·.size) = some 1) (hg : w.heap[g]? = some (.cells cur t (0, 0))) (hn : cs.length = Nat.min sLen dLen)
    (hsrc : ∀ j v, cs[j]? = some v → w.cell? (ad.add j) = some v) (hfit : off + cs.length ≤ cur.size) (h1 : ∀ v ∈ cs, v.oneCell' = true)
    (h : K (a.put o.dst (goInt cs.length)) (w.setRow g (cur.toList.take off ++ cs ++ cur.toList.drop (off + cs.length)).toArray)) : o.wp P a w K Q := by
  have hrun := run_copy_row P w dT sT o.type elem g off dLen dCap ad sLen sCap cur t cs hu hi hg hn hsrc hfit h1
  unfold Oper.wp execOp
  simp only [ho, resolve, invoke, builtin, Sem.run_bind, Sem.run_pure, Result.andThen_ok, List.map_toArray, List.map_cons, List.map_nil, hd, hs, hrun]
  exact h
/-- what ref answers -/
def RefQ (x : Ns.It 8) (w : World) (e : Ending) (w' : World) : Prop := Below w.heap.size w w' ∧ ∃ v, e = .returned (.tuple #[v, .bool (Nd.refOf x).2]) ∧ RefIn (fun q => w.heap.size ≤ q) w' v (Nd.refOf x).1
theorem refRow_z (k : Int) (A : Option Addr) (n c : Nat) : refRow k Nd.z32 A n c = #[.int .i64 k, .int .u8 0, .int .u8 0, .int .u8 0, .int .u8 0, .int .u8 0, .int .u8 0, .int .u8 0, .int .u8 0, .int .u8 0, .int .u8 0, .int .u8 0, .int .u8 0, .int .u8 0, .int .u8 0, .int .u8 0, .int .u8 0, .int .u8 0, .int .u8 0, .int .u8 0, .int .u8 0, .int .u8 0, .int .u8 0, .int .u8 0, .int .u8 0, .int .u8 0, .int .u8 0, .int .u8 0, .int .u8 0, .int .u8 0, .int .u8 0, .int .u8 0, .int .u8 0, .slice A n c] := rfl
/-- a digest is being read out of a text of 32 bytes -/
structure RefC (w : World) (ga oa c : Nat) (z : Value) (W : World) : Prop where
  it : Blk W w.heap.size 46 #[.bool false, .slice (some ⟨ga, oa, none⟩) 32 c, z]
  res : Blk W (w.heap.size + 1) 26 refZ
  r : Blk W (w.heap.size + 2) 26 (refRow 2 Nd.z32 none 0 0)
  bel : Below w.heap.size w W
set_option maxHeartbeats 2000000 in
set_option maxRecDepth 100000 in
theorem node_ref (S : Nat → Prop) (v : Value) (x : Ns.It 8) (w : World) (hsit : Sits S w 8 v x) (hS : ∀ q, S q → q < w.heap.size) (hfit : Ns.fit 7 x) (hlim : (Ns.enc 8 x).length ≤ 16777215) :
    Calls Try.prog 36 #[v] w (RefQ x w) := by
  have hslot := hsit.row
  have hup := Sits.up 8 v x hsit
  obtain ⟨A, n, c, z, rfl, hn, hc, hm, hin, hz⟩ := hslot
  have hb1 : Blk ((w.alloc (.cells #[.bool (isList x), .slice A n c, z] 46)).alloc (.cells refZ 26)) w.heap.size 46 #[.bool (isList x), .slice A n c, z] := (Blk.new w _ _).alloc _
  have hr1 : Blk ((w.alloc (.cells #[.bool (isList x), .slice A n c, z] 46)).alloc (.cells refZ 26)) (w.heap.size + 1) 26 refZ := Blk.new' (by simp)
  have hbe1 : Below w.heap.size w ((w.alloc (.cells #[.bool (isList x), .slice A n c, z] 46)).alloc (.cells refZ 26)) := ((Below.refl _ _).alloc (Nat.le_refl _) _).alloc (by simp) _
  have hsz1 : ((w.alloc (.cells #[.bool (isList x), .slice A n c, z] 46)).alloc (.cells refZ 26)).heap.size = w.heap.size + 2 := by simp
  have hBy : Bytes w w.heap.size A n c (bytesOf x) := ⟨hn, hc, hm, hin.reads fun g _ h => h⟩
  replace hBy := Lib.hid hBy
  replace hS := Lib.hid hS
  replace hfit := Lib.hid hfit
  replace hbe1 := Lib.hid hbe1
  replace hsz1 := Lib.hid hsz1
  clear hin hsit hc hm
  cases hl : isList x with
  | true =>
    rw [hl] at hb1 hr1 hbe1 hsz1 hup
    have hro : Nd.refOf x = (⟨1, Nd.z32, Ns.enc 8 x⟩, decide ((Ns.enc 8 x).length < 32)) := by unfold Nd.refOf; rw [if_pos hl]
    have hen := nest_Encode_any S (.agg #[.bool true, .slice A n c, z]) (Ns.up 8 x) _ (hup.move _ _ _ (fun q h1 h2 => ⟨h1, hbe1.out.block q h2⟩) hbe1.out.size) (fun q h => by have := hS.out q h; rw [hsz1.out]; omega) (Ns.fit_up 7 x hfit.out) (by rw [Ns.enc_up]; exact hlim)
    rw [Ns.enc_up] at hen
    replace hro := Lib.hid hro
    clear hup hn
    replace hr1 := Lib.hid hr1
    go_enter Try.func36, Try.ntmps36
    have g0 : ((w.alloc (.cells #[.bool true, .slice A n c, z] 46)).alloc (.cells refZ 26)).cell? ⟨w.heap.size, 0, none⟩ = some (.bool true) := hb1.cell 0
    go_wp2_with (refine wpList_load_row rfl 46 _ rfl w.heap.size rfl _ _ _ _ hb1 Try.underlying46 rfl info_item3 ?_)
    refine hen.mono ?_
    rintro e w2 ⟨A2, n2, c2, rfl, hN⟩
    have hn2 := hN.1
    have hr2 := hr1.out.below hN.2.2 (by rw [hsz1.out]; omega)
    have hbe2 := hbe1.out.trans (hN.2.2.mono hbe1.out.size)
    have hO := Own.of_row hN.2.1
    have hres : RefIn (fun q => w.heap.size ≤ q) (w2.setRow (w.heap.size + 1) (refRow 1 Nd.z32 A2 n2 c2)) (.agg (refRow 1 Nd.z32 A2 n2 c2)) ⟨1, Nd.z32, Ns.enc 8 x⟩ :=
      ⟨A2, n2, c2, rfl, rfl, hn2, hO.cap, hO.lim, (InS.of_own hO).move (fun q h1 h2 => ⟨by rw [hsz1.out] at h1; omega, setRow_other w2 _ q _ (by rw [hsz1.out] at h1; omega)⟩) (by simp)⟩
    have hbe3 := below_row hbe2 (show w.heap.size ≤ w.heap.size + 1 by omega) (refRow 1 Nd.z32 A2 n2 c2)
    clear hen hN hO hb1 g0 hlim
    replace hn2 := Lib.hid hn2
    replace hres := Lib.hid hres
    replace hbe3 := Lib.hid hbe3
    by_cases h32 : n2 < 32
    · have h32' :  (n2 : Int) < 32 := by omega
      have hfl := Lib.hid (show decide ((Ns.enc 8 x).length < 32) = true by rw [← hn2.out]; simp; omega)
      clear h32
      go_wp2_with (refine wpList_store_row rfl 26 _ _ rfl (w.heap.size + 1) (refRow 1 Nd.z32 A2 n2 c2) rfl rfl _ _ hr2 (by rw [refRow_size rfl]; exact info_ref) (by rw [refRow_size rfl]; rfl) (refRow_one _ _ _ _ _) ?_)
      refine bodyPost_ret (v := .tuple #[.agg (refRow 1 Nd.z32 A2 n2 c2), .bool true]) (results_row_tmp rfl _ _ (w.heap.size + 1) _ (refRow 1 Nd.z32 A2 n2 c2) _ _ _ rfl rfl (hr2.row _) Try.underlying26 rfl (by rw [refRow_size rfl]; exact info_ref)) rfl ?_
      refine ⟨hbe3.out, .agg (refRow 1 Nd.z32 A2 n2 c2), ?_, ?_⟩
      · rw [hro.out]; simp only; rw [hfl.out]
      · rw [hro.out]; exact hres.out
    · have h32' : ¬ (n2 : Int) < 32 := by omega
      have h32d : decide ((n2 : Int) < 32) = false := decide_eq_false h32'
      have hfl := Lib.hid (show decide ((Ns.enc 8 x).length < 32) = false by rw [← hn2.out]; simp; omega)
      clear h32
      go_wp2_with (refine wpList_store_row rfl 26 _ _ rfl (w.heap.size + 1) (refRow 1 Nd.z32 A2 n2 c2) rfl rfl _ _ hr2 (by rw [refRow_size rfl]; exact info_ref) (by rw [refRow_size rfl]; rfl) (refRow_one _ _ _ _ _) ?_)
      refine bodyPost_ret (v := .tuple #[.agg (refRow 1 Nd.z32 A2 n2 c2), .bool false]) (results_row_tmp rfl _ _ (w.heap.size + 1) _ (refRow 1 Nd.z32 A2 n2 c2) _ _ _ rfl rfl (hr2.row _) Try.underlying26 rfl (by rw [refRow_size rfl]; exact info_ref)) rfl ?_
      refine ⟨hbe3.out, .agg (refRow 1 Nd.z32 A2 n2 c2), ?_, ?_⟩
      · rw [hro.out]; simp only; rw [hfl.out]
      · rw [hro.out]; exact hres.out
  | false =>
    rw [hl] at hb1 hr1 hbe1 hsz1
    have g0 : ((w.alloc (.cells #[.bool false, .slice A n c, z] 46)).alloc (.cells refZ 26)).cell? ⟨w.heap.size, 0, none⟩ = some (.bool false) := hb1.cell 0
    have g1 : ((w.alloc (.cells #[.bool false, .slice A n c, z] 46)).alloc (.cells refZ 26)).cell? ⟨w.heap.size, 1, none⟩ = some (.slice A n c) := hb1.cell 1
    have hro0 : Nd.refOf x = if (bytesOf x).length = 0 then (Nd.rf0, true) else if (bytesOf x).length = 32 then (⟨2, bytesOf x, []⟩, true) else (Nd.rf0, false) := by unfold Nd.refOf; rw [if_neg (by rw [hl]; simp)]
    have hzero : RefIn (fun q => w.heap.size ≤ q) (((w.alloc (.cells #[.bool false, .slice A n c, z] 46)).alloc (.cells refZ 26)).setRow (w.heap.size + 1) (refRow 0 Nd.z32 none 0 0)) (.agg (refRow 0 Nd.z32 none 0 0)) Nd.rf0 := ⟨none, 0, 0, rfl, rfl, rfl, Nat.le_refl _, by unfold maxLen; omega, ⟨rfl, fun h => by omega⟩⟩
    have hbeZ := below_row hbe1.out (show w.heap.size ≤ w.heap.size + 1 by omega) (refRow 0 Nd.z32 none 0 0)
    generalize bytesOf x = b at *
    replace hzero := Lib.hid hzero
    replace hbeZ := Lib.hid hbeZ
    replace hn := Lib.hid hn
    clear hup
    by_cases h0 : n = 0
    · have hro := Lib.hid (show Nd.refOf x = (Nd.rf0, true) by rw [hro0, if_pos (by rw [← hn.out]; exact h0)])
      have h0' : (n : Int) = 0 := by omega
      clear hro0 h0
      go_enter Try.func36, Try.ntmps36
      go_wp2_with (refine wpList_store_row rfl 26 _ _ rfl (w.heap.size + 1) (refRow 0 Nd.z32 none 0 0) rfl rfl _ _ hr1 (by rw [refRow_size rfl]; exact info_ref) (by rw [refRow_size rfl]; rfl) (refRow_one _ _ _ _ _) ?_)
      refine bodyPost_ret (v := .tuple #[.agg (refRow 0 Nd.z32 none 0 0), .bool true]) (results_row_tmp rfl _ _ (w.heap.size + 1) _ (refRow 0 Nd.z32 none 0 0) _ _ _ rfl rfl (hr1.row _) Try.underlying26 rfl (by rw [refRow_size rfl]; exact info_ref)) rfl ?_
      exact ⟨hbeZ.out, _, by rw [hro.out], by rw [hro.out]; exact hzero.out⟩
    have h0' : ¬ (n : Int) = 0 := by omega
    by_cases h32 : n = 32
    · have hbl : b.length = 32 := by rw [← hn.out]; exact h32
      have hro := Lib.hid (show Nd.refOf x = (⟨2, b, []⟩, true) by rw [hro0, if_neg (by omega), if_pos hbl])
      obtain ⟨ga, oa, rfl, hga, hcl⟩ := hBy.out.reads.2 (by omega)
      subst h32
      have hw2b : Below w.heap.size w ((((w.alloc (.cells #[.bool false, .slice (some ⟨ga, oa, none⟩) 32 c, z] 46)).alloc (.cells refZ 26)).alloc (.cells refZ 26)).setRow (w.heap.size + 2) (refRow 2 Nd.z32 none 0 0)) := below_row (hbe1.out.alloc hbe1.out.size _) (by omega) _
      have hI : RefC w ga oa c z ((((w.alloc (.cells #[.bool false, .slice (some ⟨ga, oa, none⟩) 32 c, z] 46)).alloc (.cells refZ 26)).alloc (.cells refZ 26)).setRow (w.heap.size + 2) (refRow 2 Nd.z32 none 0 0)) := by
        refine ⟨?_, ?_, ?_, hw2b⟩
        · exact (hb1.alloc _).row_far _ (by omega)
        · exact (hr1.alloc _).row_far _ (by omega)
        · exact (Blk.new' hsz1.out.symm).row _
      replace hI := Lib.hid hI
      replace hbl := Lib.hid hbl
      clear hro0 hw2b hb1 hr1
      go_enter Try.func36, Try.ntmps36
      go_wp2_with (refine wpList_store_row rfl 26 _ _ rfl (w.heap.size + 2) (refRow 2 Nd.z32 none 0 0) rfl rfl _ _ (Blk.new' (w := ((w.alloc (.cells #[.bool false, .slice (some ⟨ga, oa, none⟩) 32 c, z] 46)).alloc (.cells refZ 26))) (cs := refZ) (t := 26) hsz1.out.symm) (by rw [refRow_size rfl]; exact info_ref) (by rw [refRow_size rfl]; rfl) (refRow_one _ _ _ _ _) ?_; refine list_at (RefC w ga oa c z) hI.out ?_; intro w3 hI3; replace hI3 := Lib.hid hI3)
      simp only [Act.put]
      have hrow : ((refRow 2 Nd.z32 none 0 0).toList.take 1 ++ bv b ++ (refRow 2 Nd.z32 none 0 0).toList.drop (1 + (bv b).length)).toArray = refRow 2 b none 0 0 := by
        rw [bv_length, hbl.out]; rfl
      have hcl3 : ∀ (j : Nat) (u : Value), (bv b)[j]? = some u → w3.drew.cell? (Addr.add ⟨ga, oa, none⟩ j) = some u := fun j u hu => by
        rw [add_mk]
        exact (hI3.out.bel.cell (p := ⟨ga, oa + j, none⟩) hga).trans (hcl j u hu)
      clear hcl g0 g1 hI
      refine wp_region_M (M := [4]) (S := (fun W => W.cell? ⟨w.heap.size, 1, none⟩ = some (.slice (some ⟨ga, oa, none⟩) 32 c))) (by kernel_rfl) (by exact hI3.out.it.drew.cell 1) (fun hS => ?_)
      (refine mPure (i := 0) (v := ?v1) rfl (by kernel_rfl) (fun _ _ _ h => h) (Or.inl ⟨by rfl, ?y1⟩) (.inr hS) ?r1; (case y1 => (intro W hW; clear hW; go_simp; (try with_reducible rfl); done)); try simp only [Act.put, List.setIfInBounds_toArray, List.set_cons_zero, List.set_cons_succ])
      (refine mPure (i := 1) (v := ?v2) rfl (by kernel_rfl) (fun _ _ _ h => h) (Or.inl ⟨by rfl, ?y2⟩) (.inr hS) ?r2; (case y2 => (intro W hW; clear hW; go_simp; (try with_reducible rfl); done)); try simp only [Act.put, List.setIfInBounds_toArray, List.set_cons_zero, List.set_cons_succ])
      (refine mPure (i := 2) (v := ?v3) rfl (by kernel_rfl) (fun _ _ _ h => h) (Or.inl ⟨by rfl, ?y3⟩) (.inr hS) ?r3; (case y3 => (intro W hW; clear hW; go_simp; (try with_reducible rfl); done)); try simp only [Act.put, List.setIfInBounds_toArray, List.set_cons_zero, List.set_cons_succ])
      (refine mTake (i := 3) (v := ?v4) rfl (by kernel_rfl) (fun _ _ _ h => h) (Or.inl ⟨by rfl, ?y4⟩) hS ?r4; (case y4 => (intro W hW; ((have g := hW; go_simp)); (try with_reducible rfl); done)); try simp only [Act.put, List.setIfInBounds_toArray, List.set_cons_zero, List.set_cons_succ])
      (refine mOne (i := 4) rfl (by kernel_rfl) (fun K hK => ?_))
      rw [if_pos (by rfl)]
      refine wp_copy_row _ _ 22 22 5 rfl (w.heap.size + 2) 1 32 32 ⟨ga, oa, none⟩ 32 c (refRow 2 Nd.z32 none 0 0) 26 (bv b) rfl rfl Try.underlying22 (by kernel_rfl) hI3.out.r.drew (by rw [bv_length, hbl.out]; rfl) hcl3 (by rw [bv_length, hbl.out, refRow_size rfl]; omega) (bv_one b) ?_
      rw [hrow]
      (refine hK.out _ _ (.inl ⟨4, by simp, by kernel_rfl⟩) ?_; clear hK K; try simp only [Act.put, List.setIfInBounds_toArray, List.set_cons_zero, List.set_cons_succ])
      refine wpAnyM_done (by kernel_rfl) ?_ _
      have hr5 : Blk (w3.drew.setRow (w.heap.size + 2) (refRow 2 b none 0 0)) (w.heap.size + 2) 26 (refRow 2 b none 0 0) := hI3.out.r.drew.row _
      have hq5 : Blk (w3.drew.setRow (w.heap.size + 2) (refRow 2 b none 0 0)) (w.heap.size + 1) 26 refZ := hI3.out.res.drew.row_far _ (by omega)
      have hb5 := below_row hI3.out.bel.drew (show w.heap.size ≤ w.heap.size + 2 by omega) (refRow 2 b none 0 0)
      have hres : RefIn (fun q => w.heap.size ≤ q) ((w3.drew.setRow (w.heap.size + 2) (refRow 2 b none 0 0)).setRow (w.heap.size + 1) (refRow 2 b none 0 0)) (.agg (refRow 2 b none 0 0)) ⟨2, b, []⟩ := ⟨none, 0, 0, rfl, hbl.out, rfl, Nat.le_refl _, by unfold maxLen; omega, ⟨rfl, fun h => by omega⟩⟩
      have hb6 := below_row hb5 (show w.heap.size ≤ w.heap.size + 1 by omega) (refRow 2 b none 0 0)
      replace hres := Lib.hid hres
      replace hb6 := Lib.hid hb6
      clear hb5 hcl3 hrow
      go_wp2_with (first
        | (refine wpList_load_row rfl 26 _ rfl (w.heap.size + 2) rfl _ _ _ _ hr5 Try.underlying26 rfl (by rw [refRow_size hbl.out]; exact info_ref) ?_)
        | (refine wpList_store_row rfl 26 _ _ rfl (w.heap.size + 1) (refRow 2 b none 0 0) rfl rfl _ _ hq5 (by rw [refRow_size hbl.out]; exact info_ref) (by rw [refRow_size hbl.out]; rfl) (refRow_one _ _ _ _ _) ?_))
      refine bodyPost_ret (v := .tuple #[.agg (refRow 2 b none 0 0), .bool true]) (results_row_tmp rfl _ _ (w.heap.size + 1) _ (refRow 2 b none 0 0) _ _ _ rfl rfl (hq5.row _) Try.underlying26 rfl (by rw [refRow_size hbl.out]; exact info_ref)) rfl ?_
      exact ⟨hb6.out, _, by rw [hro.out], by rw [hro.out]; exact hres.out⟩
    · have hro := Lib.hid (show Nd.refOf x = (Nd.rf0, false) by rw [hro0, if_neg (by rw [← hn.out]; exact h0), if_neg (by rw [← hn.out]; exact h32)])
      have h32' : ¬ (n : Int) = 32 := by omega
      clear hro0 h0 h32
      go_enter Try.func36, Try.ntmps36
      go_wp2_with (refine wpList_store_row rfl 26 _ _ rfl (w.heap.size + 1) (refRow 0 Nd.z32 none 0 0) rfl rfl _ _ hr1 (by rw [refRow_size rfl]; exact info_ref) (by rw [refRow_size rfl]; rfl) (refRow_one _ _ _ _ _) ?_)
      refine bodyPost_ret (v := .tuple #[.agg (refRow 0 Nd.z32 none 0 0), .bool false]) (results_row_tmp rfl _ _ (w.heap.size + 1) _ (refRow 0 Nd.z32 none 0 0) _ _ _ rfl rfl (hr1.row _) Try.underlying26 rfl (by rw [refRow_size rfl]; exact info_ref)) rfl ?_
      exact ⟨hbeZ.out, _, by rw [hro.out], by rw [hro.out]; exact hzero.out⟩
end Go.Proofs.YtahaaeenbahknaaRRRR
