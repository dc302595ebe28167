/-
  Package nest, what looks: a text.
-/
import Derived.Test.YtahaaeenbahknaaRRRRNe5
import Derived.Lib.MinMax
import Derived.Test.YtahaaeenbahknaaRRRRRegM
namespace Go.Proofs.YtahaaeenbahknaaRRRR
open Go.RowKit

set_option maxHeartbeats 1000000 in
set_option maxRecDepth 100000 in
theorem look_text (g W deep : Nat) (A : Option Addr) (n c : Nat) (w : World) (hk : Blk w g 59 #[.int .i64 W, .int .i64 0]) (hlim : W + (max n 1) ≤ 16777215) :
    Calls Try.prog 30 #[.pointer (some ⟨g, 0, none⟩), txV A n c, .int .i64 deep] w fun e w' => e = .returned (.tuple #[]) ∧ Blk w' g 59 #[.int .i64 ((W + max n 1 : Nat) : Int), .int .i64 0] ∧ w.grownBy w' (some g) := by
  have hg := hk.lt
  have hb := Blk.new w 46 #[.bool false, .slice A n c, .slice none 0 0]
  have hk1 := hk.alloc (.cells #[.bool false, .slice A n c, .slice none 0 0] 46)
  have hgr := grown_alloc (World.grownBy.refl w (some g)) (.cells #[.bool false, .slice A n c, .slice none 0 0] 46)
  replace hb := Lib.hid hb
  replace hk1 := Lib.hid hk1
  replace hgr := Lib.hid hgr
  clear hk
  have hmx : max (n : Int) 1 = ((max n 1 : Nat) : Int) := by omega
  have hwr : IntKind.i64.wrap ((W : Int) + ((max n 1 : Nat) : Int)) = ((W + max n 1 : Nat) : Int) := by rw [IntKind.wrap_i64]; omega
  have hlim' : ¬ (16777215 : Int) < ((W + max n 1 : Nat) : Int) := by omega
  unfold txV
  go_enter Try.func30, Try.ntmps30
  go_wp2_with fail
  have hs1 : (w.alloc (.cells #[.bool false, .slice A n c, .slice none 0 0] 46)).heap.size = w.heap.size + 1 := by simp
  generalize w.alloc (.cells #[.bool false, .slice A n c, .slice none 0 0] 46) = w1 at *
  have g0 : w1.cell? ⟨g, 0, none⟩ = some (.int .i64 W) := hk1.out.cell 0
  have g1 : w1.cell? ⟨w.heap.size, 1, none⟩ = some (.slice A n c) := hb.out.cell 1
  refine wp_region_M (M := [11]) (S := (fun W' => W'.cell? ⟨g, 0, none⟩ = some (.int .i64 W) ∧ W'.cell? ⟨w.heap.size, 1, none⟩ = some (.slice A n c))) (by kernel_rfl) ⟨g0, g1⟩ (fun hS => ?_)
  (refine mPure (i := 0) (v := ?v1) rfl (by kernel_rfl) (fun _ _ _ h => h) (Or.inl ⟨by rfl, ?y1⟩) (.inr hS) ?r1; (case y1 => (intro W hW; clear hW; go_simp; (try with_reducible rfl); done)); try simp only [Act.put, List.setIfInBounds_toArray, List.set_cons_zero, List.set_cons_succ])
  (refine mPure (i := 1) (v := ?v2) rfl (by kernel_rfl) (fun _ _ _ h => h) (Or.inl ⟨by rfl, ?y2⟩) (.inr hS) ?r2; (case y2 => (intro W hW; clear hW; go_simp; (try with_reducible rfl); done)); try simp only [Act.put, List.setIfInBounds_toArray, List.set_cons_zero, List.set_cons_succ])
  (refine mPure (i := 2) (v := ?v3) rfl (by kernel_rfl) (fun _ _ _ h => h) (Or.inl ⟨by rfl, ?y3⟩) (.inr hS) ?r3; (case y3 => (intro W hW; clear hW; go_simp; (try with_reducible rfl); done)); try simp only [Act.put, List.setIfInBounds_toArray, List.set_cons_zero, List.set_cons_succ])
  (refine mTake (i := 3) (v := ?v4) rfl (by kernel_rfl) (fun _ _ _ h => h) (Or.inl ⟨by rfl, ?y4⟩) hS ?r4; (case y4 => (intro W hW; ((have g := hW.1; go_simp)); (try with_reducible rfl); done)); try simp only [Act.put, List.setIfInBounds_toArray, List.set_cons_zero, List.set_cons_succ])
  (refine mPure (i := 4) (v := ?v5) rfl (by kernel_rfl) (fun _ _ _ h => h) (Or.inl ⟨by rfl, ?y5⟩) (.inr hS) ?r5; (case y5 => (intro W hW; clear hW; go_simp; (try with_reducible rfl); done)); try simp only [Act.put, List.setIfInBounds_toArray, List.set_cons_zero, List.set_cons_succ])
  (refine mTake (i := 5) (v := ?v6) rfl (by kernel_rfl) (fun _ _ _ h => h) (Or.inl ⟨by rfl, ?y6⟩) hS ?r6; (case y6 => (intro W hW; ((have g := hW.2; go_simp)); (try with_reducible rfl); done)); try simp only [Act.put, List.setIfInBounds_toArray, List.set_cons_zero, List.set_cons_succ])
  (refine mPure (i := 6) (v := ?v7) rfl (by kernel_rfl) (fun _ _ _ h => h) (Or.inl ⟨by rfl, ?y7⟩) (.inr hS) ?r7; (case y7 => (intro W hW; clear hW; go_simp; (try with_reducible rfl); done)); try simp only [Act.put, List.setIfInBounds_toArray, List.set_cons_zero, List.set_cons_succ])
  (refine mPure (i := 7) (v := ?v8) rfl (by kernel_rfl) (fun _ _ _ h => h) (Or.inl ⟨by rfl, ?y8⟩) (.inr hS) ?r8; (case y8 => (intro W hW; clear hW; go_simp; (try with_reducible rfl); done)); try simp only [Act.put, List.setIfInBounds_toArray, List.set_cons_zero, List.set_cons_succ])
  (refine mPure (i := 8) (v := ?v9) rfl (by kernel_rfl) (fun _ _ _ h => h) (Or.inl ⟨by rfl, ?y9⟩) (.inr hS) ?r9; (case y9 => (intro W hW; clear hW; go_simp; (try with_reducible rfl); done)); try simp only [Act.put, List.setIfInBounds_toArray, List.set_cons_zero, List.set_cons_succ])
  (refine mPure (i := 9) (v := ?v10) rfl (by kernel_rfl) (fun _ _ _ h => h) (Or.inl ⟨by rfl, ?y10⟩) (.inr hS) ?r10; (case y10 => (intro W hW; clear hW; go_simp; (try with_reducible rfl); done)); try simp only [Act.put, List.setIfInBounds_toArray, List.set_cons_zero, List.set_cons_succ])
  (refine mPure (i := 10) (v := ?v11) rfl (by kernel_rfl) (fun _ _ _ h => h) (Or.inl ⟨by rfl, ?y11⟩) (.inr hS) ?r11; (case y11 => (intro W hW; clear hW; go_simp; (try with_reducible rfl); done)); try simp only [Act.put, List.setIfInBounds_toArray, List.set_cons_zero, List.set_cons_succ])
  have f0 : w1.drew.frozen? ⟨g, 0, none⟩ = false := hk1.out.drew.frozen 0
  have g0' := hS.1
  (refine mOne (i := 11) rfl (by kernel_rfl) (fun K hK => ?_))
  go_simp
  (refine hK.out _ _ (.inl ⟨11, by simp, by kernel_rfl⟩) ?_; clear hK K; try simp only [Act.put, List.setIfInBounds_toArray, List.set_cons_zero, List.set_cons_succ])
  refine wpAnyM_done (by kernel_rfl) ?_ _
  clear hS g0 g1 f0 g0'
  have hk2 := (hk1.out.set_ 0 (.int .i64 ((W : Int) + ((max n 1 : Nat) : Int)))).drew.eq (show _ = #[.int .i64 ((W : Int) + ((max n 1 : Nat) : Int)), .int .i64 0] from rfl)
  have hb2 := (hb.out.far (p := ⟨g, 0, none⟩) (by simp; omega) (.int .i64 ((W : Int) + ((max n 1 : Nat) : Int)))).drew
  have hgr2 := grown_drew (grown_set (i := 0) (u := .int .i64 ((W : Int) + ((max n 1 : Nat) : Int))) hgr.out)
  clear hk1 hb hgr
  generalize (w1.setCell ⟨g, 0, none⟩ (.int .i64 ((W : Int) + ((max n 1 : Nat) : Int)))).drew = w2 at *
  have hc : (W : Int) + ((max n 1 : Nat) : Int) = ((W + max n 1 : Nat) : Int) := by omega
  rw [hc] at hk2
  clear hc hwr hmx hlim
  obtain ⟨W2, hW2⟩ : ∃ W2, W2 = W + max n 1 := ⟨_, rfl⟩
  rw [← hW2] at hk2 hlim'
  replace hW2 := Lib.hid hW2
  have g0 : w2.cell? ⟨g, 0, none⟩ = some (.int .i64 W2) := hk2.cell 0
  have g1 : w2.cell? ⟨g, 1, none⟩ = some (.int .i64 0) := hk2.cell 1
  have g2 : w2.cell? ⟨w.heap.size, 2, none⟩ = some (.slice none 0 0) := hb2.cell 2
  replace hk2 := Lib.hid hk2
  replace hb2 := Lib.hid hb2
  replace hgr2 := Lib.hid hgr2
  go_wp2_with fail
  refine wp_loop_rounds 1 ?_
  rw [rounds_succ]
  go_wp2_with fail
  go_end0
  rw [← hW2.out]
  exact ⟨rfl, hk2.out, hgr2.out⟩
end Go.Proofs.YtahaaeenbahknaaRRRR
