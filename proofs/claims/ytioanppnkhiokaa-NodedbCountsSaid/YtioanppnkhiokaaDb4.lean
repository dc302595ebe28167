import Derived.Test.YtioanppnkhiokaaDb3
namespace Go.Proofs.Ytioanppnkhiokaa
open Go.RowKit

/-- what Drop tells, and leaves -/
def dropK (v : Option (ByteArray × Int)) : Int := if v.isSome then 0 else 61
def dropG (v : Option (ByteArray × Int)) : Bool := match v with
  | none => false
  | some (_, n) => decide (n = 1)
def dropM (m : Assoc) (d : List UInt8) (v : Option (ByteArray × Int)) : Assoc := match v with
  | none => m
  | some (t, n) => if n = 1 then m.del d else m.put d (held t (n - 1))
def DropPost (w : World) (S b : Nat) (most : Int) (m : Assoc) (g : Bool) (k : Int) (e : Ending) (w' : World) : Prop :=
  e = .returned (.tuple #[.bool g, .int .i64 k]) ∧ StoreIs w' S b most m ∧ w.grownBy w' (some b)
set_option maxRecDepth 100000 in
set_option maxHeartbeats 1000000 in
theorem db_Drop (S b : Nat) (most : Int) (m : Assoc) (d : List UInt8) (v : Option (ByteArray × Int)) (w : World) (h : StoreIs w S b most m) (hd : d.length = 32) (hv : m.get d = v.map fun x => held x.1 x.2)
    (hvs : ∀ x, v = some x → 1 ≤ x.2 ∧ x.2 ≤ 4294967295) :
    Calls Try.prog 13 #[.pointer (some ⟨S, 0, none⟩), .agg (row32 d)] w (DropPost w S b most (dropM m d v) (dropG v) (dropK v)) := by
  have H0 := Lib.hid h
  have hsz := row32_size hd
  have HA := Lib.hid (show AtStore w w.heap.size S b most m d (w.alloc (.cells (row32 d) 30)) from ⟨Blk.new _ _ _, h.alloc _, Nat.le_refl _, (Below.refl _ _).alloc (Nat.le_refl _) _⟩)
  clear h
  have hlk := fun W (hW : AtStore w w.heap.size S b most m d W) => hW.look v hd hv
  clear hv
  have hvv : v = (if v.isSome then some (v.getD (⟨#[]⟩, 0)) else none) := by cases v <;> rfl
  generalize v.isSome = is at *
  generalize v.getD (⟨#[]⟩, 0) = vv at *
  obtain ⟨t, n⟩ := vv
  replace hvv := Lib.hid hvv
  replace hvs := Lib.hid hvs
  have HL := Lib.hid hlk
  clear hlk
  go_enter Try.func13, Try.ntmps13
  go_wp2_with fail
  refine code_at _ HA.out ?_
  clear HA
  intro w1 ha
  have g1 : w1.cell? ⟨S, 1, none⟩ = some (.map (some b)) := ha.2.1.cells.cell 1
  have hlk := HL.out
  have hB := ha.2.2.2
  have hsz1 := hB.size
  replace ha := Lib.hid ha
  replace hB := Lib.hid hB
  refine wp_region_held_drew (S := (AtStore w w.heap.size S b most m d)) (by kernel_rfl) (by exact ⟨ha.out.1.drew, ha.out.2.1.drew, ha.out.2.2.1, ha.out.2.2.2.drew⟩) (fun hS => ?_)
  (refine hTake (i := 0) (v := ?v1) rfl (by kernel_rfl) (by kernel_rfl) (by kernel_rfl) (fun _ _ _ h => h) (Or.inl ⟨by rfl, ?y1⟩) hS ?r1; (case y1 => (intro W hW; (go_simp); (try with_reducible rfl); done)); try simp only [Act.put, List.setIfInBounds_toArray, List.set_cons_zero, List.set_cons_succ])
  (refine hTake (i := 1) (v := ?v2) rfl (by kernel_rfl) (by kernel_rfl) (by kernel_rfl) (fun _ _ _ h => h) (Or.inl ⟨by rfl, ?y2⟩) hS ?r2; (case y2 => (intro W hW; (go_simp); (try with_reducible rfl); done)); try simp only [Act.put, List.setIfInBounds_toArray, List.set_cons_zero, List.set_cons_succ])
  (refine hTake (i := 2) (v := ?v3) rfl (by kernel_rfl) (by kernel_rfl) (by kernel_rfl) (fun _ _ _ h => h) (Or.inl ⟨by rfl, ?y3⟩) hS ?r3; (case y3 => (intro W hW; (go_simp); (try with_reducible rfl); done)); try simp only [Act.put, List.setIfInBounds_toArray, List.set_cons_zero, List.set_cons_succ])
  (refine hTake (i := 3) (v := ?v4) rfl (by kernel_rfl) (by kernel_rfl) (by kernel_rfl) (fun _ _ _ h => h) (Or.inl ⟨by rfl, ?y4⟩) hS ?r4; (case y4 => (intro W hW; ((have g := hW.2.1.cells.cell 1; simp at g; go_simp)); (try with_reducible rfl); done)); try simp only [Act.put, List.setIfInBounds_toArray, List.set_cons_zero, List.set_cons_succ])
  (refine hTake (i := 4) rfl (by kernel_rfl) (by kernel_rfl) (by kernel_rfl) (fun _ _ _ h => h) (yieldsIf_load_mid (by rfl) _ _ rfl _ _ rfl (bv d) _ (fun W hW => (hW.1.range)) Try.underlying30 rfl (by rw [bv_length, hd]; exact info_digest)) hS ?_; try simp only [Act.put, List.setIfInBounds_toArray, List.set_cons_zero, List.set_cons_succ])
  (refine hTake (i := 5) (v := ?v5) rfl (by kernel_rfl) (by kernel_rfl) (by kernel_rfl) (fun _ _ _ h => h) (Or.inl ⟨by rfl, ?y5⟩) hS ?r5; (case y5 => (intro W hW; ((have g := hlk W hW; go_simp)); (try with_reducible rfl); done)); try simp only [Act.put, List.setIfInBounds_toArray, List.set_cons_zero, List.set_cons_succ])
  (refine hTake (i := 6) (v := ?v6) rfl (by kernel_rfl) (by kernel_rfl) (by kernel_rfl) (fun _ _ _ h => h) (Or.inl ⟨by rfl, ?y6⟩) hS ?r6; (case y6 => (intro W hW; (go_simp); (try with_reducible rfl); done)); try simp only [Act.put, List.setIfInBounds_toArray, List.set_cons_zero, List.set_cons_succ])
  (refine hTake (i := 7) (v := ?v7) rfl (by kernel_rfl) (by kernel_rfl) (by kernel_rfl) (fun _ _ _ h => h) (Or.inl ⟨by rfl, ?y7⟩) hS ?r7; (case y7 => (intro W hW; (go_simp); (try with_reducible rfl); done)); try simp only [Act.put, List.setIfInBounds_toArray, List.set_cons_zero, List.set_cons_succ])
  (refine hTake (i := 8) (v := ?v8) rfl (by kernel_rfl) (by kernel_rfl) (by kernel_rfl) (fun _ _ _ h => h) (Or.inl ⟨by rfl, ?y8⟩) hS ?r8; (case y8 => (intro W hW; (go_simp); (try with_reducible rfl); done)); try simp only [Act.put, List.setIfInBounds_toArray, List.set_cons_zero, List.set_cons_succ])
  (refine hOne (i := 9) rfl (by kernel_rfl) (fun K hK => ?_))
  go_simp
  (refine hK.out _ _ (by exact (ha.out.alloc _).drew) (fun hS => ?_); clear hK K; try simp only [Act.put, List.setIfInBounds_toArray, List.set_cons_zero, List.set_cons_succ])
  (refine hOne (i := 10) rfl (by kernel_rfl) (fun K hK => ?_))
  go_simp
  (refine hK.out _ _ (by exact (ha.out.alloc _).drew) (fun hS => ?_); clear hK K; try simp only [Act.put, List.setIfInBounds_toArray, List.set_cons_zero, List.set_cons_succ])
  (refine hTake (i := 11) (v := ?v9) rfl (by kernel_rfl) (by kernel_rfl) (by kernel_rfl) (fun _ _ _ h => h) (Or.inl ⟨by rfl, ?y9⟩) hS ?r9; (case y9 => (intro W hW; (go_simp); (try with_reducible rfl); done)); try simp only [Act.put, List.setIfInBounds_toArray, List.set_cons_zero, List.set_cons_succ])
  refine wpAnyH_done (by kernel_rfl) ?_ _
  have hJ := Lib.hid ((Blk.new w1 73 #[.string t, .int .i64 n]).drew)
  have hJn := Lib.hid (show w.heap.size < w1.heap.size from ha.out.1.lt)
  replace hS := Lib.hid hS
  clear ha g1 hB hsz1
  rename_i hSa hSb
  clear hSa hSb
  generalize (w1.alloc (.cells #[.string t, .int .i64 n] 73)).drew = w4 at *
  generalize w1.heap.size = Hb at *
  have j1 : w4.cell? ⟨Hb, 1, none⟩ = some (.int .i64 n) := hJ.out.cell 1
  have k1 := hJ.out.frozen 1
  cases is with
  | false =>
    have hv1 : v = none := hvv.out
    subst hv1
    go_wp2_with fail
    go_ret2
    have hb := hS.out.2.2.2
    exact ⟨rfl, H0.out.step hb, grown_below hb⟩
  | true =>
    have hv1 : v = some (t, n) := hvv.out
    subst hv1
    obtain ⟨hn0, hn1⟩ := hvs.out _ rfl
    clear hlk
    by_cases h1 : n = 1
    · subst h1
      go_wp2_with fail
      have hSl := H0.out.cells.lt
      have hbl := H0.out.map.lt
      have hJl := hJn.out
      have hbs := (Below.refl Hb w4).setCell (p := ⟨Hb, 1, none⟩) (Nat.le_refl _) (.int .i64 (0))
      refine code_at (fun wx => AtStore w w.heap.size S b most m d wx ∧ Blk wx Hb 73 #[.string t, .int .i64 (0)]) ⟨?_, ?_⟩ ?_
      · exact ⟨hS.out.1.below hbs hJl, hS.out.2.1.below hbs (by omega) (by omega), hS.out.2.2.1, hS.out.2.2.2.trans (hbs.mono (by omega))⟩
      · (apply Blk.eq; (repeat (first | with_reducible apply Blk.set_ | with_reducible apply Blk.drew | with_reducible exact hJ.out)); rfl)
      clear hbs hS hJ j1 k1
      rintro w5 ⟨hP, hJ⟩
      replace hP := Lib.hid hP
      replace hJ := Lib.hid hJ
      refine wp_region_held_drew (S := (fun wx => Blk wx S 77 #[.int .i64 most, .map (some b)] ∧ Blk wx w.heap.size 30 (row32 d) ∧ Blk wx Hb 73 #[.string t, .int .i64 (0)])) (by kernel_rfl) (by exact ⟨hP.out.2.1.cells.drew, hP.out.1.drew, hJ.out.drew⟩) (fun hS => ?_)
      (refine hTake (i := 0) (v := ?v10) rfl (by kernel_rfl) (by kernel_rfl) (by kernel_rfl) (fun _ _ _ h => h) (Or.inl ⟨by rfl, ?y10⟩) hS ?r10; (case y10 => (intro W hW; (go_simp); (try with_reducible rfl); done)); try simp only [Act.put, List.setIfInBounds_toArray, List.set_cons_zero, List.set_cons_succ])
      (refine hTake (i := 1) (v := ?v11) rfl (by kernel_rfl) (by kernel_rfl) (by kernel_rfl) (fun _ _ _ h => h) (Or.inl ⟨by rfl, ?y11⟩) hS ?r11; (case y11 => (intro W hW; (go_simp); (try with_reducible rfl); done)); try simp only [Act.put, List.setIfInBounds_toArray, List.set_cons_zero, List.set_cons_succ])
      (refine hTake (i := 2) (v := ?v12) rfl (by kernel_rfl) (by kernel_rfl) (by kernel_rfl) (fun _ _ _ h => h) (Or.inl ⟨by rfl, ?y12⟩) hS ?r12; (case y12 => (intro W hW; (go_simp); (try with_reducible rfl); done)); try simp only [Act.put, List.setIfInBounds_toArray, List.set_cons_zero, List.set_cons_succ])
      (refine hTake (i := 3) (v := ?v13) rfl (by kernel_rfl) (by kernel_rfl) (by kernel_rfl) (fun _ _ _ h => h) (Or.inl ⟨by rfl, ?y13⟩) hS ?r13; (case y13 => (intro W hW; ((have g := hW.1.cell 1; simp at g; go_simp)); (try with_reducible rfl); done)); try simp only [Act.put, List.setIfInBounds_toArray, List.set_cons_zero, List.set_cons_succ])
      (refine hTake (i := 4) rfl (by kernel_rfl) (by kernel_rfl) (by kernel_rfl) (fun _ _ _ h => h) (yieldsIf_load_mid (by rfl) _ _ rfl _ _ rfl (bv d) _ (fun W hW => (hW.2.1.range)) Try.underlying30 rfl (by rw [bv_length, hd]; exact info_digest)) hS ?_; try simp only [Act.put, List.setIfInBounds_toArray, List.set_cons_zero, List.set_cons_succ])
      (refine hOne (i := 5) rfl (by kernel_rfl) (fun K hK => ?_))
      rw [if_pos (by rfl)]
      refine wp_delete_map _ _ 75 rfl _ Try.underlying75 b m rfl hP.out.2.1.map.drew d hd rfl ?_
      intro w7 hm7 hg7
      have hS7 : S ≠ b := hP.out.2.1.ne
      have hc7 := hP.out.2.1.cells.drew.grown hg7 hS7
      have hgw := grown_trans hP.out.2.2.2.drew hg7
      (refine hK.out _ _ (by exact ⟨hc7, hP.out.1.drew.grown hg7 (by omega), hJ.out.drew.grown hg7 (by omega)⟩) (fun hS => ?_); clear hK K; try simp only [Act.put, List.setIfInBounds_toArray, List.set_cons_zero, List.set_cons_succ])
      refine wpAnyH_done (by kernel_rfl) ?_ _
      replace hc7 := Lib.hid hc7
      replace hgw := Lib.hid hgw
      replace hm7 := Lib.hid hm7
      clear hS hg7 hP hJ
      go_wp2_with fail
      go_ret2
      exact ⟨by simp [dropG, dropK], ⟨hc7.out, by have := hm7.out; simpa [dropM] using this, hS7⟩, hgw.out⟩
    · have hne : ¬ n - 1 = 0 := by omega
      go_wp2_with fail
      have hSl := H0.out.cells.lt
      have hbl := H0.out.map.lt
      have hJl := hJn.out
      have hbs := (Below.refl Hb w4).setCell (p := ⟨Hb, 1, none⟩) (Nat.le_refl _) (.int .i64 (n - 1))
      refine code_at (fun wx => AtStore w w.heap.size S b most m d wx ∧ Blk wx Hb 73 #[.string t, .int .i64 (n - 1)]) ⟨?_, ?_⟩ ?_
      · exact ⟨hS.out.1.below hbs hJl, hS.out.2.1.below hbs (by omega) (by omega), hS.out.2.2.1, hS.out.2.2.2.trans (hbs.mono (by omega))⟩
      · (apply Blk.eq; (repeat (first | with_reducible apply Blk.set_ | with_reducible apply Blk.drew | with_reducible exact hJ.out)); rfl)
      clear hbs hS hJ j1 k1
      rintro w5 ⟨hP, hJ⟩
      replace hP := Lib.hid hP
      replace hJ := Lib.hid hJ
      refine wp_region_held_drew (S := (fun wx => Blk wx S 77 #[.int .i64 most, .map (some b)] ∧ Blk wx w.heap.size 30 (row32 d) ∧ Blk wx Hb 73 #[.string t, .int .i64 (n - 1)])) (by kernel_rfl) (by exact ⟨hP.out.2.1.cells.drew, hP.out.1.drew, hJ.out.drew⟩) (fun hS => ?_)
      (refine hTake (i := 0) (v := ?v14) rfl (by kernel_rfl) (by kernel_rfl) (by kernel_rfl) (fun _ _ _ h => h) (Or.inl ⟨by rfl, ?y14⟩) hS ?r14; (case y14 => (intro W hW; (go_simp); (try with_reducible rfl); done)); try simp only [Act.put, List.setIfInBounds_toArray, List.set_cons_zero, List.set_cons_succ])
      (refine hTake (i := 1) (v := ?v15) rfl (by kernel_rfl) (by kernel_rfl) (by kernel_rfl) (fun _ _ _ h => h) (Or.inl ⟨by rfl, ?y15⟩) hS ?r15; (case y15 => (intro W hW; (go_simp); (try with_reducible rfl); done)); try simp only [Act.put, List.setIfInBounds_toArray, List.set_cons_zero, List.set_cons_succ])
      (refine hTake (i := 2) (v := ?v16) rfl (by kernel_rfl) (by kernel_rfl) (by kernel_rfl) (fun _ _ _ h => h) (Or.inl ⟨by rfl, ?y16⟩) hS ?r16; (case y16 => (intro W hW; (go_simp); (try with_reducible rfl); done)); try simp only [Act.put, List.setIfInBounds_toArray, List.set_cons_zero, List.set_cons_succ])
      (refine hTake (i := 3) (v := ?v17) rfl (by kernel_rfl) (by kernel_rfl) (by kernel_rfl) (fun _ _ _ h => h) (Or.inl ⟨by rfl, ?y17⟩) hS ?r17; (case y17 => (intro W hW; ((have g := hW.1.cell 1; simp at g; go_simp)); (try with_reducible rfl); done)); try simp only [Act.put, List.setIfInBounds_toArray, List.set_cons_zero, List.set_cons_succ])
      (refine hTake (i := 4) rfl (by kernel_rfl) (by kernel_rfl) (by kernel_rfl) (fun _ _ _ h => h) (yieldsIf_load_mid (by rfl) _ _ rfl _ _ rfl (bv d) _ (fun W hW => (hW.2.1.range)) Try.underlying30 rfl (by rw [bv_length, hd]; exact info_digest)) hS ?_; try simp only [Act.put, List.setIfInBounds_toArray, List.set_cons_zero, List.set_cons_succ])
      (refine hTake (i := 5) (v := ?v18) rfl (by kernel_rfl) (by kernel_rfl) (by kernel_rfl) (fun _ _ _ h => h) (Or.inl ⟨by rfl, ?y18⟩) hS ?r18; (case y18 => (intro W hW; ((have g := hW.2.2.cell 0; have g' := hW.2.2.cell 1; simp at g g'; go_simp)); (try with_reducible rfl); done)); try simp only [Act.put, List.setIfInBounds_toArray, List.set_cons_zero, List.set_cons_succ])
      (refine hOne (i := 6) rfl (by kernel_rfl) (fun K hK => ?_))
      rw [if_pos (by rfl)]
      refine wp_update_map _ _ _ 75 rfl _ Try.underlying75 b m rfl hP.out.2.1.map.drew d hd (held t (n - 1)) rfl rfl ?_
      intro w7 hm7 hg7
      have hS7 : S ≠ b := hP.out.2.1.ne
      have hc7 := hP.out.2.1.cells.drew.grown hg7 hS7
      have hgw := grown_trans hP.out.2.2.2.drew hg7
      (refine hK.out _ _ (by exact ⟨hc7, hP.out.1.drew.grown hg7 (by omega), hJ.out.drew.grown hg7 (by omega)⟩) (fun hS => ?_); clear hK K; try simp only [Act.put, List.setIfInBounds_toArray, List.set_cons_zero, List.set_cons_succ])
      refine wpAnyH_done (by kernel_rfl) ?_ _
      replace hc7 := Lib.hid hc7
      replace hgw := Lib.hid hgw
      replace hm7 := Lib.hid hm7
      clear hS hg7 hP hJ
      go_wp2_with fail
      go_ret2
      exact ⟨by simp [dropG, dropK, h1], ⟨hc7.out, by have := hm7.out; simpa [dropM, h1] using this, hS7⟩, hgw.out⟩
end Go.Proofs.Ytioanppnkhiokaa
