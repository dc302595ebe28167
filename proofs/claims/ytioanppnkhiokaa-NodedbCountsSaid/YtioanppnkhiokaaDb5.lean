import Derived.Test.YtioanppnkhiokaaDb4
import Derived.DeepKeys
import Derived.Lib.SlBytesConst
namespace Go.Proofs.Ytioanppnkhiokaa
open Go.RowKit

set_option maxRecDepth 100000 in
theorem run_equal_dig (a b : List UInt8) (ha : a.length = 32) (hb : b.length = 32) (w : World) : (Op.equal 30 (.agg (row32 a)) (.agg (row32 b))).run Try.prog w = .ok (decide (a = b)) w := by
  obtain ⟨la, hla⟩ := dig_key a ha
  obtain ⟨lb, hlb⟩ := dig_key b hb
  obtain ⟨r, hr, hiff⟩ := run_equal_deep (P := Try.prog) w (m := 2) (by omega) (k := 30) (by kernel_rfl) (by kernel_rfl) hla hlb
  unfold digV at hr
  rw [hr]
  congr 1
  rw [Bool.eq_iff_iff, hiff, decide_eq_true_eq]
  constructor
  · intro e
    subst e
    exact digV_inj (dig_law.inj hla hlb)
  · intro e
    subst e
    rw [hla] at hlb
    exact Option.some.inj hlb
theorem run_eql_dig (a b : List UInt8) (ha : a.length = 32) (hb : b.length = 32) (w : World) : (binOp .eql 30 (.agg (row32 a)) (.agg (row32 b))).run Try.prog w = .ok (.bool (decide (a = b))) w := by
  simp [binOp, run_equal_dig a b ha hb]

theorem lit_marked {n : Nat} (w : World) (cs : Array Value) (l : List UInt8) (t : TypeId) (f : Nat × Nat) (h : cs.toList = bv l) (hm : l.length ≤ maxLen) (hn : n = l.length) :
    Bytes (w.alloc (.cells cs t f)) (w.heap.size + 1) (some ⟨w.heap.size, 0, none⟩) n n l := by
  subst hn
  refine ⟨rfl, Nat.le_refl _, hm, ⟨by simp [bv], fun _ => ⟨w.heap.size, 0, rfl, Nat.lt_succ_self _, fun j u hu => ?_⟩⟩⟩
  rw [Nat.zero_add, cell_of_row (w.alloc (.cells cs t f)) w.heap.size j cs t f (heap_alloc_new w _)]
  rw [← h] at hu
  simpa using hu
def thing : ByteArray := ⟨#[116, 104, 105, 110, 103]⟩
/-- a store of the call's own -/
def NewStore (w : World) (most : Int) (w' : World) (T b : Nat) : Prop := w.heap.size ≤ b ∧ b < T ∧ StoreIs w' T b most [] ∧ Below w.heap.size w w'
def BegunPost (w : World) (most : Int) (e : Ending) (w' : World) : Prop := ∃ T b, e = .returned (.tuple #[.pointer (some ⟨T, 0, none⟩), .bool true]) ∧ NewStore w most w' T b
theorem NewStore.step {w w1 w2 : World} {most : Int} {T b : Nat} (h : NewStore w most w1 T b) (hb : Below w1.heap.size w1 w2) : NewStore w most w2 T b :=
  ⟨h.1, h.2.1, h.2.2.1.step hb, h.2.2.2.trans (hb.mono h.2.2.2.size)⟩
def BegI (w : World) (most : Int) (T b5 E S b : Nat) (D : List UInt8) (wx : World) : Prop := NewStore w most wx T b5 ∧ Blk wx E 30 (row32 D) ∧ StoreIs wx S b 1 [(D, held thing 1)]
theorem BegI.step {w : World} {most : Int} {T b5 E S b : Nat} {D : List UInt8} {w1 w2 : World} (h : BegI w most T b5 E S b D w1) (hb : Below w1.heap.size w1 w2) : BegI w most T b5 E S b D w2 :=
  ⟨h.1.step hb, h.2.1.below hb h.2.1.lt, h.2.2.step hb⟩
set_option maxRecDepth 100000 in
set_option maxHeartbeats 2000000 in
theorem law_begun (most : Int) (w : World) : Calls Try.prog 9 #[.int .i64 most] w (BegunPost w most) := by
  have hdl := Dig.of_length thing.data.toList
  have hth : (thing.toList == [116, 104, 105, 110, 103]) = true := by unfold thing; simp [go_sem]
  go_enter Try.func9, Try.ntmps9
  go_wp2_with fail
  refine (db_New 1 _).mono ?_
  rintro e w1 ⟨S, b, rfl, hb0, hSb, hst, hb1⟩
  replace hst := Lib.hid hst
  replace hb1 := Lib.hid hb1
  go_wp2_with fail
  refine (db_Put S b 1 [] thing none _ hst.out (by decide) _ rfl rfl (by simp)).mono ?_
  rintro e w2 ⟨rfl, hst2, hg2⟩
  have e1 : putK [] thing none 1 = 0 := by decide
  rw [show putM [] (Dig.of thing.data.toList) thing none 1 = [(Dig.of thing.data.toList, held thing 1)] by simp [putM, e1, Assoc.put, Assoc.get]] at hst2
  rw [e1, show putX [] (Dig.of thing.data.toList) thing none 1 = Dig.of thing.data.toList by simp [putX, e1]]
  generalize hD : Dig.of thing.data.toList = D at *
  have HD := Lib.hid hD
  clear hD e1
  have hb2 := Lib.hid (show Below w.heap.size w w2 from hb1.out.trans ⟨hg2.os, hg2.tape, hg2.output, hg2.size, fun k hk => hg2.block k (by have := hb1.out.size; omega) (by simp; omega)⟩)
  clear hst hg2 hb1
  replace hst2 := Lib.hid hst2
  unfold digV
  have hsd := row32_size hdl
  go_wp2_with (first
    | (refine wpList_store_row rfl 30 _ _ rfl w2.heap.size (row32 D) rfl rfl _ _ (Blk.zeros w2 _ 30 rfl) (by rw [hsd]; exact info_digest) (by rw [hsd]; rfl) (row32_one _) ?_)
    | (refine wpList_load_row rfl 30 _ rfl _ rfl _ (row32 D) _ _ ((Blk.zeros w2 _ 30 rfl).row _) Try.underlying30 rfl (by rw [hsd]; exact info_digest) ?_))
  refine calls_at (fun wx => Blk wx w2.heap.size 30 (row32 D) ∧ StoreIs wx S b 1 [(D, held thing 1)] ∧ Below w.heap.size w wx) ?_ ?_
  · have hb3 := below_row ((Below.refl w2.heap.size w2).alloc (Nat.le_refl _) (.cells (bv zero32).toArray 30)) (Nat.le_refl _) (row32 D)
    exact ⟨(Blk.zeros w2 _ 30 rfl).row _, hst2.out.step hb3, hb2.out.trans (hb3.mono hb2.out.size)⟩
  clear hst2 hb2
  generalize w2.heap.size = E
  rintro w3 ⟨hE, hst, hB⟩
  refine (db_Get S b 1 _ D (some (thing, 1)) _ hst hdl (by simp [Assoc.get])).mono ?_
  rintro e w4 ⟨rfl, hb4⟩
  replace hE := Lib.hid (hE.below hb4 hE.lt)
  replace hst := Lib.hid (hst.step hb4)
  replace hB := Lib.hid (hB.trans (hb4.mono hB.size))
  clear hb4
  simp only [Option.getD_some, Option.isSome_some]
  go_wp2_with fail
  refine (db_New most _).mono ?_
  rintro e w5 ⟨T, b5, rfl, hb5, hTb, hst5, hb6⟩
  replace hb5 := Nat.le_trans hB.out.size hb5
  replace hE := Lib.hid (hE.out.below hb6 hE.out.lt)
  replace hst := Lib.hid (hst.out.step hb6)
  replace hB := Lib.hid (hB.out.trans (hb6.mono hB.out.size))
  clear hb6
  have hP := Lib.hid (show BegI w most T b5 E S b D w5 from ⟨⟨hb5, hTb, hst5, hB.out⟩, hE.out, hst.out⟩)
  clear hE hst hB hst5
  go_wp2_with fail
  refine wp_region_held_drew (S := (BegI w most T b5 E S b D)) (by kernel_rfl) (by exact hP.out.step (Below.refl _ _).drew) (fun hS => ?_)
  (refine hTake (i := 0) (v := ?v1) rfl (by kernel_rfl) (by kernel_rfl) (by kernel_rfl) (fun _ _ _ h => h) (Or.inl ⟨by rfl, ?y1⟩) hS ?r1; (case y1 => (intro W hW; (go_simp); (try with_reducible rfl); done)); try simp only [Act.put, List.setIfInBounds_toArray, List.set_cons_zero, List.set_cons_succ])
  (refine hTake (i := 1) (v := ?v2) rfl (by kernel_rfl) (by kernel_rfl) (by kernel_rfl) (fun _ _ _ h => h) (Or.inl ⟨by rfl, ?y2⟩) hS ?r2; (case y2 => (intro W hW; (go_simp); (try with_reducible rfl); done)); try simp only [Act.put, List.setIfInBounds_toArray, List.set_cons_zero, List.set_cons_succ])
  (refine hTake (i := 2) (v := ?v3) rfl (by kernel_rfl) (by kernel_rfl) (by kernel_rfl) (fun _ _ _ h => h) (Or.inl ⟨by rfl, ?y3⟩) hS ?r3; (case y3 => (intro W hW; (go_simp); (try with_reducible rfl); done)); try simp only [Act.put, List.setIfInBounds_toArray, List.set_cons_zero, List.set_cons_succ])
  (refine hTake (i := 3) (v := ?v4) rfl (by kernel_rfl) (by kernel_rfl) (by kernel_rfl) (fun _ _ _ h => h) (Or.inl ⟨by rfl, ?y4⟩) hS ?r4; (case y4 => (intro W hW; (go_simp); (try with_reducible rfl); done)); try simp only [Act.put, List.setIfInBounds_toArray, List.set_cons_zero, List.set_cons_succ])
  (refine hTake (i := 4) (v := ?v5) rfl (by kernel_rfl) (by kernel_rfl) (by kernel_rfl) (fun _ _ _ h => h) (Or.inl ⟨by rfl, ?y5⟩) hS ?r5; (case y5 => (intro W hW; (go_simp); (try with_reducible rfl); done)); try simp only [Act.put, List.setIfInBounds_toArray, List.set_cons_zero, List.set_cons_succ])
  (refine hTake (i := 5) (v := ?v6) rfl (by kernel_rfl) (by kernel_rfl) (by kernel_rfl) (fun _ _ _ h => h) (Or.inl ⟨by rfl, ?y6⟩) hS ?r6; (case y6 => (intro W hW; (go_simp); (try with_reducible rfl); done)); try simp only [Act.put, List.setIfInBounds_toArray, List.set_cons_zero, List.set_cons_succ])
  (refine hTake (i := 6) (v := ?v7) rfl (by kernel_rfl) (by kernel_rfl) (by kernel_rfl) (fun _ _ _ h => h) (Or.inl ⟨by rfl, ?y7⟩) hS ?r7; (case y7 => (intro W hW; (go_simp); (try with_reducible rfl); done)); try simp only [Act.put, List.setIfInBounds_toArray, List.set_cons_zero, List.set_cons_succ])
  (refine hTake (i := 7) (v := ?v8) rfl (by kernel_rfl) (by kernel_rfl) (by kernel_rfl) (fun _ _ _ h => h) (Or.inl ⟨by rfl, ?y8⟩) hS ?r8; (case y8 => (intro W hW; (go_simp); (try with_reducible rfl); done)); try simp only [Act.put, List.setIfInBounds_toArray, List.set_cons_zero, List.set_cons_succ])
  (refine hTake (i := 8) (v := ?v9) rfl (by kernel_rfl) (by kernel_rfl) (by kernel_rfl) (fun _ _ _ h => h) (Or.inl ⟨by rfl, ?y9⟩) hS ?r9; (case y9 => (intro W hW; (go_simp); (try with_reducible rfl); done)); try simp only [Act.put, List.setIfInBounds_toArray, List.set_cons_zero, List.set_cons_succ])
  (refine hTake (i := 9) (v := ?v10) rfl (by kernel_rfl) (by kernel_rfl) (by kernel_rfl) (fun _ _ _ h => h) (Or.inl ⟨by rfl, ?y10⟩) hS ?r10; (case y10 => (intro W hW; (go_simp); (try with_reducible rfl); done)); try simp only [Act.put, List.setIfInBounds_toArray, List.set_cons_zero, List.set_cons_succ])
  (refine hTake (i := 10) (v := ?v11) rfl (by kernel_rfl) (by kernel_rfl) (by kernel_rfl) (fun _ _ _ h => h) (Or.inl ⟨by rfl, ?y11⟩) hS ?r11; (case y11 => (intro W hW; (go_simp); (try with_reducible rfl); done)); try simp only [Act.put, List.setIfInBounds_toArray, List.set_cons_zero, List.set_cons_succ])
  (refine hTake (i := 11) (v := ?v12) rfl (by kernel_rfl) (by kernel_rfl) (by kernel_rfl) (fun _ _ _ h => h) (Or.inl ⟨by rfl, ?y12⟩) hS ?r12; (case y12 => (intro W hW; (go_simp); (try with_reducible rfl); done)); try simp only [Act.put, List.setIfInBounds_toArray, List.set_cons_zero, List.set_cons_succ])
  (refine hTake (i := 12) (v := ?v13) rfl (by kernel_rfl) (by kernel_rfl) (by kernel_rfl) (fun _ _ _ h => h) (Or.inl ⟨by rfl, ?y13⟩) hS ?r13; (case y13 => (intro W hW; (go_simp); (try with_reducible rfl); done)); try simp only [Act.put, List.setIfInBounds_toArray, List.set_cons_zero, List.set_cons_succ])
  (refine hTake (i := 13) (v := ?v14) rfl (by kernel_rfl) (by kernel_rfl) (by kernel_rfl) (fun _ _ _ h => h) (Or.inl ⟨by rfl, ?y14⟩) hS ?r14; (case y14 => (intro W hW; (go_simp); (try with_reducible rfl); done)); try simp only [Act.put, List.setIfInBounds_toArray, List.set_cons_zero, List.set_cons_succ])
  (refine hTake (i := 14) (v := ?v15) rfl (by kernel_rfl) (by kernel_rfl) (by kernel_rfl) (fun _ _ _ h => h) (Or.inl ⟨by rfl, ?y15⟩) hS ?r15; (case y15 => (intro W hW; (go_simp); (try with_reducible rfl); done)); try simp only [Act.put, List.setIfInBounds_toArray, List.set_cons_zero, List.set_cons_succ])
  (refine hTake (i := 15) (v := ?v16) rfl (by kernel_rfl) (by kernel_rfl) (by kernel_rfl) (fun _ _ _ h => h) (Or.inl ⟨by rfl, ?y16⟩) hS ?r16; (case y16 => (intro W hW; (go_simp); (try with_reducible rfl); done)); try simp only [Act.put, List.setIfInBounds_toArray, List.set_cons_zero, List.set_cons_succ])
  (refine hTake (i := 16) (v := ?v17) rfl (by kernel_rfl) (by kernel_rfl) (by kernel_rfl) (fun _ _ _ h => h) (Or.inl ⟨by rfl, ?y17⟩) hS ?r17; (case y17 => (intro W hW; (go_simp); (try with_reducible rfl); done)); try simp only [Act.put, List.setIfInBounds_toArray, List.set_cons_zero, List.set_cons_succ])
  (refine hTake (i := 17) (v := ?v18) rfl (by kernel_rfl) (by kernel_rfl) (by kernel_rfl) (fun _ _ _ h => h) (Or.inl ⟨by rfl, ?y18⟩) hS ?r18; (case y18 => (intro W hW; (go_simp); (try with_reducible rfl); done)); try simp only [Act.put, List.setIfInBounds_toArray, List.set_cons_zero, List.set_cons_succ])
  (refine hTake (i := 18) (v := ?v19) rfl (by kernel_rfl) (by kernel_rfl) (by kernel_rfl) (fun _ _ _ h => h) (Or.inl ⟨by rfl, ?y19⟩) hS ?r19; (case y19 => (intro W hW; (go_simp); (try with_reducible rfl); done)); try simp only [Act.put, List.setIfInBounds_toArray, List.set_cons_zero, List.set_cons_succ])
  (refine hTake (i := 19) (v := ?v20) rfl (by kernel_rfl) (by kernel_rfl) (by kernel_rfl) (fun _ _ _ h => h) (Or.inl ⟨by rfl, ?y20⟩) hS ?r20; (case y20 => (intro W hW; (go_simp); (try with_reducible rfl); done)); try simp only [Act.put, List.setIfInBounds_toArray, List.set_cons_zero, List.set_cons_succ])
  (refine hOne (i := 20) rfl (by kernel_rfl) (fun K hK => ?_))
  rw [if_pos (by rfl)]
  go_simp
  refine (db_Len S b 1 _ _ hS.2.2).mono ?_
  rintro e _ ⟨rfl, rfl⟩
  go_wp2_with fail
  (refine hK.out _ _ (by exact hS) (fun hS => ?_); clear hK K; try simp only [Act.put, List.setIfInBounds_toArray, List.set_cons_zero, List.set_cons_succ])
  (refine hTake (i := 21) (v := ?v21) rfl (by kernel_rfl) (by kernel_rfl) (by kernel_rfl) (fun _ _ _ h => h) (Or.inl ⟨by rfl, ?y21⟩) hS ?r21; (case y21 => (intro W hW; (go_simp); (try with_reducible rfl); done)); try simp only [Act.put, List.setIfInBounds_toArray, List.set_cons_zero, List.set_cons_succ])
  (refine hTake (i := 22) (v := ?v22) rfl (by kernel_rfl) (by kernel_rfl) (by kernel_rfl) (fun _ _ _ h => h) (Or.inl ⟨by rfl, ?y22⟩) hS ?r22; (case y22 => (intro W hW; (go_simp); (try with_reducible rfl); done)); try simp only [Act.put, List.setIfInBounds_toArray, List.set_cons_zero, List.set_cons_succ])
  (refine hTake (i := 23) (v := ?v23) rfl (by kernel_rfl) (by kernel_rfl) (by kernel_rfl) (fun _ _ _ h => h) (Or.inl ⟨by rfl, ?y23⟩) hS ?r23; (case y23 => (intro W hW; (go_simp); (try with_reducible rfl); done)); try simp only [Act.put, List.setIfInBounds_toArray, List.set_cons_zero, List.set_cons_succ])
  (refine hTake (i := 24) rfl (by kernel_rfl) (by kernel_rfl) (by kernel_rfl) (fun _ _ _ h => h) (yieldsIf_load_mid (by rfl) _ _ rfl _ _ rfl (bv D) _ (fun W hW => (hW.2.1.range)) Try.underlying30 rfl (by rw [bv_length, hdl]; exact info_digest)) hS ?_; try simp only [Act.put, List.setIfInBounds_toArray, List.set_cons_zero, List.set_cons_succ])
  (refine hOne (i := 25) rfl (by kernel_rfl) (fun K hK => ?_))
  go_simp
  (refine hK.out _ _ (by exact hP.out.step (((Below.refl _ _).alloc (Nat.le_refl _) _).drew)) (fun hS => ?_); clear hK K; try simp only [Act.put, List.setIfInBounds_toArray, List.set_cons_zero, List.set_cons_succ])
  have kc : (convert 26 26 (.slice (some ⟨w5.heap.size, 0, none⟩) 5 5)).run Try.prog (w5.alloc (.cells (bv thing.data.toList).toArray 5)).drew = .ok (.slice (some ⟨w5.heap.size, 0, none⟩) 5 5) (w5.alloc (.cells (bv thing.data.toList).toArray 5 (5, 6))).drew :=
    Lib.run_convert_bytes_const w5.drew 26 5 (bv thing.data.toList).toArray 5 5 Try.underlying26 Try.underlying5
  simp [thing, bv] at kc
  (refine hOne (i := 26) rfl (by kernel_rfl) (fun K hK => ?_))
  go_simp
  clear kc
  (refine hK.out _ _ (by exact hP.out.step (((Below.refl _ _).alloc (Nat.le_refl _) _).drew)) (fun hS => ?_); clear hK K; try simp only [Act.put, List.setIfInBounds_toArray, List.set_cons_zero, List.set_cons_succ])
  (refine hOne (i := 27) rfl (by kernel_rfl) (fun K hK => ?_))
  rw [if_pos (by rfl)]
  go_simp
  refine (rdig_Of thing.data.toList _ 5 5 _ ?_ (by decide)).mono ?_
  · exact ((lit_marked w5 _ [116, 104, 105, 110, 103] _ _ (by rfl) (by simp [maxLen]) rfl).drew).more (by simp)
  rintro e w6 ⟨rfl, hb6⟩
  rw [HD.out]
  go_wp2_with fail
  (refine hK.out _ _ (by exact hS.step hb6) (fun hS => ?_); clear hK K; try simp only [Act.put, List.setIfInBounds_toArray, List.set_cons_zero, List.set_cons_succ])
  have heq := run_eql_dig D D hdl hdl
  rw [decide_eq_true rfl] at heq
  unfold digV
  (refine hTake (i := 28) (v := ?v24) rfl (by kernel_rfl) (by kernel_rfl) (by kernel_rfl) (fun _ _ _ h => h) (Or.inl ⟨by rfl, ?y24⟩) hS ?r24; (case y24 => (intro W hW; ((have g : ∀ w, (binOp .eql 30 (.agg (bv D).toArray) (.agg (row32 D))).run Try.prog w = .ok (.bool true) w := heq; go_simp)); (try with_reducible rfl); done)); try simp only [Act.put, List.setIfInBounds_toArray, List.set_cons_zero, List.set_cons_succ])
  (refine hTake (i := 29) (v := ?v25) rfl (by kernel_rfl) (by kernel_rfl) (by kernel_rfl) (fun _ _ _ h => h) (Or.inl ⟨by rfl, ?y25⟩) hS ?r25; (case y25 => (intro W hW; (go_simp); (try with_reducible rfl); done)); try simp only [Act.put, List.setIfInBounds_toArray, List.set_cons_zero, List.set_cons_succ])
  (refine hTake (i := 30) (v := ?v26) rfl (by kernel_rfl) (by kernel_rfl) (by kernel_rfl) (fun _ _ _ h => h) (Or.inl ⟨by rfl, ?y26⟩) hS ?r26; (case y26 => (intro W hW; (go_simp); (try with_reducible rfl); done)); try simp only [Act.put, List.setIfInBounds_toArray, List.set_cons_zero, List.set_cons_succ])
  (refine hTake (i := 31) (v := ?v27) rfl (by kernel_rfl) (by kernel_rfl) (by kernel_rfl) (fun _ _ _ h => h) (Or.inl ⟨by rfl, ?y27⟩) hS ?r27; (case y27 => (intro W hW; (go_simp); (try with_reducible rfl); done)); try simp only [Act.put, List.setIfInBounds_toArray, List.set_cons_zero, List.set_cons_succ])
  refine wpAnyH_done (by kernel_rfl) ?_ _
  replace hS := Lib.hid hS
  go_wp2_with fail
  go_ret2
  exact ⟨_, _, rfl, hS.out.1⟩
end Go.Proofs.Ytioanppnkhiokaa
