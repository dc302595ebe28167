/-
  Texts of a proof, one behind the other: Db5, Wrap, Law06a, Law06b, Lw6, Lw7, Lw8, Lw9, Law06c, OpD, OrP, OrI, OpS.
-/
import Derived.Test.YtioanppnkhiokaaNodedbOrderA3
import Derived.DeepKeys
import Derived.Lib.SlBytesConst
import Derived.ProofKit
import Derived.OpenShut
import Derived.JoinedCond
import Derived.SizedLaws
import Derived.Deep.Slices
import Derived.Lib.MinMax
namespace Go.Proofs.Ytioanppnkhiokaa
open Go.RowKit

theorem lit_marked {n : Nat} (w : World) (cs : Array Value) (l : List UInt8) (t : TypeId) (f : Nat × Nat) (h : cs.toList = bv l) (hm : l.length ≤ maxLen) (hn : n = l.length) :
    Bytes (w.alloc (.cells cs t f)) (w.heap.size + 1) (some ⟨w.heap.size, 0, none⟩) n n l := by
  subst hn
  refine ⟨rfl, Nat.le_refl _, hm, ⟨by simp [bv], fun _ => ⟨w.heap.size, 0, rfl, Nat.lt_succ_self _, fun j u hu => ?_⟩⟩⟩
  rw [Nat.zero_add, cell_of_row (w.alloc (.cells cs t f)) w.heap.size j cs t f (heap_alloc_new w _)]
  rw [← h] at hu
  simpa using hu
def thing : ByteArray := ⟨#[116, 104, 105, 110, 103]⟩
/-- a store of the call's own -/
def NewStore (w : World) (most : Int) (w' : World) (T b : Nat) : Prop := w.heap.size ≤ b ∧ b < T ∧ StoreIs w' T b most [] ∧ Below w.heap.size w w'
def BegunPost (w : World) (most : Int) (e : Ending) (w' : World) : Prop := ∃ T b, e = .returned (.tuple #[.pointer (some ⟨T, 0, none⟩), .bool true]) ∧ NewStore w most w' T b
theorem NewStore.step {w w1 w2 : World} {most : Int} {T b : Nat} (h : NewStore w most w1 T b) (hb : Below w1.heap.size w1 w2) : NewStore w most w2 T b :=
  ⟨h.1, h.2.1, h.2.2.1.step hb, h.2.2.2.trans (hb.mono h.2.2.2.size)⟩
def BegI (w : World) (most : Int) (T b5 E S b : Nat) (D : List UInt8) (wx : World) : Prop := NewStore w most wx T b5 ∧ Blk wx E 30 (row32 D) ∧ StoreIs wx S b 1 [(D, held thing 1)]
theorem BegI.step {w : World} {most : Int} {T b5 E S b : Nat} {D : List UInt8} {w1 w2 : World} (h : BegI w most T b5 E S b D w1) (hb : Below w1.heap.size w1 w2) : BegI w most T b5 E S b D w2 :=
  ⟨h.1.step hb, h.2.1.below hb h.2.1.lt, h.2.2.step hb⟩
set_option maxRecDepth 100000 in
set_option maxHeartbeats 2000000 in
theorem law_begun (most : Int) (w : World) : Calls Try.prog 9 #[.int .i64 most] w (BegunPost w most) := by
  have hdl := Dig.of_length thing.data.toList
  have hth : (thing.toList == [116, 104, 105, 110, 103]) = true := by unfold thing; simp [go_sem]
  go_enter Try.func9, Try.ntmps9
  go_wp2_with fail
  refine (db_New 1 _).mono ?_
  rintro e w1 ⟨S, b, rfl, hb0, hSb, hst, hb1⟩
  replace hst := Lib.hid hst
  replace hb1 := Lib.hid hb1
  go_wp2_with fail
  refine (db_Put S b 1 [] thing none _ hst.out (by decide) _ rfl rfl (by simp)).mono ?_
  rintro e w2 ⟨rfl, hst2, hg2⟩
  have e1 : putK [] thing none 1 = 0 := by decide
  rw [show putM [] (Dig.of thing.data.toList) thing none 1 = [(Dig.of thing.data.toList, held thing 1)] by simp [putM, e1, Assoc.put, Assoc.get]] at hst2
  rw [e1, show putX [] (Dig.of thing.data.toList) thing none 1 = Dig.of thing.data.toList by simp [putX, e1]]
  generalize hD : Dig.of thing.data.toList = D at *
  have HD := Lib.hid hD
  clear hD e1
  have hb2 := Lib.hid (show Below w.heap.size w w2 from hb1.out.trans ⟨hg2.os, hg2.tape, hg2.output, hg2.size, fun k hk => hg2.block k (by have := hb1.out.size; omega) (by simp; omega)⟩)
  clear hst hg2 hb1
  replace hst2 := Lib.hid hst2
  unfold digV
  have hsd := row32_size hdl
  go_wp2_with (first
    | (refine wpList_store_row rfl 30 _ _ rfl w2.heap.size (row32 D) rfl rfl _ _ (Blk.zeros w2 _ 30 rfl) (by rw [hsd]; exact info_digest) (by rw [hsd]; rfl) (row32_one _) ?_)
    | (refine wpList_load_row rfl 30 _ rfl _ rfl _ (row32 D) _ _ ((Blk.zeros w2 _ 30 rfl).row _) Try.underlying30 rfl (by rw [hsd]; exact info_digest) ?_))
  refine calls_at (fun wx => Blk wx w2.heap.size 30 (row32 D) ∧ StoreIs wx S b 1 [(D, held thing 1)] ∧ Below w.heap.size w wx) ?_ ?_
  · have hb3 := below_row ((Below.refl w2.heap.size w2).alloc (Nat.le_refl _) (.cells (bv zero32).toArray 30)) (Nat.le_refl _) (row32 D)
    exact ⟨(Blk.zeros w2 _ 30 rfl).row _, hst2.out.step hb3, hb2.out.trans (hb3.mono hb2.out.size)⟩
  clear hst2 hb2
  generalize w2.heap.size = E
  rintro w3 ⟨hE, hst, hB⟩
  refine (db_Get S b 1 _ D (some (thing, 1)) _ hst hdl (by simp [Assoc.get])).mono ?_
  rintro e w4 ⟨rfl, hb4⟩
  replace hE := Lib.hid (hE.below hb4 hE.lt)
  replace hst := Lib.hid (hst.step hb4)
  replace hB := Lib.hid (hB.trans (hb4.mono hB.size))
  clear hb4
  simp only [Option.getD_some, Option.isSome_some]
  go_wp2_with fail
  refine (db_New most _).mono ?_
  rintro e w5 ⟨T, b5, rfl, hb5, hTb, hst5, hb6⟩
  replace hb5 := Nat.le_trans hB.out.size hb5
  replace hE := Lib.hid (hE.out.below hb6 hE.out.lt)
  replace hst := Lib.hid (hst.out.step hb6)
  replace hB := Lib.hid (hB.out.trans (hb6.mono hB.out.size))
  clear hb6
  have hP := Lib.hid (show BegI w most T b5 E S b D w5 from ⟨⟨hb5, hTb, hst5, hB.out⟩, hE.out, hst.out⟩)
  clear hE hst hB hst5
  go_wp2_with fail
  refine wp_region_held_drew (S := (BegI w most T b5 E S b D)) (by kernel_rfl) (by exact hP.out.step (Below.refl _ _).drew) (fun hS => ?_)
  (refine hTake (i := 0) (v := ?v1) rfl (by kernel_rfl) (by kernel_rfl) (by kernel_rfl) (fun _ _ _ h => h) (Or.inl ⟨by rfl, ?y1⟩) hS ?r1; (case y1 => (intro W hW; (go_simp); (try with_reducible rfl); done)); try simp only [Act.put, List.setIfInBounds_toArray, List.set_cons_zero, List.set_cons_succ])
  (refine hTake (i := 1) (v := ?v2) rfl (by kernel_rfl) (by kernel_rfl) (by kernel_rfl) (fun _ _ _ h => h) (Or.inl ⟨by rfl, ?y2⟩) hS ?r2; (case y2 => (intro W hW; (go_simp); (try with_reducible rfl); done)); try simp only [Act.put, List.setIfInBounds_toArray, List.set_cons_zero, List.set_cons_succ])
  (refine hTake (i := 2) (v := ?v3) rfl (by kernel_rfl) (by kernel_rfl) (by kernel_rfl) (fun _ _ _ h => h) (Or.inl ⟨by rfl, ?y3⟩) hS ?r3; (case y3 => (intro W hW; (go_simp); (try with_reducible rfl); done)); try simp only [Act.put, List.setIfInBounds_toArray, List.set_cons_zero, List.set_cons_succ])
  (refine hTake (i := 3) (v := ?v4) rfl (by kernel_rfl) (by kernel_rfl) (by kernel_rfl) (fun _ _ _ h => h) (Or.inl ⟨by rfl, ?y4⟩) hS ?r4; (case y4 => (intro W hW; (go_simp); (try with_reducible rfl); done)); try simp only [Act.put, List.setIfInBounds_toArray, List.set_cons_zero, List.set_cons_succ])
  (refine hTake (i := 4) (v := ?v5) rfl (by kernel_rfl) (by kernel_rfl) (by kernel_rfl) (fun _ _ _ h => h) (Or.inl ⟨by rfl, ?y5⟩) hS ?r5; (case y5 => (intro W hW; (go_simp); (try with_reducible rfl); done)); try simp only [Act.put, List.setIfInBounds_toArray, List.set_cons_zero, List.set_cons_succ])
  (refine hTake (i := 5) (v := ?v6) rfl (by kernel_rfl) (by kernel_rfl) (by kernel_rfl) (fun _ _ _ h => h) (Or.inl ⟨by rfl, ?y6⟩) hS ?r6; (case y6 => (intro W hW; (go_simp); (try with_reducible rfl); done)); try simp only [Act.put, List.setIfInBounds_toArray, List.set_cons_zero, List.set_cons_succ])
  (refine hTake (i := 6) (v := ?v7) rfl (by kernel_rfl) (by kernel_rfl) (by kernel_rfl) (fun _ _ _ h => h) (Or.inl ⟨by rfl, ?y7⟩) hS ?r7; (case y7 => (intro W hW; (go_simp); (try with_reducible rfl); done)); try simp only [Act.put, List.setIfInBounds_toArray, List.set_cons_zero, List.set_cons_succ])
  (refine hTake (i := 7) (v := ?v8) rfl (by kernel_rfl) (by kernel_rfl) (by kernel_rfl) (fun _ _ _ h => h) (Or.inl ⟨by rfl, ?y8⟩) hS ?r8; (case y8 => (intro W hW; (go_simp); (try with_reducible rfl); done)); try simp only [Act.put, List.setIfInBounds_toArray, List.set_cons_zero, List.set_cons_succ])
  (refine hTake (i := 8) (v := ?v9) rfl (by kernel_rfl) (by kernel_rfl) (by kernel_rfl) (fun _ _ _ h => h) (Or.inl ⟨by rfl, ?y9⟩) hS ?r9; (case y9 => (intro W hW; (go_simp); (try with_reducible rfl); done)); try simp only [Act.put, List.setIfInBounds_toArray, List.set_cons_zero, List.set_cons_succ])
  (refine hTake (i := 9) (v := ?v10) rfl (by kernel_rfl) (by kernel_rfl) (by kernel_rfl) (fun _ _ _ h => h) (Or.inl ⟨by rfl, ?y10⟩) hS ?r10; (case y10 => (intro W hW; (go_simp); (try with_reducible rfl); done)); try simp only [Act.put, List.setIfInBounds_toArray, List.set_cons_zero, List.set_cons_succ])
  (refine hTake (i := 10) (v := ?v11) rfl (by kernel_rfl) (by kernel_rfl) (by kernel_rfl) (fun _ _ _ h => h) (Or.inl ⟨by rfl, ?y11⟩) hS ?r11; (case y11 => (intro W hW; (go_simp); (try with_reducible rfl); done)); try simp only [Act.put, List.setIfInBounds_toArray, List.set_cons_zero, List.set_cons_succ])
  (refine hTake (i := 11) (v := ?v12) rfl (by kernel_rfl) (by kernel_rfl) (by kernel_rfl) (fun _ _ _ h => h) (Or.inl ⟨by rfl, ?y12⟩) hS ?r12; (case y12 => (intro W hW; (go_simp); (try with_reducible rfl); done)); try simp only [Act.put, List.setIfInBounds_toArray, List.set_cons_zero, List.set_cons_succ])
  (refine hTake (i := 12) (v := ?v13) rfl (by kernel_rfl) (by kernel_rfl) (by kernel_rfl) (fun _ _ _ h => h) (Or.inl ⟨by rfl, ?y13⟩) hS ?r13; (case y13 => (intro W hW; (go_simp); (try with_reducible rfl); done)); try simp only [Act.put, List.setIfInBounds_toArray, List.set_cons_zero, List.set_cons_succ])
  (refine hTake (i := 13) (v := ?v14) rfl (by kernel_rfl) (by kernel_rfl) (by kernel_rfl) (fun _ _ _ h => h) (Or.inl ⟨by rfl, ?y14⟩) hS ?r14; (case y14 => (intro W hW; (go_simp); (try with_reducible rfl); done)); try simp only [Act.put, List.setIfInBounds_toArray, List.set_cons_zero, List.set_cons_succ])
  (refine hTake (i := 14) (v := ?v15) rfl (by kernel_rfl) (by kernel_rfl) (by kernel_rfl) (fun _ _ _ h => h) (Or.inl ⟨by rfl, ?y15⟩) hS ?r15; (case y15 => (intro W hW; (go_simp); (try with_reducible rfl); done)); try simp only [Act.put, List.setIfInBounds_toArray, List.set_cons_zero, List.set_cons_succ])
  (refine hTake (i := 15) (v := ?v16) rfl (by kernel_rfl) (by kernel_rfl) (by kernel_rfl) (fun _ _ _ h => h) (Or.inl ⟨by rfl, ?y16⟩) hS ?r16; (case y16 => (intro W hW; (go_simp); (try with_reducible rfl); done)); try simp only [Act.put, List.setIfInBounds_toArray, List.set_cons_zero, List.set_cons_succ])
  (refine hTake (i := 16) (v := ?v17) rfl (by kernel_rfl) (by kernel_rfl) (by kernel_rfl) (fun _ _ _ h => h) (Or.inl ⟨by rfl, ?y17⟩) hS ?r17; (case y17 => (intro W hW; (go_simp); (try with_reducible rfl); done)); try simp only [Act.put, List.setIfInBounds_toArray, List.set_cons_zero, List.set_cons_succ])
  (refine hTake (i := 17) (v := ?v18) rfl (by kernel_rfl) (by kernel_rfl) (by kernel_rfl) (fun _ _ _ h => h) (Or.inl ⟨by rfl, ?y18⟩) hS ?r18; (case y18 => (intro W hW; (go_simp); (try with_reducible rfl); done)); try simp only [Act.put, List.setIfInBounds_toArray, List.set_cons_zero, List.set_cons_succ])
  (refine hTake (i := 18) (v := ?v19) rfl (by kernel_rfl) (by kernel_rfl) (by kernel_rfl) (fun _ _ _ h => h) (Or.inl ⟨by rfl, ?y19⟩) hS ?r19; (case y19 => (intro W hW; (go_simp); (try with_reducible rfl); done)); try simp only [Act.put, List.setIfInBounds_toArray, List.set_cons_zero, List.set_cons_succ])
  (refine hTake (i := 19) (v := ?v20) rfl (by kernel_rfl) (by kernel_rfl) (by kernel_rfl) (fun _ _ _ h => h) (Or.inl ⟨by rfl, ?y20⟩) hS ?r20; (case y20 => (intro W hW; (go_simp); (try with_reducible rfl); done)); try simp only [Act.put, List.setIfInBounds_toArray, List.set_cons_zero, List.set_cons_succ])
  (refine hOne (i := 20) rfl (by kernel_rfl) (fun K hK => ?_))
  rw [if_pos (by rfl)]
  go_simp
  refine (db_Len S b 1 _ _ hS.2.2).mono ?_
  rintro e _ ⟨rfl, rfl⟩
  go_wp2_with fail
  (refine hK.out _ _ (by exact hS) (fun hS => ?_); clear hK K; try simp only [Act.put, List.setIfInBounds_toArray, List.set_cons_zero, List.set_cons_succ])
  (refine hTake (i := 21) (v := ?v21) rfl (by kernel_rfl) (by kernel_rfl) (by kernel_rfl) (fun _ _ _ h => h) (Or.inl ⟨by rfl, ?y21⟩) hS ?r21; (case y21 => (intro W hW; (go_simp); (try with_reducible rfl); done)); try simp only [Act.put, List.setIfInBounds_toArray, List.set_cons_zero, List.set_cons_succ])
  (refine hTake (i := 22) (v := ?v22) rfl (by kernel_rfl) (by kernel_rfl) (by kernel_rfl) (fun _ _ _ h => h) (Or.inl ⟨by rfl, ?y22⟩) hS ?r22; (case y22 => (intro W hW; (go_simp); (try with_reducible rfl); done)); try simp only [Act.put, List.setIfInBounds_toArray, List.set_cons_zero, List.set_cons_succ])
  (refine hTake (i := 23) (v := ?v23) rfl (by kernel_rfl) (by kernel_rfl) (by kernel_rfl) (fun _ _ _ h => h) (Or.inl ⟨by rfl, ?y23⟩) hS ?r23; (case y23 => (intro W hW; (go_simp); (try with_reducible rfl); done)); try simp only [Act.put, List.setIfInBounds_toArray, List.set_cons_zero, List.set_cons_succ])
  (refine hTake (i := 24) rfl (by kernel_rfl) (by kernel_rfl) (by kernel_rfl) (fun _ _ _ h => h) (yieldsIf_load_mid (by rfl) _ _ rfl _ _ rfl (bv D) _ (fun W hW => (hW.2.1.range)) Try.underlying30 rfl (by rw [bv_length, hdl]; exact info_digest)) hS ?_; try simp only [Act.put, List.setIfInBounds_toArray, List.set_cons_zero, List.set_cons_succ])
  (refine hOne (i := 25) rfl (by kernel_rfl) (fun K hK => ?_))
  go_simp
  (refine hK.out _ _ (by exact hP.out.step (((Below.refl _ _).alloc (Nat.le_refl _) _).drew)) (fun hS => ?_); clear hK K; try simp only [Act.put, List.setIfInBounds_toArray, List.set_cons_zero, List.set_cons_succ])
  have kc : (convert 26 26 (.slice (some ⟨w5.heap.size, 0, none⟩) 5 5)).run Try.prog (w5.alloc (.cells (bv thing.data.toList).toArray 5)).drew = .ok (.slice (some ⟨w5.heap.size, 0, none⟩) 5 5) (w5.alloc (.cells (bv thing.data.toList).toArray 5 (5, 6))).drew :=
    Lib.run_convert_bytes_const w5.drew 26 5 (bv thing.data.toList).toArray 5 5 Try.underlying26 Try.underlying5
  simp [thing, bv] at kc
  (refine hOne (i := 26) rfl (by kernel_rfl) (fun K hK => ?_))
  go_simp
  clear kc
  (refine hK.out _ _ (by exact hP.out.step (((Below.refl _ _).alloc (Nat.le_refl _) _).drew)) (fun hS => ?_); clear hK K; try simp only [Act.put, List.setIfInBounds_toArray, List.set_cons_zero, List.set_cons_succ])
  (refine hOne (i := 27) rfl (by kernel_rfl) (fun K hK => ?_))
  rw [if_pos (by rfl)]
  go_simp
  refine (rdig_Of thing.data.toList _ 5 5 _ ?_ (by decide)).mono ?_
  · exact ((lit_marked w5 _ [116, 104, 105, 110, 103] _ _ (by rfl) (by simp [maxLen]) rfl).drew).more (by simp)
  rintro e w6 ⟨rfl, hb6⟩
  rw [HD.out]
  go_wp2_with fail
  (refine hK.out _ _ (by exact hS.step hb6) (fun hS => ?_); clear hK K; try simp only [Act.put, List.setIfInBounds_toArray, List.set_cons_zero, List.set_cons_succ])
  have heq := run_eql_dig D D hdl hdl
  rw [decide_eq_true rfl] at heq
  unfold digV
  (refine hTake (i := 28) (v := ?v24) rfl (by kernel_rfl) (by kernel_rfl) (by kernel_rfl) (fun _ _ _ h => h) (Or.inl ⟨by rfl, ?y24⟩) hS ?r24; (case y24 => (intro W hW; ((have g : ∀ w, (binOp .eql 30 (.agg (bv D).toArray) (.agg (row32 D))).run Try.prog w = .ok (.bool true) w := heq; go_simp)); (try with_reducible rfl); done)); try simp only [Act.put, List.setIfInBounds_toArray, List.set_cons_zero, List.set_cons_succ])
  (refine hTake (i := 29) (v := ?v25) rfl (by kernel_rfl) (by kernel_rfl) (by kernel_rfl) (fun _ _ _ h => h) (Or.inl ⟨by rfl, ?y25⟩) hS ?r25; (case y25 => (intro W hW; (go_simp); (try with_reducible rfl); done)); try simp only [Act.put, List.setIfInBounds_toArray, List.set_cons_zero, List.set_cons_succ])
  (refine hTake (i := 30) (v := ?v26) rfl (by kernel_rfl) (by kernel_rfl) (by kernel_rfl) (fun _ _ _ h => h) (Or.inl ⟨by rfl, ?y26⟩) hS ?r26; (case y26 => (intro W hW; (go_simp); (try with_reducible rfl); done)); try simp only [Act.put, List.setIfInBounds_toArray, List.set_cons_zero, List.set_cons_succ])
  (refine hTake (i := 31) (v := ?v27) rfl (by kernel_rfl) (by kernel_rfl) (by kernel_rfl) (fun _ _ _ h => h) (Or.inl ⟨by rfl, ?y27⟩) hS ?r27; (case y27 => (intro W hW; (go_simp); (try with_reducible rfl); done)); try simp only [Act.put, List.setIfInBounds_toArray, List.set_cons_zero, List.set_cons_succ])
  refine wpAnyH_done (by kernel_rfl) ?_ _
  replace hS := Lib.hid hS
  go_wp2_with fail
  go_ret2
  exact ⟨_, _, rfl, hS.out.1⟩
end Go.Proofs.Ytioanppnkhiokaa

/-
  From a law's contract ('it returns true, and what was there is as it was') to its row: any number of arguments, none of them opened for its own sake.
-/
namespace Go.Proofs.Ytioanppnkhiokaa
open Go.RowKit Go.WideShapes Go.ChangeShapes Go.ChangeAt Go.WideElems

/-- what a law's walk shows -/
def PostT (w : World) (e : Ending) (w' : World) : Prop := e = .returned (.bool true) ∧ Below w.heap.size w w'

section
variable {H : Type} {enc : TypeId × Value → H} {P : Program}

theorem trodAll_stays (hl : laidOutB P = true) {W W' : World} (hb : Below W.heap.size W W') {sp : Nat → Bool} :
    ∀ (ts : List TypeId) (vs : List Value) (ds : List (DataW H)) (ps : List MemPlace), DataW.TrodAll enc P W 0 (fun _ => true) true ts vs ds ps →
      (∀ t ∈ ts, P.readableRec t = true ∧ t < P.types.size) → (∀ p ∈ ps, p.block < W.heap.size) → (∀ p ∈ ps, sp p.block = true) → DataW.TrodAll enc P W' 0 sp true ts vs ds ps := by
  intro ts
  induction ts with
  | nil =>
    intro vs ds ps h _ _ _
    obtain ⟨rfl, rfl, rfl⟩ := trodAll_nil h
    rfl
  | cons t ts ih =>
    intro vs ds ps h ht hlt hsp
    obtain ⟨v, vs', d, ds', p, q, rfl, rfl, rfl, h0, h1⟩ := trodAll_cons h
    obtain ⟨hr, hrow⟩ := ht t (List.mem_cons_self ..)
    exact trodAll_cons_mk (Trod_stays hl hr hrow h0 (fun x hx => hb.same (hlt x (List.mem_append_left _ hx))) (fun x hx => hsp x (List.mem_append_left _ hx)))
      (ih vs' ds' q h1 (fun t ht' => ht t (List.mem_cons_of_mem _ ht')) (fun x hx => hlt x (List.mem_append_right _ hx)) (fun x hx => hsp x (List.mem_append_right _ hx)))

theorem law_post {f : Func} {s : ChangeSpec} {W W' : World} {args : Array Value} {ds gs : List (DataW H)} {before : List MemPlace} {tb : TypeId}
    (hW : DataW.Whole enc P f.params.toList s.vars false W args.toList ds gs before) (hvars : s.vars = [])
    (hl : laidOutB P = true) (hts' : (f.params.toList.all fun t => P.readableRec t && decide (t < P.types.size)) = true)
    (hbool : P.underlying tb = some .bool) (hres : f.resultTypes = #[tb])
    (hs1 : (s.fn H (ds ++ gs)).results = [.lit (.bool true)]) (hs2 : (s.fn H (ds ++ gs)).args = ds) (hs3 : (s.fn H (ds ++ gs)).vars = [])
    (hb : Below W.heap.size W W') :
    s.post enc P f false true false false W args (.bool true) W' := by
  have hts : ∀ t ∈ f.params.toList, P.readableRec t = true ∧ t < P.types.size := by
    intro t ht
    have := List.all_eq_true.1 hts' t ht
    simpa [Bool.and_eq_true] using this
  have hlt : ∀ p ∈ before, p.block < W.heap.size := fun p hp => hW.lt p hp
  have hW0 := hW
  obtain ⟨p, q, hA, hV, rfl, _, _⟩ := hW
  rw [hvars] at hV
  have hgq : gs = [] ∧ q = [] := by
    cases gs with
    | nil => exact ⟨rfl, by simpa [DataW.TrodVars] using hV⟩
    | cons a b => simp [DataW.TrodVars] at hV
  obtain ⟨rfl, rfl⟩ := hgq
  have hshut : ∀ (b : Nat) (sp : Nat → Bool) (hd : Bool), DataW.TrodAll enc P W' b sp hd f.resultTypes.toList ((Value.bool true).resultList f.resultTypes.size) (s.fn H (ds ++ [])).results [] := by
    intro b sp hd
    rw [hres, hs1]
    exact trodAll_cons_mk (shut_bool hbool _) trodAll_mk0
  have hargs : ∀ sp : Nat → Bool, (∀ x ∈ p ++ [], sp x.block = true) → DataW.TrodAll enc P W' 0 sp true f.params.toList args.toList (s.fn H (ds ++ [])).args p := by
    intro sp hsp
    rw [hs2]
    exact trodAll_stays hl hb _ _ _ _ hA hts (fun x hx => hlt x (by simpa using hx)) (fun x hx => hsp x (by simpa using hx))
  have hvars' : ∀ sp : Nat → Bool, DataW.TrodVars enc P W' sp s.vars (s.fn H (ds ++ [])).vars [] := by
    intro sp
    rw [hvars, hs3]
    rfl
  refine ⟨ds, [], p ++ [], [], p, [], hW0, hshut _ _ _, hargs _ (fun x hx => by simpa using hlt x hx), hvars' _, World.keptBut_mono (fun x hx => ⟨hx, ?_⟩) (hb.frame (· ∈ p ++ [])), fun h => by cases h⟩
  exact Or.inr (by simpa using hx)

theorem reach_eq : reachBytes = 140737488351232 := by decide
theorem wf_int {x : Int} (h : (Lit.int .i64 x).wf = true) : -9223372036854775808 ≤ x ∧ x ≤ 9223372036854775807 := by
  simpa [Lit.wf, IntKind.min, IntKind.max, IntKind.signed, IntKind.bits] using h
/-- how many elements a datum's slice has -/
def dlen : DataW H → Nat
  | .slice elems _ => elems.length
  | _ => 0

theorem dlen_bulk (d : DataW H) : dlen d ≤ Rows.uptoBulk d := by
  cases d with
  | slice elems spare =>
    have : ∀ l : List (DataW H), l.length ≤ Rows.uptoBulkAll l := by
      intro l
      induction l with
      | nil => simp [Rows.uptoBulkAll]
      | cons x r ih =>
        have : 1 ≤ Rows.uptoBulk x := by
          cases x with
          | lit l => cases l <;> simp [Rows.uptoBulk]
          | _ => simp [Rows.uptoBulk]
        simp only [Rows.uptoBulkAll, List.length_cons]; omega
    have := this elems
    simp only [dlen, Rows.uptoBulk]; omega
  | _ => simp [dlen]
theorem small_all {l : List (DataW H)} (hk : Rows.uptoSmall H l = true) : Rows.uptoBulkAll l ≤ 1048576 := of_decide_eq_true hk

/-- the form's own reach, of an argument that is a slice -/
theorem reach_slice {ts : List TypeId} {ds : List (DataW H)} (h : (DataW.weightsEach P ts ds).all (· ≤ reachBytes) = true) {j : Nat} {t e : TypeId} {d : DataW H} (ht : ts[j]? = some t) (hd : ds[j]? = some d)
    (hu : P.underlying t = some (.slice e)) (hby : P.bytesOf e = 1) : dlen d ≤ 140737488351232 := by
  cases d with
  | slice elems spare =>
    have := sized_slice (P := P) h ht hd hu
    rw [hby] at this
    simp only [dlen]
    have e : reachBytes = 140737488351232 := by decide
    omega
  | _ => simp [dlen]

/-- a byte slice that came in -/
theorem open_bytes {T E : TypeId} {w : World} {base b0 : Nat} {r : Reach} {sp : Nat → Bool} {held : Bool} {v : Value} {d : DataW H} {p : List MemPlace} (hT : P.underlying T = some (.slice E)) (hE : P.underlying E = some (.int .u8)) (hC : P.cellsOf E = 1)
    (hv : Value.okWide P w r b0 T v) (h : DataW.Trod enc P w base sp held T v d p) :
    ∃ A n c l, v = .slice A n c ∧ Bytes w w.heap.size A n c l ∧ n ≤ dlen d := by
  obtain ⟨a0, len, cap, rfl⟩ := okWide_slice hT hv
  obtain ⟨fuel, hf⟩ := h
  rcases open_ints hT hE hC hf with ⟨hcs, hx⟩ | ⟨a, len', cap', zs, hcs, _, hl, hm, hz, hx, hcell, hwz⟩
  · simp only [Value.cells, List.cons.injEq, Value.slice.injEq, and_true] at hcs
    obtain ⟨rfl, rfl, rfl⟩ := hcs
    exact ⟨none, 0, 0, [], rfl, Bytes.none_ _ _ _ (Nat.zero_le _), Nat.zero_le _⟩
  · simp only [Value.cells, List.cons.injEq, Value.slice.injEq, and_true] at hcs
    obtain ⟨rfl, rfl, rfl⟩ := hcs
    have hle : len ≤ zs.length := by rw [hz]; split <;> omega
    have hd : d = .slice (lits .u8 (zs.take len)) (lits .u8 (zs.drop len)) := (Prod.ext_iff.1 hx).1
    have hlen : ((zs.take len).map fun z => UInt8.ofNat z.toNat).length = len := by simp; omega
    refine ⟨some a, len, cap, (zs.take len).map fun z => UInt8.ofNat z.toNat, rfl, ⟨hlen.symm, hl, hm, by rw [bv_length, hlen, Nat.mul_one], fun hp => ?_⟩, ?_⟩
    · obtain ⟨b, off, rfl, hc⟩ := ints_at hcell (by omega)
      have hb : b < w.heap.size := World.block_lt_of_cell? w _ (hc 0 (by omega))
      refine ⟨b, off, rfl, hb, fun j u hu => ?_⟩
      have hj : j < ((zs.take len).map fun z => UInt8.ofNat z.toNat).length := by
        have := (List.getElem?_eq_some_iff.1 hu).1
        rwa [bv_length] at this
      rw [bv_at _ j hj] at hu
      cases hu
      have hj2 : j < zs.length := by omega
      have hj3 : j < (zs.take len).length := by simp; omega
      rw [hc j hj2]
      have hmem : zs[j] ∈ zs := List.getElem_mem hj2
      have hwf := hwz _ hmem
      have hbd : 0 ≤ zs[j] ∧ zs[j] ≤ 255 := by simpa [Lit.wf, IntKind.min, IntKind.max, IntKind.signed, IntKind.bits] using hwf
      simp only [List.getElem_map, List.getElem_take]
      have : (((UInt8.ofNat zs[j].toNat).toNat : Nat) : Int) = zs[j] := by simp; omega
      rw [this]
      simp [List.getD, hj2]
    · rw [hd]
      simp [dlen, lits]; omega
end
end Go.Proofs.Ytioanppnkhiokaa

namespace Go.Proofs.Ytioanppnkhiokaa
open Go.RowKit

/-- bytes into which may be written -/
def CellsU (w : World) (g n : Nat) : Prop := ∀ j, j < n → (∃ x : Int, 0 ≤ x ∧ x ≤ 255 ∧ w.cell? ⟨g, j, none⟩ = some (.int .u8 x)) ∧ w.frozen? ⟨g, j, none⟩ = false
theorem CellsU.set {w : World} {g n : Nat} (h : CellsU w g n) (k : Nat) (y : Int) (h0 : 0 ≤ y) (h1 : y ≤ 255) : CellsU (w.setCell ⟨g, k, none⟩ (.int .u8 y)) g n := by
  intro j hj
  obtain ⟨⟨x, hx0, hx1, hx⟩, hf⟩ := h j hj
  refine ⟨?_, by rw [World.frozen?_setCell]; exact hf⟩
  by_cases hjk : j = k
  · subst hjk
    exact ⟨y, h0, h1, World.cell?_setCell_same w _ _ hx⟩
  · exact ⟨x, hx0, hx1, (World.cell?_setCell_other w ⟨g, k, none⟩ ⟨g, j, none⟩ _ (by intro e; injection e with e1 e2; omega)).trans hx⟩
theorem Bytes.cellsU {w : World} {B g n c : Nat} {l : List UInt8} (h : Bytes w B (some ⟨g, 0, none⟩) n c l) (hf : ∀ j, j < l.length → w.frozen? ⟨g, j, none⟩ = false) : CellsU w g l.length := by
  intro j hj
  obtain ⟨g', o, hA, _, hc⟩ := h.at_ hj
  injection hA with hA
  injection hA with e1 e2
  subst e1; subst e2
  rw [Nat.zero_add] at hc
  have := l[j].toNat_lt
  exact ⟨⟨_, by omega, by omega, hc⟩, hf j hj⟩
theorem bytes_mk (s : ByteArray) : (⟨s.data.toList.toArray⟩ : ByteArray) = s := by
  cases s; simp
set_option maxRecDepth 100000 in
set_option maxHeartbeats 1000000 in
theorem law_NodedbTexts (s : ByteArray) (w : World) (hs : s.size ≤ 140737488351232) : Calls Try.prog 3 #[.string s] w (PostT w) := by
  have hsz : s.data.toList.length = s.size := Array.length_toList

  have hs63 : s.size ≤ 9223372036854775807 := by omega
  have HS := Lib.hid hs
  clear hs
  go_enter Try.func3, Try.ntmps3
  go_wp2_with fail
  refine (law_begun 1 _).mono ?_
  rintro e w1 ⟨T, b, rfl, hst⟩
  have hb1 := hst.2.2.2
  clear hst
  replace hb1 := Lib.hid hb1
  go_wp2_with fail
  refine (db_Bytes s _ (by have := HS.out; omega)).mono ?_
  rintro e w2 ⟨g, c, rfl, hg, hby, hfr, hb2⟩
  have hcu := hby.cellsU hfr
  have hb := hb1.out.trans (hb2.mono hb1.out.size)
  have hgb : w.heap.size ≤ g := Nat.le_trans hb1.out.size hg
  have h1 := hby.toStr (P := Try.prog) Try.underlying26 Try.underlying5 9 Try.underlying9
  rw [bytes_mk s] at h1
  rw [hsz] at h1 hcu
  clear hb1 hb2 hby hfr hg
  replace hb := Lib.hid hb
  replace hcu := Lib.hid hcu
  go_wp2_with fail
  clear h1
  go_loopw [22] (fun i wr => ∃ k : Nat, k ≤ s.size ∧ i = .int .i64 k ∧ CellsU wr g s.size ∧ Below w.heap.size w wr) (fun i _ => s.size - (intOf i).toNat)
  case atStart => exact ⟨0, Nat.zero_le _, rfl, hcu.out, hb.out⟩
  case round =>
    clear hcu hb
    obtain ⟨k, hk, rfl, hc, hb⟩ := hrel
    by_cases hlt : k < s.size
    · obtain ⟨⟨x, hx0, hx1, hx⟩, hf⟩ := hc k hlt
      have HC := Lib.hid (hc.set k ((x + 1) % 256) (by omega) (by omega))
      replace hb := Lib.hid hb
      clear hc
      go_wp2_with fail
      refine ⟨⟨k + 1, by omega, by go_num, HC.out, hb.out.setCell hgb _⟩, by simp [intOf]; omega⟩
    · obtain rfl : k = s.size := by omega
      replace hb := Lib.hid hb
      clear hc
      go_wp2_with fail
      refine (db_Bytes s _ (by have := HS.out; omega)).mono ?_
      rintro e w3 ⟨g3, c3, rfl, hg3, hby3, -, hb3⟩
      have h1 := hby3.toStr (P := Try.prog) Try.underlying26 Try.underlying5 9 Try.underlying9
      rw [bytes_mk s, hsz] at h1
      replace hb := Lib.hid (hb.out.trans (hb3.mono hb.out.size))
      clear hb3 hby3
      go_wp2_with fail
      go_ret
      exact ⟨rfl, hb.out⟩
end Go.Proofs.Ytioanppnkhiokaa

namespace Go.Proofs.Ytioanppnkhiokaa
open Go.RowKit

/-- a store that has just one text, so often -/
def stN (d : List UInt8) (t : ByteArray) (n : Nat) : Assoc := if n = 0 then [] else [(d, held t n)]
def stV (t : ByteArray) (n : Nat) : Option (ByteArray × Int) := if n = 0 then none else some (t, n)
theorem stN_get (d : List UInt8) (t : ByteArray) (n : Nat) : (stN d t n).get d = (stV t n).map fun x => held x.1 x.2 := by
  unfold stN stV; split <;> simp [Assoc.get]
theorem stN_put (d : List UInt8) (t : ByteArray) (n : Nat) (h : n ≤ 4294967294) : putK (stN d t n) t (stV t n) 1 = 0 ∧ putM (stN d t n) d t (stV t n) 1 = stN d t (n + 1) ∧ putX (stN d t n) d t (stV t n) 1 = d := by
  have e : putK (stN d t n) t (stV t n) 1 = 0 := by
    unfold stN stV putK
    by_cases hn : n = 0
    · simp [hn]
    · simp [hn]; omega
  refine ⟨e, ?_, by simp [putX, e]⟩
  unfold putM
  rw [if_pos e]
  unfold stN stV
  by_cases hn : n = 0
  · simp [hn, Assoc.put, Assoc.get]
  · simp [hn, Assoc.put, Assoc.get]
theorem stN_drop (d : List UInt8) (t : ByteArray) (n : Nat) : dropM (stN d t n) d (stV t n) = stN d t (n - 1) ∧ dropG (stV t n) = decide (n = 1) ∧ dropK (stV t n) = (if n = 0 then 61 else 0) := by
  unfold stN stV dropM dropG dropK
  rcases n with _ | _ | n
  · simp
  · simp [Assoc.del]
  · simp [Assoc.put, Assoc.get]; omega
theorem stN_len (d : List UInt8) (t : ByteArray) (n : Nat) : (stN d t n).length = min n 1 := by
  unfold stN; split <;> simp <;> omega
theorem stV_small (t : ByteArray) (n : Nat) (ht : t.size ≤ 140737488355328) (hn : n ≤ 4294967295) : ∀ x, stV t n = some x → x.1.size ≤ 140737488355328 ∧ 0 ≤ x.2 ∧ x.2 ≤ 4294967295 := by
  intro x hx
  unfold stV at hx
  split at hx
  · cases hx
  · cases hx; exact ⟨ht, by omega, by omega⟩
theorem stV_pos (t : ByteArray) (n : Nat) (hn : n ≤ 4294967295) : ∀ x, stV t n = some x → 1 ≤ x.2 ∧ x.2 ≤ 4294967295 := by
  intro x hx
  unfold stV at hx
  split at hx
  · cases hx
  · cases hx; exact ⟨by omega, by omega⟩

/-- where the law stands -/
def CountI (w : World) (T b Dg : Nat) (d : List UInt8) (t : ByteArray) (n : Nat) (wr : World) : Prop := StoreIs wr T b 1 (stN d t n) ∧ Blk wr Dg 30 (row32 d) ∧ Below w.heap.size w wr ∧ w.heap.size ≤ b ∧ Dg ≠ b
theorem CountI.step {w : World} {T b Dg : Nat} {d : List UInt8} {t : ByteArray} {n : Nat} {w1 w2 : World} (h : CountI w T b Dg d t n w1) (hb : Below w1.heap.size w1 w2) : CountI w T b Dg d t n w2 :=
  ⟨h.1.step hb, h.2.1.below hb h.2.1.lt, h.2.2.1.trans (hb.mono h.2.2.1.size), h.2.2.2.1, h.2.2.2.2⟩
theorem CountI.next {w : World} {T b Dg : Nat} {d : List UInt8} {t : ByteArray} {n n' : Nat} {w1 w2 : World} (h : CountI w T b Dg d t n w1) (hs : StoreIs w2 T b 1 (stN d t n')) (hg : w1.grownBy w2 (some b)) : CountI w T b Dg d t n' w2 := by
  have hz := h.2.2.1.size
  have hb := h.2.2.2.1
  exact ⟨hs, h.2.1.grown hg h.2.2.2.2, h.2.2.1.trans ⟨hg.os, hg.tape, hg.output, hg.size, fun k hk => hg.block k (by omega) (by simp; omega)⟩, hb, h.2.2.2.2⟩
theorem run_neq_dig (a : List UInt8) (ha : a.length = 32) (w : World) : (binOp .neq 30 (.agg (row32 a)) (.agg (row32 a))).run Try.prog w = .ok (.bool false) w := by
  simp [binOp, run_equal_dig a a ha ha]
set_option maxRecDepth 100000 in
set_option maxHeartbeats 1000000 in
theorem law_NodedbCounts (s : ByteArray) (p q : Int) (w : World) (hs : s.size ≤ 140737488351232) (hp : -9223372036854775808 ≤ p ∧ p ≤ 9223372036854775807) (hq : -9223372036854775808 ≤ q ∧ q ≤ 9223372036854775807) :
    Calls Try.prog 4 #[.string s, .int .i64 p, .int .i64 q] w (PostT w) := by
  by_cases hr : 0 ≤ p ∧ 0 ≤ q ∧ p ≤ 200 ∧ q ≤ 200
  · clear hp hq
    obtain ⟨hp0, hq0, hp1, hq1⟩ := hr
    obtain ⟨p, rfl⟩ := Int.eq_ofNat_of_zero_le hp0
    obtain ⟨q, rfl⟩ := Int.eq_ofNat_of_zero_le hq0
    have hsz : s.data.toList.length = s.size := Array.length_toList
    have hdl := Dig.of_length s.data.toList
    have HS := Lib.hid hs
    clear hs
    go_enter Try.func4, Try.ntmps4
    go_wp2_with fail
    refine (law_begun 1 _).mono ?_
    rintro e w1 ⟨T, b, rfl, hst⟩
    have hT : T ≠ b := hst.2.2.1.ne
    have hcv := Lib.run_convert_string_bytes (P := Try.prog) w1 9 26 5 s Try.underlying9 Try.underlying26 Try.underlying5
    have hcp := conv_post s w1 5 (by have := HS.out; omega)
    replace hst := Lib.hid hst
    replace hcp := Lib.hid hcp
    go_wp2_with fail
    clear hcv
    refine (rdig_Of s.data.toList _ s.size _ _ hcp.out.1 (by have := HS.out; omega)).mono ?_
    rintro e w2 ⟨rfl, hb2⟩
    replace hst := Lib.hid ((hst.out.step hcp.out.2.2).step hb2)
    clear hcp hb2
    generalize hD : Dig.of s.data.toList = d at *
    have HD := Lib.hid hD
    clear hD
    have hsd := row32_size hdl
    unfold digV
    go_wp2_with (refine wpList_store_row rfl 30 _ _ rfl w2.heap.size (row32 d) rfl rfl _ _ (Blk.zeros w2 _ 30 rfl) (by rw [hsd]; exact info_digest) (by rw [hsd]; rfl) (row32_one _) ?_)
    refine code_at (CountI w T b w2.heap.size d s 0) ?_ ?_
    · have hb3 := below_row ((Below.refl w2.heap.size w2).alloc (Nat.le_refl _) (.cells (bv zero32).toArray 30)) (Nat.le_refl _) (row32 d)
      have h := hst.out
      exact ⟨h.2.2.1.step hb3, (Blk.zeros w2 _ 30 rfl).row _, h.2.2.2.trans (hb3.mono h.2.2.2.size), h.1, by have := h.2.2.1.map.lt; omega⟩
    clear hst
    generalize w2.heap.size = Dg
    intro w3 hi
    have hne := run_neq_dig d hdl
    replace hne := Lib.hid hne
    go_loopw [10] (fun i wr => ∃ k : Nat, k ≤ p ∧ i = .int .i64 k ∧ CountI w T b Dg d s k wr) (fun i _ => p - (intOf i).toNat)
    case atStart => exact ⟨0, Nat.zero_le _, rfl, hi⟩
    case round =>
      clear hi
      obtain ⟨k, hk, rfl, hi⟩ := hrel
      by_cases hlt : k < p
      · replace hi := Lib.hid hi
        go_wp2_with fail
        refine (db_Put T b 1 _ s (stV s k) _ hi.out.1 (by have := HS.out; omega) d HD.out (stN_get d s k) (stV_small s k (by have := HS.out; omega) (by omega))).mono ?_
        rintro e w4 ⟨rfl, hst4, hg4⟩
        obtain ⟨e1, e2, e3⟩ := stN_put d s k (by omega)
        rw [e2] at hst4
        rw [e1, e3]
        clear e1 e2 e3
        replace hi := Lib.hid (hi.out.next hst4 hg4)
        clear hst4 hg4
        unfold digV
        have hne := hne.out
        go_wp2_with (first
          | (refine wpList_store_row rfl 30 _ _ rfl w4.heap.size (row32 d) rfl rfl _ _ (Blk.zeros w4 _ 30 rfl) (by rw [hsd]; exact info_digest) (by rw [hsd]; rfl) (row32_one _) ?_)
          | (refine wpList_load_row rfl 30 _ rfl w4.heap.size rfl _ (row32 d) _ _ ((Blk.zeros w4 _ 30 rfl).row _) Try.underlying30 rfl (by rw [hsd]; exact info_digest) ?_)
          | (refine wpList_load_row rfl 30 _ rfl Dg rfl _ (row32 d) _ _ ((hi.out.2.1.alloc _).row_far _ (by have := hi.out.2.1.lt; omega)) Try.underlying30 rfl (by rw [hsd]; exact info_digest) ?_))
        have hb3 := below_row ((Below.refl w4.heap.size w4).alloc (Nat.le_refl _) (.cells (bv zero32).toArray 30)) (Nat.le_refl _) (row32 d)
        exact ⟨⟨k + 1, by omega, by go_num, hi.out.step hb3⟩, by simp [intOf]; omega⟩
      · obtain rfl : k = p := by omega
        go_wp2_with fail
        obtain ⟨wo, rfl⟩ : ∃ wo : World, wo = wr := ⟨_, rfl⟩
        go_loopw [13] (fun i wr => ∃ k2 : Nat, k2 ≤ q ∧ i = .int .i64 k2 ∧ CountI w T b Dg d s (k - k2) wr) (fun i _ => q - (intOf i).toNat)
        case atStart => exact ⟨0, Nat.zero_le _, rfl, hi⟩
        case round =>
          clear hi
          obtain ⟨k2, hk2, rfl, hi⟩ := hrel
          by_cases hlt2 : k2 < q
          · replace hi := Lib.hid hi
            go_wp2_with (refine wpList_load_row rfl 30 _ rfl Dg rfl _ (row32 d) _ _ hi.out.2.1 Try.underlying30 rfl (by rw [hsd]; exact info_digest) ?_)
            refine (db_Drop T b 1 _ d (stV s (k - k2)) _ hi.out.1 hdl (stN_get d s (k - k2)) (stV_pos s (k - k2) (by omega))).mono ?_
            rintro e w4 ⟨rfl, hst4, hg4⟩
            obtain ⟨e1, e2, e3⟩ := stN_drop d s (k - k2)
            rw [e1] at hst4
            rw [e2, e3]
            clear e1 e2 e3
            replace hi := Lib.hid (hi.out.next hst4 hg4)
            clear hst4 hg4
            rcases Nat.lt_trichotomy (k2 + 1) k with hc | hc | hc
            · have f1 : decide (k - k2 = 1) = false := by simp; omega
              have f2 : (if k - k2 = 0 then (61 : Int) else 0) = 0 := if_neg (by omega)
              have f3 : ((k2 : Int) == (k : Int) - 1) = false := by simp; omega
              have f4 : decide (k2 < k) = true := by simp; omega
              have f5 : decide ((k2 : Int) < (k : Int)) = true := by simp; omega
              rw [f1, f2]
              clear f1 f2
              go_wp2_with fail
              exact ⟨⟨k2 + 1, by omega, by go_num, by have := hi.out; rwa [Nat.sub_sub] at this⟩, by simp [intOf]; omega⟩
            · have f1 : decide (k - k2 = 1) = true := by simp; omega
              have f2 : (if k - k2 = 0 then (61 : Int) else 0) = 0 := if_neg (by omega)
              have f3 : ((k2 : Int) == (k : Int) - 1) = true := by simp; omega
              have f4 : decide (k2 < k) = true := by simp; omega
              have f5 : decide ((k2 : Int) < (k : Int)) = true := by simp; omega
              rw [f1, f2]
              clear f1 f2
              replace hc := Lib.hid hc
              go_wp2_with fail
              exact ⟨⟨k2 + 1, by omega, by go_num, by have := hi.out; rwa [Nat.sub_sub] at this⟩, by simp [intOf]; omega⟩
            · have f1 : decide (k - k2 = 1) = false := by simp; omega
              have f2 : (if k - k2 = 0 then (61 : Int) else 0) = 61 := if_pos (by omega)
              have f3 : ((k2 : Int) == (k : Int) - 1) = false := by simp; omega
              have f4 : decide (k2 < k) = false := by simp; omega
              have f5 : decide ((k2 : Int) < (k : Int)) = false := by simp; omega
              rw [f1, f2]
              clear f1 f2
              go_wp2_with fail
              exact ⟨⟨k2 + 1, by omega, by go_num, by have := hi.out; rwa [Nat.sub_sub] at this⟩, by simp [intOf]; omega⟩
          · obtain rfl : k2 = q := by omega
            replace hi := Lib.hid hi
            go_wp2_with (refine wpList_load_row rfl 30 _ rfl Dg rfl _ (row32 d) _ _ hi.out.2.1 Try.underlying30 rfl (by rw [hsd]; exact info_digest) ?_)
            refine (db_Get T b 1 _ d (stV s (k - k2)) _ hi.out.1 hdl (stN_get d s (k - k2))).mono ?_
            rintro e w4 ⟨rfl, hb4⟩
            replace hi := Lib.hid (hi.out.step hb4)
            clear hb4
            have hln := stN_len d s (k - k2)
            rcases Nat.lt_or_ge k2 k with hc | hc
            · have hv : stV s (k - k2) = some (s, ((k - k2 : Nat) : Int)) := by unfold stV; rw [if_neg (by omega)]
              rw [hv]
              simp only [Option.getD_some, Option.isSome_some]
              clear hv
              have g1 : ((k - k2 : Nat) : Int) = (k : Int) - k2 := by omega
              rw [g1]
              clear g1
              have hln1 : (stN d s (k - k2)).length = 1 := by rw [hln]; omega
              clear hln
              replace hln1 := Lib.hid hln1
              obtain ⟨z, hz⟩ : ∃ z : Int, z = (k : Int) - k2 := ⟨_, rfl⟩
              have hz0 : 0 < z := by omega
              have hz1 : z ≤ 200 := by omega
              have hmx : max z 0 = z := by omega
              have hmn : min z 1 = 1 := by omega
              have hzz : (k : Int) - k2 = z := hz.symm
              rw [← hz]
              clear hz
              go_wp2_with fail
              refine (db_Len T b 1 _ _ hi.out.1).mono ?_
              rintro e _ ⟨rfl, rfl⟩
              rw [hln1.out]
              go_wp2_with fail
              go_ret
              exact ⟨rfl, hi.out.2.2.1⟩
            · have hv : stV s (k - k2) = none := by unfold stV; rw [if_pos (by omega)]
              rw [hv]
              simp only [Option.getD_none, Option.isSome_none]
              clear hv
              have hln1 : (stN d s (k - k2)).length = 0 := by rw [hln]; omega
              clear hln
              replace hln1 := Lib.hid hln1
              obtain ⟨z, hz⟩ : ∃ z : Int, z = (k : Int) - k2 := ⟨_, rfl⟩
              have hz0 : z ≤ 0 := by omega
              have hz1 : -200 ≤ z := by omega
              have hmx : max z 0 = 0 := by omega
              have hzz : (k : Int) - k2 = z := hz.symm
              clear hz
              by_cases he : s = ⟨#[]⟩
              · subst he
                clear hsz
                go_wp2_with fail
                refine (db_Len T b 1 _ _ hi.out.1).mono ?_
                rintro e _ ⟨rfl, rfl⟩
                rw [hln1.out]
                go_wp2_with fail
                go_ret
                exact ⟨rfl, hi.out.2.2.1⟩
              · have he1 : ¬ s.toList = [] := fun h => he (bytes_ext (by rw [ByteArray.toList_eq] at h; rw [h]))
                have he2 : s.toList.isEmpty = false := by cases hl : s.toList with
                  | nil => exact absurd hl he1
                  | cons _ _ => rfl
                go_wp2_with fail
                refine (db_Len T b 1 _ _ hi.out.1).mono ?_
                rintro e _ ⟨rfl, rfl⟩
                rw [hln1.out]
                go_wp2_with fail
                go_ret
                exact ⟨rfl, hi.out.2.2.1⟩
  · have hfin : ∀ (w1 : World), Below w.heap.size w w1 → True := fun _ _ => trivial
    go_enter Try.func4, Try.ntmps4
    go_wp2_with fail
    refine (law_begun 1 _).mono ?_
    rintro e w1 ⟨T, b, rfl, hst⟩
    have hb1 := Lib.hid hst.2.2.2
    clear hst hfin
    by_cases h1 : p < 0
    · have d1 : decide (p < 0) = true := by simpa using h1
      go_wp2_with fail
      go_ret
      exact ⟨rfl, hb1.out⟩
    have d1 : decide (p < 0) = false := by simpa using h1
    by_cases h2 : q < 0
    · have d2 : decide (q < 0) = true := by simpa using h2
      go_wp2_with fail
      go_ret
      exact ⟨rfl, hb1.out⟩
    have d2 : decide (q < 0) = false := by simpa using h2
    by_cases h3 : 200 < p
    · have d3 : decide (200 < p) = true := by simpa using h3
      go_wp2_with fail
      go_ret
      exact ⟨rfl, hb1.out⟩
    have d3 : decide (200 < p) = false := by simpa using h3
    have h4 : 200 < q := by omega
    have d4 : decide (200 < q) = true := by simpa using h4
    go_wp2_with fail
    go_ret
    exact ⟨rfl, hb1.out⟩
end Go.Proofs.Ytioanppnkhiokaa

/-
  The laws of chapter 06: same, name.
-/
namespace Go.Proofs.Ytioanppnkhiokaa
open Go.RowKit

theorem Reads.cells_ne {w : World} {B size n b : Nat} {A : Option Addr} {xs : List Value} {es : Array MapEntry} {clock : Nat} (h : Reads w B size A n xs) (hb : w.heap[b]? = some (.map es clock)) {w' : World} (hg : w.grownBy w' (some b)) (hB : B ≤ w.heap.size) : Reads w' B size A n xs := by
  refine ⟨h.1, fun hn => ?_⟩
  obtain ⟨g, o, e, hg1, hc⟩ := h.2 hn
  refine ⟨g, o, e, hg1, fun j u hu => ?_⟩
  have h1 := hc j u hu
  have hne : g ≠ b := fun e2 => by
    subst e2
    simp [World.cell?, hb] at h1
  rw [World.cell?_of_block (hg.block g (by omega) (fun e2 => hne (by cases e2; rfl)))]
  exact h1
theorem RefIs.grown {w w' : World} {B b : Nat} {L : List One} {A : Option Addr} {n c : Nat} {m : Assoc} (h : RefIs w B L A n c) (hm : MapIs w b m) (hg : w.grownBy w' (some b)) (hB : B ≤ w.heap.size) : RefIs w' B L A n c := by
  obtain ⟨es, clock, hb, _⟩ := hm.ex
  exact ⟨h.len, h.cap, h.lim, h.ds, h.rd.cells_ne hb hg hB⟩
theorem run_neq_dig2 (a b : List UInt8) (ha : a.length = 32) (hb : b.length = 32) (w : World) : (binOp .neq 30 (.agg (row32 a)) (.agg (row32 b))).run Try.prog w = .ok (.bool (!decide (a = b))) w := by
  simp [binOp, run_equal_dig a b ha hb]
set_option maxRecDepth 100000 in
set_option maxHeartbeats 1000000 in
theorem law06_same (p q : List (List UInt8)) (A A' : Option Addr) (n n' c c' B B' : Nat) (w : World) (h : DsIs w B p A n c) (h' : DsIs w B' q A' n' c') :
    Calls Try.prog 18 #[.slice A n c, .slice A' n' c'] w fun e w' => e = .returned (.bool (decide (p = q))) ∧ Below w.heap.size w w' := by
  have hn63 : (n : Int) ≤ 9223372036854775807 := by have := h.cap; have := h.lim; unfold maxLen at this; omega
  have hl := h.len
  have hl' := h'.len
  have HD := Lib.hid (show (∀ wr d, wr = w.drewN d → DsIs wr B p A n c ∧ DsIs wr B' q A' n' c') from fun wr d e => by
    subst e
    exact ⟨h.below (below_drewN (Below.refl _ _) _), h'.below (below_drewN (Below.refl _ _) _)⟩)
  have hpd := h.ds
  have hqd := h'.ds
  clear h h'
  by_cases hne : n = n'
  · subst hne
    replace hl := Lib.hid hl
    replace hl' := Lib.hid hl'
    replace hpd := Lib.hid hpd
    replace hqd := Lib.hid hqd
    go_enter Try.func18, Try.ntmps18
    go_wp2_with fail
    go_loopw [13] (fun i wr => ∃ k : Nat, k ≤ n ∧ i = .int .i64 k ∧ p.take k = q.take k ∧ ∃ d, wr = w.drewN d) (fun i _ => n - (intOf i).toNat)
    case atStart => exact ⟨0, Nat.zero_le _, rfl, rfl, 0, rfl⟩
    case round =>
      obtain ⟨k, hk, rfl, htake, d, hwr⟩ := hrel
      have HT := Lib.hid htake
      clear htake
      by_cases hlt : k < n
      · have hlt' : (k : Int) < n := by omega
        have hkp : k < p.length := by have := hl.out; omega
        have hkq : k < q.length := by have := hl'.out; omega
        obtain ⟨h1, h2⟩ := HD.out wr d hwr
        have hwd := Lib.hid hwr
        clear hwr
        obtain ⟨g, o, rfl, _, hr⟩ := h1.row k hkp
        obtain ⟨g2, o2, rfl, _, hr2⟩ := h2.row k hkq
        clear h1 h2
        have d1 := hpd.out _ (List.getElem_mem hkp)
        have d2 := hqd.out _ (List.getElem_mem hkq)
        replace hr := Lib.hid hr
        replace hr2 := Lib.hid hr2
        by_cases he : p[k] = q[k]
        · have hq := decide_eq_true he
          replace he := Lib.hid he
          go_wp2_with fail
          (refine wp_region_held_drew (S := (fun W => W = wr.drew)) (by kernel_rfl) (by rfl) (fun hS => ?_); (refine hTake (i := 0) (v := ?v1) rfl (by kernel_rfl) (by kernel_rfl) (by kernel_rfl) (fun _ _ _ h => h) (Or.inl ⟨by rfl, ?y1⟩) hS ?r1; (case y1 => (intro W hW; (go_simp); (try with_reducible rfl); done)); try simp only [Act.put, List.setIfInBounds_toArray, List.set_cons_zero, List.set_cons_succ]); (refine hTake (i := 1) (v := ?v2) rfl (by kernel_rfl) (by kernel_rfl) (by kernel_rfl) (fun _ _ _ h => h) (Or.inl ⟨by rfl, ?y2⟩) hS ?r2; (case y2 => (intro W hW; (go_simp); (try with_reducible rfl); done)); try simp only [Act.put, List.setIfInBounds_toArray, List.set_cons_zero, List.set_cons_succ]); (refine hTake (i := 2) (v := ?v3) rfl (by kernel_rfl) (by kernel_rfl) (by kernel_rfl) (fun _ _ _ h => h) (Or.inl ⟨by rfl, ?y3⟩) hS ?r3; (case y3 => (intro W hW; (go_simp); (try with_reducible rfl); done)); try simp only [Act.put, List.setIfInBounds_toArray, List.set_cons_zero, List.set_cons_succ]); (refine hTake (i := 3) rfl (by kernel_rfl) (by kernel_rfl) (by kernel_rfl) (fun _ _ _ h => h) (yieldsIf_load_mid (by rfl) _ _ rfl _ _ rfl (bv p[k]) _ (fun W hW => (by subst hW; exact hr.out)) Try.underlying30 rfl (by rw [bv_length, d1]; exact info_digest)) hS ?_; try simp only [Act.put, List.setIfInBounds_toArray, List.set_cons_zero, List.set_cons_succ]); (refine hTake (i := 4) (v := ?v4) rfl (by kernel_rfl) (by kernel_rfl) (by kernel_rfl) (fun _ _ _ h => h) (Or.inl ⟨by rfl, ?y4⟩) hS ?r4; (case y4 => (intro W hW; (go_simp); (try with_reducible rfl); done)); try simp only [Act.put, List.setIfInBounds_toArray, List.set_cons_zero, List.set_cons_succ]); (refine hTake (i := 5) (v := ?v5) rfl (by kernel_rfl) (by kernel_rfl) (by kernel_rfl) (fun _ _ _ h => h) (Or.inl ⟨by rfl, ?y5⟩) hS ?r5; (case y5 => (intro W hW; (go_simp); (try with_reducible rfl); done)); try simp only [Act.put, List.setIfInBounds_toArray, List.set_cons_zero, List.set_cons_succ]); (refine hTake (i := 6) (v := ?v6) rfl (by kernel_rfl) (by kernel_rfl) (by kernel_rfl) (fun _ _ _ h => h) (Or.inl ⟨by rfl, ?y6⟩) hS ?r6; (case y6 => (intro W hW; (go_simp); (try with_reducible rfl); done)); try simp only [Act.put, List.setIfInBounds_toArray, List.set_cons_zero, List.set_cons_succ]); (refine hTake (i := 7) rfl (by kernel_rfl) (by kernel_rfl) (by kernel_rfl) (fun _ _ _ h => h) (yieldsIf_load_mid (by rfl) _ _ rfl _ _ rfl (bv q[k]) _ (fun W hW => (by subst hW; exact hr2.out)) Try.underlying30 rfl (by rw [bv_length, d2]; exact info_digest)) hS ?_; try simp only [Act.put, List.setIfInBounds_toArray, List.set_cons_zero, List.set_cons_succ]); (refine hTake (i := 8) (v := ?v7) rfl (by kernel_rfl) (by kernel_rfl) (by kernel_rfl) (fun _ _ _ h => h) (Or.inl ⟨by rfl, ?y7⟩) hS ?r7; (case y7 => (intro W hW; ((have g : ∀ w, (binOp .neq 30 (.agg (bv p[k]).toArray) (.agg (bv q[k]).toArray)).run Try.prog w = .ok (.bool (!decide (p[k] = q[k]))) w := fun w => run_neq_dig2 _ _ d1 d2 w; go_simp)); (try with_reducible rfl); done)); try simp only [Act.put, List.setIfInBounds_toArray, List.set_cons_zero, List.set_cons_succ]); refine wpAnyH_done (by kernel_rfl) ?_ _)
          clear hS
          go_wp2_with fail
          refine ⟨⟨k + 1, by omega, by go_num, by rw [List.take_succ_eq_append_getElem hkp, List.take_succ_eq_append_getElem hkq, HT.out, he.out], d + 1, by rw [hwd.out]; exact World.drewN_drewN _ _ _⟩, by simp [intOf]; omega⟩
        · have hq := decide_eq_false he
          replace he := Lib.hid he
          go_wp2_with fail
          (refine wp_region_held_drew (S := (fun W => W = wr.drew)) (by kernel_rfl) (by rfl) (fun hS => ?_); (refine hTake (i := 0) (v := ?v8) rfl (by kernel_rfl) (by kernel_rfl) (by kernel_rfl) (fun _ _ _ h => h) (Or.inl ⟨by rfl, ?y8⟩) hS ?r8; (case y8 => (intro W hW; (go_simp); (try with_reducible rfl); done)); try simp only [Act.put, List.setIfInBounds_toArray, List.set_cons_zero, List.set_cons_succ]); (refine hTake (i := 1) (v := ?v9) rfl (by kernel_rfl) (by kernel_rfl) (by kernel_rfl) (fun _ _ _ h => h) (Or.inl ⟨by rfl, ?y9⟩) hS ?r9; (case y9 => (intro W hW; (go_simp); (try with_reducible rfl); done)); try simp only [Act.put, List.setIfInBounds_toArray, List.set_cons_zero, List.set_cons_succ]); (refine hTake (i := 2) (v := ?v10) rfl (by kernel_rfl) (by kernel_rfl) (by kernel_rfl) (fun _ _ _ h => h) (Or.inl ⟨by rfl, ?y10⟩) hS ?r10; (case y10 => (intro W hW; (go_simp); (try with_reducible rfl); done)); try simp only [Act.put, List.setIfInBounds_toArray, List.set_cons_zero, List.set_cons_succ]); (refine hTake (i := 3) rfl (by kernel_rfl) (by kernel_rfl) (by kernel_rfl) (fun _ _ _ h => h) (yieldsIf_load_mid (by rfl) _ _ rfl _ _ rfl (bv p[k]) _ (fun W hW => (by subst hW; exact hr.out)) Try.underlying30 rfl (by rw [bv_length, d1]; exact info_digest)) hS ?_; try simp only [Act.put, List.setIfInBounds_toArray, List.set_cons_zero, List.set_cons_succ]); (refine hTake (i := 4) (v := ?v11) rfl (by kernel_rfl) (by kernel_rfl) (by kernel_rfl) (fun _ _ _ h => h) (Or.inl ⟨by rfl, ?y11⟩) hS ?r11; (case y11 => (intro W hW; (go_simp); (try with_reducible rfl); done)); try simp only [Act.put, List.setIfInBounds_toArray, List.set_cons_zero, List.set_cons_succ]); (refine hTake (i := 5) (v := ?v12) rfl (by kernel_rfl) (by kernel_rfl) (by kernel_rfl) (fun _ _ _ h => h) (Or.inl ⟨by rfl, ?y12⟩) hS ?r12; (case y12 => (intro W hW; (go_simp); (try with_reducible rfl); done)); try simp only [Act.put, List.setIfInBounds_toArray, List.set_cons_zero, List.set_cons_succ]); (refine hTake (i := 6) (v := ?v13) rfl (by kernel_rfl) (by kernel_rfl) (by kernel_rfl) (fun _ _ _ h => h) (Or.inl ⟨by rfl, ?y13⟩) hS ?r13; (case y13 => (intro W hW; (go_simp); (try with_reducible rfl); done)); try simp only [Act.put, List.setIfInBounds_toArray, List.set_cons_zero, List.set_cons_succ]); (refine hTake (i := 7) rfl (by kernel_rfl) (by kernel_rfl) (by kernel_rfl) (fun _ _ _ h => h) (yieldsIf_load_mid (by rfl) _ _ rfl _ _ rfl (bv q[k]) _ (fun W hW => (by subst hW; exact hr2.out)) Try.underlying30 rfl (by rw [bv_length, d2]; exact info_digest)) hS ?_; try simp only [Act.put, List.setIfInBounds_toArray, List.set_cons_zero, List.set_cons_succ]); (refine hTake (i := 8) (v := ?v14) rfl (by kernel_rfl) (by kernel_rfl) (by kernel_rfl) (fun _ _ _ h => h) (Or.inl ⟨by rfl, ?y14⟩) hS ?r14; (case y14 => (intro W hW; ((have g : ∀ w, (binOp .neq 30 (.agg (bv p[k]).toArray) (.agg (bv q[k]).toArray)).run Try.prog w = .ok (.bool (!decide (p[k] = q[k]))) w := fun w => run_neq_dig2 _ _ d1 d2 w; go_simp)); (try with_reducible rfl); done)); try simp only [Act.put, List.setIfInBounds_toArray, List.set_cons_zero, List.set_cons_succ]); refine wpAnyH_done (by kernel_rfl) ?_ _)
          clear hS
          go_wp2_with fail
          go_ret
          refine ⟨by rw [decide_eq_false (fun e => he.out (by subst e; rfl))]; rfl, ?_⟩
          rw [hwd.out]
          exact (below_drewN (Below.refl _ _) _).drew
      · obtain rfl : k = n := by omega
        have hlt' : ¬ (k : Int) < k := by omega
        have he : p = q := by have := HT.out; rwa [List.take_of_length_le (by rw [← hl.out]; omega), List.take_of_length_le (by rw [← hl'.out]; omega)] at this
        replace he := Lib.hid he
        subst hwr
        go_wp2_with fail
        go_ret
        exact ⟨by rw [decide_eq_true he.out]; rfl, below_drewN (Below.refl _ _) _⟩
  · have hnn : ((n : Int) != (n' : Int)) = true := by simp; omega
    have he : p ≠ q := fun e => hne (by rw [hl, hl', e])
    replace he := Lib.hid he
    clear hl hl' hne
    go_enter Try.func18, Try.ntmps18
    go_wp2_with fail
    go_ret
    exact ⟨by rw [decide_eq_false he.out]; rfl, Below.refl _ _⟩
/-- a call of a script -/
structure OpC where
  k : Int
  t : ByteArray
  o : Bool
  d : List UInt8
def opRow (x : OpC) : List Value := [.int .i64 x.k, .string x.t, .bool x.o] ++ bv x.d
def opArr (x : OpC) : Array Value := (opRow x).toArray
def OkOp (x : OpC) : Prop := x.d.length = 32 ∧ x.t.size ≤ 140737488351232
def nameOf (x : OpC) : List UInt8 := if x.o then x.d else Dig.of x.t.data.toList
theorem opArr_size {x : OpC} (h : x.d.length = 32) : (opArr x).size = 35 := by simp [opArr, opRow, bv_length, h]
theorem opArr_one (x : OpC) : (opArr x).all (·.oneCell') = true := Array.all_eq_true_iff_forall_mem.2 fun v hv => by
  simp only [opArr, opRow, List.mem_toArray, List.mem_append, List.mem_cons, List.not_mem_nil, or_false] at hv
  rcases hv with (rfl | rfl | rfl) | hv
  · rfl
  · rfl
  · rfl
  · exact bv_one _ v hv
theorem nameOf_length {x : OpC} (h : x.d.length = 32) : (nameOf x).length = 32 := by
  unfold nameOf
  split
  · exact h
  · exact Dig.of_length _
section
variable {w : World} {g : Nat} {t : TypeId} {x : OpC}
theorem Blk.op_k (h : Blk w g t (opArr x)) : w.cell? ⟨g, 0, none⟩ = some (.int .i64 x.k) := h.cell 0
theorem Blk.op_t (h : Blk w g t (opArr x)) : w.cell? ⟨g, 1, none⟩ = some (.string x.t) := h.cell 1
theorem Blk.op_o (h : Blk w g t (opArr x)) : w.cell? ⟨g, 2, none⟩ = some (.bool x.o) := h.cell 2
theorem Blk.op_d (h : Blk w g t (opArr x)) : w.rangeAt g 3 (bv x.d) := fun j v hv => by
  rw [h.cell (3 + j), ← Array.getElem?_toList]
  show (opRow x)[3 + j]? = some v
  rw [opRow, List.getElem?_append_right (by simp), ← hv]
  congr 1
  simp
end
theorem info_opc : (Try.prog.info? 54).map (·.size) = some 35 := by kernel_rfl
set_option maxRecDepth 100000 in
set_option maxHeartbeats 1000000 in
theorem law06_name (x : OpC) (hx : OkOp x) (w : World) :
    Calls Try.prog 34 #[.agg (opArr x)] w fun e w' => e = .returned (digV (nameOf x)) ∧ Below w.heap.size w w' := by
  obtain ⟨hd, ht⟩ := hx
  have hsz : x.t.data.toList.length = x.t.size := Array.length_toList
  have HT := Lib.hid ht
  clear ht
  have hs := opArr_size hd
  have hst : ∀ cs : Array Value, cs.size = 32 → (fun W => Blk W w.heap.size 54 (opArr x) ∧ (∃ cs : Array Value, Blk W (w.heap.size + 1) 30 cs ∧ cs.size = 32) ∧ Below w.heap.size w W) ((w.alloc (.cells (opArr x) 54)).alloc (.cells cs 30)) := fun cs hcs =>
    ⟨(Blk.new w _ _).alloc _, ⟨_, Blk.new' (by simp), hcs⟩, ((Below.refl w.heap.size w).alloc (Nat.le_refl _) _).alloc (by simp) _⟩
  replace hst := Lib.hid hst
  go_enter Try.func34, Try.ntmps34
  go_upto_region 1 with fail
  refine code_at (fun W => Blk W w.heap.size 54 (opArr x) ∧ (∃ cs : Array Value, Blk W (w.heap.size + 1) 30 cs ∧ cs.size = 32) ∧ Below w.heap.size w W) (hst.out _ rfl) ?_
  clear hst
  rintro w1 ⟨hb, ⟨cs, hr, hcs⟩, hB⟩
  have c2 := hb.op_o
  have c1 := hb.op_t
  have hop := Lib.hid hb.op_d
  replace hb := Lib.hid hb
  replace hr := Lib.hid hr
  replace hcs := Lib.hid hcs
  replace hB := Lib.hid hB
  have hcp := Lib.hid (conv_post x.t w1 5 (by have := HT.out; omega))
  have hcv := Lib.run_convert_string_bytes (P := Try.prog) w1 9 26 5 x.t Try.underlying9 Try.underlying26 Try.underlying5
  have hsd := row32_size hd
  cases hxo : x.o with
  | true =>
    have hn : nameOf x = x.d := by unfold nameOf; rw [hxo]; rfl
    replace hn := Lib.hid hn
    rw [hxo] at c2
    replace hxo := Lib.hid hxo
    clear hcv
    go_wp2_with (first
      | (refine wpList_mid_g (by rfl) 30 _ rfl w.heap.size 3 rfl (bv x.d) _ hop.out Try.underlying30 rfl (by rw [bv_length, hd]; exact info_digest) ?_)
      | (refine wpList_store_row rfl 30 _ _ rfl (w.heap.size + 1) (row32 x.d) rfl rfl _ _ hr.out (by rw [hsd]; exact info_digest) (by rw [hsd]; exact hcs.out) (row32_one _) ?_))
    refine bodyPost_ret (v := digV x.d) (results_cell_row rfl _ _ (w.heap.size + 1) _ (row32 x.d) _ _ rfl (hr.out.row _) Try.underlying30 rfl (by rw [hsd]; exact info_digest)) rfl ⟨by rw [hn.out], below_row hB.out (Nat.le_succ _) _⟩
  | false =>
    have hn : nameOf x = Dig.of x.t.data.toList := by unfold nameOf; rw [hxo]; rfl
    replace hn := Lib.hid hn
    rw [hxo] at c2
    replace hxo := Lib.hid hxo
    go_wp2_with fail
    clear hcv
    refine (rdig_Of x.t.data.toList _ x.t.size _ _ hcp.out.1 (by have := HT.out; omega)).mono ?_
    rintro e w2 ⟨rfl, hb2⟩
    have hr2 := Lib.hid ((hr.out.below hcp.out.2.2 hr.out.lt).below hb2 (Nat.lt_of_lt_of_le hr.out.lt hcp.out.2.2.size))
    have hB2 := Lib.hid ((hB.out.trans (hcp.out.2.2.mono hB.out.size)).trans (hb2.mono (Nat.le_trans hB.out.size hcp.out.2.2.size)))
    have hol := Dig.of_length x.t.data.toList
    generalize Dig.of x.t.data.toList = d at *
    clear hcp hb2 c1 c2
    have hsd := row32_size hol
    unfold digV
    go_wp2_with (refine wpList_store_row rfl 30 _ _ rfl (w.heap.size + 1) (row32 d) rfl rfl _ _ hr2.out (by rw [hsd]; exact info_digest) (by rw [hsd]; exact hcs.out) (row32_one _) ?_)
    refine bodyPost_ret (v := .agg (row32 d)) (results_cell_row rfl _ _ (w.heap.size + 1) _ (row32 d) _ _ rfl (hr2.out.row _) Try.underlying30 rfl (by rw [hsd]; exact info_digest)) rfl ⟨by rw [hn.out]; rfl, below_row hB2.out (Nat.le_succ _) _⟩
end Go.Proofs.Ytioanppnkhiokaa

/-
  The laws of chapter 06: step, the parts of its state.
-/
namespace Go.Proofs.Ytioanppnkhiokaa
open Go.RowKit

def stepL (L : List One) (most : Int) (x : OpC) : List One := if x.k = 0 then putL L most x.t (Dig.of x.t.data.toList) else if x.k = 1 then dropL L (nameOf x) else L
structure StpI (w : World) (S b : Nat) (most : Int) (L : List One) (A : Option Addr) (n c : Nat) (x : OpC) (m : Assoc) (W : World) : Prop where
  r : Blk W w.heap.size 45 #[.int .i64 most, .slice A n c]
  o : Blk W (w.heap.size + 1) 54 (opArr x)
  z : ∃ cs : Array Value, Blk W (w.heap.size + 2) 45 cs ∧ cs.size = 2
  st : StoreIs W S b most m
  rf : RefIs W w.heap.size L A n c
  g : w.grownBy W (some b)
  sl : S < w.heap.size
  bl : b < w.heap.size
section
variable {w W W' : World} {S b : Nat} {most : Int} {L : List One} {A : Option Addr} {n c : Nat} {x : OpC} {m m' : Assoc}
theorem StpI.top (h : StpI w S b most L A n c x m W) : w.heap.size + 2 < W.heap.size := by
  obtain ⟨cs, h1, _⟩ := h.z
  exact h1.lt
theorem StpI.step (h : StpI w S b most L A n c x m W) (hb : Below W.heap.size W W') : StpI w S b most L A n c x m W' := by
  have ht := h.top
  obtain ⟨cs, h1, h2⟩ := h.z
  exact ⟨h.r.below hb h.r.lt, h.o.below hb h.o.lt, ⟨cs, h1.below hb h1.lt, h2⟩, h.st.step hb, h.rf.below (hb.mono (by omega)), grown_step h.g hb, h.sl, h.bl⟩
theorem StpI.drew (h : StpI w S b most L A n c x m W) : StpI w S b most L A n c x m W.drew := h.step (Below.refl _ _).drew
theorem StpI.turn (h : StpI w S b most L A n c x m W) (hg : W.grownBy W' (some b)) (hst : StoreIs W' S b most m') : StpI w S b most L A n c x m' W' := by
  have ht := h.top
  have hbl := h.bl
  obtain ⟨cs, h1, h2⟩ := h.z
  refine ⟨h.r.grown hg (by omega), h.o.grown hg (by omega), ⟨cs, h1.grown hg (by omega), h2⟩, hst, h.rf.grown h.st.map hg (by omega), ?_, h.sl, h.bl⟩
  exact ⟨hg.os.trans h.g.os, hg.tape.trans h.g.tape, hg.output.trans h.g.output, Nat.le_trans h.g.size hg.size, fun k hk hne => (hg.block k (Nat.lt_of_lt_of_le hk h.g.size) hne).trans (h.g.block k hk hne)⟩
theorem StpI.sto (h : StpI w S b most L A n c x m W) (R : Array Value) (hR : R.size = 2) : StpI w S b most L A n c x m (W.setRow (w.heap.size + 2) R) := by
  have hsl := h.sl
  have hbl := h.bl
  obtain ⟨cs, h1, h2⟩ := h.z
  have hb := below_row (Below.refl w.heap.size W) (show w.heap.size ≤ w.heap.size + 2 by omega) R
  exact ⟨h.r.row_far R (by omega), h.o.row_far R (by omega), ⟨R, h1.row R, hR⟩, h.st.below hb hsl hbl, h.rf.below hb, grown_row h.g (by omega) R, hsl, hbl⟩
theorem StpI.end_ (h : StpI w S b most L A n c x m W) (R : Array Value) : Blk (W.setRow (w.heap.size + 2) R) (w.heap.size + 2) 45 R := by
  obtain ⟨cs, h1, h2⟩ := h.z
  exact h1.row R
theorem StpI.start (hst : StoreIs w S b most m) (hr : RefIs w w.heap.size L A n c) (x : OpC) : StpI w S b most L A n c x m (((w.alloc (.cells #[.int .i64 most, .slice A n c] 45)).alloc (.cells (opArr x) 54)).alloc (.cells #[.int .i64 0, .slice none 0 0] 45)) := by
  have hb0 := (((Below.refl w.heap.size w).alloc (Nat.le_refl _) (.cells #[.int .i64 most, .slice A n c] 45)).alloc (by simp) (.cells (opArr x) 54)).alloc (by simp; omega) (.cells #[.int .i64 0, .slice none 0 0] 45)
  exact ⟨((Blk.new w _ _).alloc _).alloc _, (Blk.new' (g := w.heap.size + 1) (by simp)).alloc _, ⟨_, Blk.new' (g := w.heap.size + 2) (by simp), rfl⟩, hst.step hb0, hr.below hb0, grown_below hb0, hst.cells.lt, hst.map.lt⟩
end
/-- what step leaves -/
def StepQ (S b : Nat) (most : Int) (L : List One) (w : World) (e : Ending) (w' : World) : Prop :=
  ∃ A n c, e = .returned (.tuple #[.agg #[.int .i64 most, .slice A n c], .bool true]) ∧ StoreIs w' S b most (asc L) ∧ RefIs w' w'.heap.size L A n c ∧ w.grownBy w' (some b)
/-- .. and what a Put has told -/
structure StpP (w : World) (S b : Nat) (most : Int) (L : List One) (A : Option Addr) (n c : Nat) (x : OpC) (m : Assoc) (C : Nat) (d : List UInt8) (W : World) : Prop where
  s : StpI w S b most L A n c x m W
  d : Blk W C 30 (row32 d)
  lt : w.heap.size + 2 < C
structure StpR (w : World) (S b : Nat) (most : Int) (L : List One) (A : Option Addr) (n c : Nat) (x : OpC) (m : Assoc) (C : Nat) (d : List UInt8) (T : Nat) (L' : List One) (A' : Option Addr) (n' c' : Nat) (d' : List UInt8) (W : World) : Prop where
  s : StpP w S b most L A n c x m C d W
  t : Blk W T 45 #[.int .i64 most, .slice A' n' c']
  q : Blk W (T + 1) 30 (row32 d')
  rf : RefIs W T L' A' n' c'
  lt : C < T
section
variable {w W W' : World} {S b : Nat} {most : Int} {L L' : List One} {A A' : Option Addr} {n c n' c' C T : Nat} {x : OpC} {m m' : Assoc} {d d' : List UInt8}
theorem StpP.step (h : StpP w S b most L A n c x m C d W) (hb : Below W.heap.size W W') : StpP w S b most L A n c x m C d W' := ⟨h.s.step hb, h.d.below hb h.d.lt, h.lt⟩
theorem StpR.step (h : StpR w S b most L A n c x m C d T L' A' n' c' d' W) (hb : Below W.heap.size W W') : StpR w S b most L A n c x m C d T L' A' n' c' d' W' :=
  ⟨h.s.step hb, h.t.below hb h.t.lt, h.q.below hb h.q.lt, h.rf.below (hb.mono (Nat.le_of_lt h.t.lt)), h.lt⟩
theorem StpR.sto (h : StpR w S b most L A n c x m C d T L' A' n' c' d' W) (R : Array Value) (hR : R.size = 2) : StpR w S b most L A n c x m C d T L' A' n' c' d' (W.setRow (w.heap.size + 2) R) := by
  have h1 := h.lt
  have h2 := h.s.lt
  obtain ⟨cs, hz, hcs⟩ := h.s.s.z
  exact ⟨⟨h.s.s.sto R hR, h.s.d.row_far R (by omega), h2⟩, h.t.row_far R (by omega), h.q.row_far R (by omega), h.rf.far hz (by omega) R, h1⟩
end
/-- .. while the second answer is laid down -/
structure StpM (w : World) (S b : Nat) (most : Int) (L : List One) (A : Option Addr) (n c : Nat) (x : OpC) (m : Assoc) (C : Nat) (d : List UInt8) (T : Nat) (L' : List One) (A' : Option Addr) (n' c' : Nat) (W : World) : Prop where
  s : StpP w S b most L A n c x m C d W
  t : Blk W T 45 #[.int .i64 most, .slice A' n' c']
  q : ∃ cs : Array Value, Blk W (T + 1) 30 cs ∧ cs.size = 32
  rf : RefIs W T L' A' n' c'
  lt : C < T
section
variable {w W W' : World} {S b : Nat} {most : Int} {L L' : List One} {A A' : Option Addr} {n c n' c' C T : Nat} {x : OpC} {m m' : Assoc} {d d' : List UInt8}
theorem StpM.begin (h : StpP w S b most L A n c x m C d W) (hr : RefIs W W.heap.size L' A' n' c') (cs cs2 : Array Value) (h2 : cs2.size = 32) :
    StpM w S b most L A n c x m C d W.heap.size L' A' n' c' (((W.alloc (.cells cs 45)).alloc (.cells cs2 30)).setRow W.heap.size #[.int .i64 most, .slice A' n' c']) := by
  have hb := below_row (((Below.refl W.heap.size W).alloc (Nat.le_refl _) (.cells cs 45)).alloc (by simp) (.cells cs2 30)) (Nat.le_refl _) #[.int .i64 most, .slice A' n' c']
  exact ⟨h.step hb, ((Blk.new W _ _).alloc _).row _, ⟨cs2, (Blk.new' (g := W.heap.size + 1) (by simp)).row_far _ (by omega), h2⟩, hr.below hb, h.d.lt⟩
theorem StpM.done (h : StpM w S b most L A n c x m C d T L' A' n' c' W) (R : List UInt8) : StpR w S b most L A n c x m C d T L' A' n' c' R (W.setRow (T + 1) (row32 R)) := by
  have h1 := h.lt
  have h2 := h.s.lt
  obtain ⟨cs, hq, hcs⟩ := h.q
  have hbT := below_row (Below.refl T W) (show T ≤ T + 1 by omega) (row32 R)
  have hs := h.s.s
  have hsl := hs.sl
  have hbl := hs.bl
  obtain ⟨zs, hz, hzs⟩ := hs.z
  exact ⟨⟨⟨hs.r.row_far _ (by omega), hs.o.row_far _ (by omega), ⟨zs, hz.row_far _ (by omega), hzs⟩, hs.st.below hbT (by omega) (by omega), hs.rf.below (hbT.mono (by omega)), grown_row hs.g (by omega) _, hsl, hbl⟩, h.s.d.row_far _ (by omega), h2⟩, h.t.row_far _ (by omega), hq.row _, h.rf.below hbT, h1⟩
end
set_option maxRecDepth 100000 in
set_option maxHeartbeats 4000000 in
theorem law06_step0 (S b : Nat) (most : Int) (L : List One) (A : Option Addr) (n c : Nat) (x : OpC) (w : World) (h : StoreIs w S b most (asc L)) (hL : OkL L) (hr : RefIs w w.heap.size L A n c) (hx : OkOp x) (hlim : (n + 1) * 56 ≤ 140737488355328) (hk : x.k = 0) :
    Calls Try.prog 20 #[.pointer (some ⟨S, 0, none⟩), .agg #[.int .i64 most, .slice A n c], .agg (opArr x)] w (StepQ S b most (putL L most x.t (Dig.of x.t.data.toList)) w) := by
  have hxs := opArr_size hx.1
  have hst := Lib.hid (StpI.start h hr x)
  replace hL := Lib.hid hL
  replace hlim := Lib.hid hlim
  replace hx := Lib.hid hx
  have hol := Dig.of_length x.t.data.toList
  generalize hD : Dig.of x.t.data.toList = d at *
  replace hD := Lib.hid hD
  clear h hr
  go_enter Try.func20, Try.ntmps20
  go_upto_region 1 with fail
  refine code_at (StpI w S b most L A n c x (asc L)) hst.out ?_
  clear hst
  intro w1 hi
  have c0 : w1.cell? ⟨w.heap.size + 1, 0, none⟩ = some (.int .i64 0) := by have := hi.o.op_k; rwa [hk] at this
  have c1 := hi.o.op_t
  replace hi := Lib.hid hi
  replace hk := Lib.hid hk
  have cP := Lib.hid (db_Put S b most (asc L) x.t (getL L d) w1 hi.out.st (by have := hx.out.2; omega) d hD.out (asc_get L d) (fun v hv => hL.out.small v hv))
  rw [← asc_put hL.out] at cP
  go_wp2_with fail
  refine cP.out.mono ?_
  rintro e w2 ⟨rfl, hst2, hg2⟩
  replace hi := Lib.hid (hi.out.turn hg2 hst2)
  clear hst2 hg2 cP c0 c1
  have hX : (putX (asc L) d x.t (getL L d) most).length = 32 := by unfold putX; split; exact hol; rfl
  generalize hXe : putX (asc L) d x.t (getL L d) most = X at *
  generalize hKe : putK (asc L) x.t (getL L d) most = Kk at *
  replace hXe := Lib.hid hXe
  replace hKe := Lib.hid hKe
  have hsX := row32_size hX
  unfold digV
  go_upto_region 4 with (refine wpList_store_row rfl 30 _ _ rfl w2.heap.size (row32 X) rfl rfl _ _ (Blk.zeros w2 _ 30 rfl) (by rw [hsX]; exact info_digest) (by rw [hsX]; rfl) (row32_one _) ?_)
  refine code_at (StpP w S b most L A n c x (asc (putL L most x.t d)) w2.heap.size X) ?_ ?_
  · have hb3 := below_row ((Below.refl w2.heap.size w2).alloc (Nat.le_refl _) (.cells (bv zero32).toArray 30)) (Nat.le_refl _) (row32 X)
    exact ⟨hi.out.step hb3, (Blk.zeros w2 _ 30 rfl).row _, hi.out.top⟩
  clear hi
  generalize w2.heap.size = C at *
  intro w3 hi
  have c1 := hi.s.o.op_t
  have cR := Lib.hid (ref_Put most L A n c x.t w3 (hi.s.rf.more (by have := hi.s.top; omega)) hL.out hlim.out hx.out.2 d hD.out)
  rw [hXe.out, hKe.out] at cR
  have hr0 := Lib.hid hi.s.r
  replace hi := Lib.hid hi
  go_wp2_with (refine wpList_load_row rfl 45 _ rfl w.heap.size rfl _ #[.int .i64 most, .slice A n c] _ _ hr0.out Try.underlying45 rfl info_sto ?_)
  refine cR.out.mono ?_
  rintro e w4 ⟨A', n', c', rfl, hr4, hb4⟩
  replace hi := Lib.hid (hi.out.step hb4)
  replace hr4 := Lib.hid hr4
  clear hr0 cR c1 hb4
  unfold digV
  go_upto_region 5 with (first
    | (refine wpList_store_row rfl 45 _ _ rfl w4.heap.size #[.int .i64 most, .slice A' n' c'] rfl rfl _ _ ((Blk.new w4 _ _).alloc _) info_sto rfl (sto_one _ _ _ _) ?_; refine ops_at (StpM w S b most L A n c x (asc (putL L most x.t d)) C X w4.heap.size (putL L most x.t d) A' n' c') (StpM.begin hi.out hr4.out _ _ rfl) ?_; intro w5 hm5; obtain ⟨q5, hq5, hqs5⟩ := hm5.q; replace hm5 := Lib.hid hm5; replace hq5 := Lib.hid hq5; replace hqs5 := Lib.hid hqs5)
    | (refine wpList_store_row rfl 30 _ _ rfl (w4.heap.size + 1) (row32 X) rfl rfl _ _ hq5.out (by rw [hsX]; exact info_digest) (by rw [hsX]; exact hqs5.out) (row32_one _) ?_))
  refine code_at (StpR w S b most L A n c x (asc (putL L most x.t d)) C X w4.heap.size (putL L most x.t d) A' n' c' X) (hm5.out.done X) ?_
  clear hi hr4 hm5 hq5 hqs5
  generalize w4.heap.size = T at *
  intro w6 hi
  replace hi := Lib.hid hi
  refine wp_region_held_drew (S := (StpR w S b most L A n c x (asc (putL L most x.t d)) C X T (putL L most x.t d) A' n' c' X)) (by kernel_rfl) (by exact hi.out.step (Below.refl _ _).drew) (fun hS => ?_)
  clear hi
  (refine hTake (i := 0) rfl (by kernel_rfl) (by kernel_rfl) (by kernel_rfl) (fun _ _ _ h => h) (yieldsIf_load_mid (by rfl) _ _ rfl _ _ rfl [.int .i64 most, .slice A' n' c'] _ (fun W hW => (hW.t.rangeL)) Try.underlying45 rfl info_sto) hS ?_; try simp only [Act.put, List.setIfInBounds_toArray, List.set_cons_zero, List.set_cons_succ])
  (refine hTake (i := 1) rfl (by kernel_rfl) (by kernel_rfl) (by kernel_rfl) (fun _ _ _ h => h) (yieldsIf_load_mid (by rfl) _ _ rfl _ _ rfl (bv X) _ (fun W hW => (hW.s.d.range)) Try.underlying30 rfl (by rw [bv_length, hX]; exact info_digest)) hS ?_; try simp only [Act.put, List.setIfInBounds_toArray, List.set_cons_zero, List.set_cons_succ])
  (refine hTake (i := 2) rfl (by kernel_rfl) (by kernel_rfl) (by kernel_rfl) (fun _ _ _ h => h) (yieldsIf_load_mid (by rfl) _ _ rfl _ _ rfl (bv X) _ (fun W hW => (hW.q.range)) Try.underlying30 rfl (by rw [bv_length, hX]; exact info_digest)) hS ?_; try simp only [Act.put, List.setIfInBounds_toArray, List.set_cons_zero, List.set_cons_succ])
  (refine hTake (i := 3) (v := ?v1) rfl (by kernel_rfl) (by kernel_rfl) (by kernel_rfl) (fun _ _ _ h => h) (Or.inl ⟨by rfl, ?y1⟩) hS ?r1; (case y1 => (intro W hW; ((have g : ∀ w, (binOp .eql 30 (.agg (bv X).toArray) (.agg (bv X).toArray)).run Try.prog w = .ok (.bool true) w := fun w => (run_eql_dig _ _ hX hX w).trans (by simp); go_simp)); (try with_reducible rfl); done)); try simp only [Act.put, List.setIfInBounds_toArray, List.set_cons_zero, List.set_cons_succ])
  (refine hTake (i := 4) (v := ?v2) rfl (by kernel_rfl) (by kernel_rfl) (by kernel_rfl) (fun _ _ _ h => h) (Or.inl ⟨by rfl, ?y2⟩) hS ?r2; (case y2 => (intro W hW; (go_simp); (try with_reducible rfl); done)); try simp only [Act.put, List.setIfInBounds_toArray, List.set_cons_zero, List.set_cons_succ])
  (refine hTake (i := 5) (v := ?v3) rfl (by kernel_rfl) (by kernel_rfl) (by kernel_rfl) (fun _ _ _ h => h) (Or.inl ⟨by rfl, ?y3⟩) hS ?r3; (case y3 => (intro W hW; (go_simp); (try with_reducible rfl); done)); try simp only [Act.put, List.setIfInBounds_toArray, List.set_cons_zero, List.set_cons_succ])
  (refine hTake (i := 6) (v := ?v4) rfl (by kernel_rfl) (by kernel_rfl) (by kernel_rfl) (fun _ _ _ h => h) (Or.inl ⟨by rfl, ?y4⟩) hS ?r4; (case y4 => (intro W hW; (go_simp); (try with_reducible rfl); done)); try simp only [Act.put, List.setIfInBounds_toArray, List.set_cons_zero, List.set_cons_succ])
  (refine hTake (i := 7) (v := ?v5) rfl (by kernel_rfl) (by kernel_rfl) (by kernel_rfl) (fun _ _ _ h => h) (Or.inl ⟨by rfl, ?y5⟩) hS ?r5; (case y5 => (intro W hW; (go_simp); (try with_reducible rfl); done)); try simp only [Act.put, List.setIfInBounds_toArray, List.set_cons_zero, List.set_cons_succ])
  (refine hTake (i := 8) (v := ?v6) rfl (by kernel_rfl) (by kernel_rfl) (by kernel_rfl) (fun _ _ _ h => h) (Or.inl ⟨by rfl, ?y6⟩) hS ?r6; (case y6 => (intro W hW; (go_simp); (try with_reducible rfl); done)); try simp only [Act.put, List.setIfInBounds_toArray, List.set_cons_zero, List.set_cons_succ])
  (refine hOne (i := 9) rfl (by kernel_rfl) (fun K hK => ?_))
  rw [if_pos (by rfl)]
  obtain ⟨z1, hz1, hzs1⟩ := hS.s.s.z
  refine wp_store_row 45 _ _ rfl (w.heap.size + 2) #[.int .i64 most, .slice A' n' c'] rfl rfl _ _ hz1 info_sto hzs1 (sto_one _ _ _ _) ?_
  have hS2 := hS.sto #[.int .i64 most, .slice A' n' c'] rfl
  have hE := hS.s.s.end_ #[.int .i64 most, .slice A' n' c']
  (refine hK.out _ _ hS2 (fun hS => ?_); clear hK K; try simp only [Act.put, List.setIfInBounds_toArray, List.set_cons_zero, List.set_cons_succ])
  (refine hTake (i := 10) (v := ?v7) rfl (by kernel_rfl) (by kernel_rfl) (by kernel_rfl) (fun _ _ _ h => h) (Or.inl ⟨by rfl, ?y7⟩) hS ?r7; (case y7 => (intro W hW; (go_simp); (try with_reducible rfl); done)); try simp only [Act.put, List.setIfInBounds_toArray, List.set_cons_zero, List.set_cons_succ])
  refine wpAnyH_done (by kernel_rfl) ?_ _
  replace hS2 := Lib.hid hS2
  replace hE := Lib.hid hE
  clear hS hz1 hzs1
  go_wp2_with fail
  refine bodyPost_ret (v := .tuple #[.agg #[.int .i64 most, .slice A' n' c'], .bool true]) (results_row_tmp rfl _ _ (w.heap.size + 2) _ _ _ _ _ rfl (by rfl) hE.out Try.underlying45 rfl info_sto) rfl ?_
  exact ⟨A', n', c', rfl, hS2.out.s.s.st, hS2.out.rf.more (Nat.le_of_lt hS2.out.t.lt), hS2.out.s.s.g⟩
end Go.Proofs.Ytioanppnkhiokaa

/-
  The laws of chapter 06: step at Drop.
-/
namespace Go.Proofs.Ytioanppnkhiokaa
open Go.RowKit

section
variable {w W W' : World} {S b : Nat} {most : Int} {L : List One} {A : Option Addr} {n c : Nat} {x : OpC} {m m' : Assoc}
theorem StpI.far (h : StpI w S b most L A n c x m W) {T : Nat} (hT : w.heap.size + 2 < T) (R : Array Value) : StpI w S b most L A n c x m (W.setRow T R) := by
  have hsl := h.sl
  have hbl := h.bl
  obtain ⟨cs, h1, h2⟩ := h.z
  have hb := below_row (Below.refl w.heap.size W) (show w.heap.size ≤ T by omega) R
  exact ⟨h.r.row_far R (by omega), h.o.row_far R (by omega), ⟨cs, h1.row_far R (by omega), h2⟩, h.st.below hb hsl hbl, h.rf.below hb, grown_row h.g (by omega) R, hsl, hbl⟩
theorem StpI.alloc (h : StpI w S b most L A n c x m W) (o : Obj) : StpI w S b most L A n c x m (W.alloc o) := h.step ((Below.refl _ _).alloc (Nat.le_refl _) o)
end
theorem opRow_arr (x : OpC) : (opRow x).toArray = opArr x := rfl
theorem opRow_length {x : OpC} (h : x.d.length = 32) : (opRow x).length = 35 := by simp [opRow, bv_length, h]
set_option maxRecDepth 100000 in
set_option maxHeartbeats 4000000 in
theorem law06_step1 (S b : Nat) (most : Int) (L : List One) (A : Option Addr) (n c : Nat) (x : OpC) (w : World) (h : StoreIs w S b most (asc L)) (hL : OkL L) (hr : RefIs w w.heap.size L A n c) (hx : OkOp x) (hlim : (n + 1) * 56 ≤ 140737488355328) (hk : x.k = 1) :
    Calls Try.prog 20 #[.pointer (some ⟨S, 0, none⟩), .agg #[.int .i64 most, .slice A n c], .agg (opArr x)] w (StepQ S b most (dropL L (nameOf x)) w) := by
  have hxs := opArr_size hx.1
  have hst := Lib.hid (StpI.start h hr x)
  replace hL := Lib.hid hL
  replace hlim := Lib.hid hlim
  have hol := nameOf_length hx.1
  have hNm := Lib.hid (fun W => law06_name x hx W)
  replace hx := Lib.hid hx
  generalize hD : nameOf x = d at *
  clear hD
  clear h hr
  go_enter Try.func20, Try.ntmps20
  go_upto_region 1 with fail
  refine code_at (StpI w S b most L A n c x (asc L)) hst.out ?_
  clear hst
  intro w1 hi
  have c0 : w1.cell? ⟨w.heap.size + 1, 0, none⟩ = some (.int .i64 1) := by have := hi.o.op_k; rwa [hk] at this
  have ho := Lib.hid hi.o
  replace hi := Lib.hid hi
  replace hk := Lib.hid hk
  go_wp2_with (refine wpList_load_row rfl 54 _ rfl (w.heap.size + 1) rfl _ (opArr x) _ _ ho.out Try.underlying54 rfl (by rw [hxs]; exact info_opc) ?_)
  refine (hNm.out _).mono ?_
  rintro e w2 ⟨rfl, hb2⟩
  replace hi := Lib.hid (hi.out.step hb2)
  clear c0 ho hb2
  have cP := Lib.hid (db_Drop S b most (asc L) d (getL L d) w2 hi.out.st hol (asc_get L d) (fun v hv => hL.out.pos v hv))
  rw [← asc_drop hL.out] at cP
  unfold digV
  go_wp2_with fail
  refine cP.out.mono ?_
  rintro e w3 ⟨rfl, hst2, hg2⟩
  replace hi := Lib.hid (hi.out.turn hg2 hst2)
  clear hst2 hg2 cP
  have cR := Lib.hid (fun W (hW : StpI w S b most L A n c x (asc (dropL L d)) W) => ref_Drop most L A n c d W (hW.rf.more (by have := hW.top; omega)) hL.out (by have := hlim.out; omega) hol)
  generalize dropG (getL L d) = G at *
  generalize dropK (getL L d) = Kk at *
  go_upto_region 8 with fail
  refine wp_region_held_drew (S := (StpI w S b most L A n c x (asc (dropL L d)))) (by kernel_rfl) (by exact hi.out.drew) (fun hS => ?_)
  clear hi
  (refine hTake (i := 0) rfl (by kernel_rfl) (by kernel_rfl) (by kernel_rfl) (fun _ _ _ h => h) (yieldsIf_load_mid (by rfl) _ _ rfl _ _ rfl [.int .i64 most, .slice A n c] _ (fun W hW => (hW.r.rangeL)) Try.underlying45 rfl info_sto) hS ?_; try simp only [Act.put, List.setIfInBounds_toArray, List.set_cons_zero, List.set_cons_succ])
  (refine hTake (i := 1) rfl (by kernel_rfl) (by kernel_rfl) (by kernel_rfl) (fun _ _ _ h => h) (yieldsIf_load_mid (by rfl) _ _ rfl _ _ rfl (opRow x) _ (fun W hW => (hW.o.rangeL)) Try.underlying54 rfl (by rw [opRow_length hx.out.1]; exact info_opc)) hS ?_; try simp only [Act.put, List.setIfInBounds_toArray, List.set_cons_zero, List.set_cons_succ])
  refine hTwo (i := 2) (i' := 8) rfl rfl (by kernel_rfl) (fun K hK => ?_) (fun K hK => ?_)
  · (rw [if_pos (by rfl)]; go_simp; refine (hNm.out _).mono ?_; rintro e w4 ⟨rfl, hb4⟩; unfold digV; have hS4 := Lib.hid (hS.step hb4); go_wp2_with fail)
    clear hb4
    (refine hK.out _ _ (by exact hS4.out) (fun hS => ?_); clear hK K; try simp only [Act.put, List.setIfInBounds_toArray, List.set_cons_zero, List.set_cons_succ])
    refine hTwo (i := 3) (i' := 8) rfl rfl (by kernel_rfl) (fun K hK => ?_) (fun K hK => ?_)
    · (rw [if_pos (by rfl)]; go_simp; refine (cR.out _ hS).mono ?_; rintro e w5 ⟨A', n', c', rfl, hr5, hb5⟩; have hS5 := Lib.hid (hS.step hb5); replace hr5 := Lib.hid hr5; go_wp2_with fail)
      clear hb5
      (refine hK.out _ _ (by exact hS5.out) (fun hS => ?_); clear hK K; try simp only [Act.put, List.setIfInBounds_toArray, List.set_cons_zero, List.set_cons_succ])
      (refine hTake (i := 4) (v := ?v1) rfl (by kernel_rfl) (by kernel_rfl) (by kernel_rfl) (fun _ _ _ h => h) (Or.inl ⟨by rfl, ?y1⟩) hS ?r1; (case y1 => (intro W hW; (go_simp); (try with_reducible rfl); done)); try simp only [Act.put, List.setIfInBounds_toArray, List.set_cons_zero, List.set_cons_succ])
      (refine hTake (i := 5) (v := ?v2) rfl (by kernel_rfl) (by kernel_rfl) (by kernel_rfl) (fun _ _ _ h => h) (Or.inl ⟨by rfl, ?y2⟩) hS ?r2; (case y2 => (intro W hW; (go_simp); (try with_reducible rfl); done)); try simp only [Act.put, List.setIfInBounds_toArray, List.set_cons_zero, List.set_cons_succ])
      (refine hTake (i := 6) (v := ?v3) rfl (by kernel_rfl) (by kernel_rfl) (by kernel_rfl) (fun _ _ _ h => h) (Or.inl ⟨by rfl, ?y3⟩) hS ?r3; (case y3 => (intro W hW; (go_simp); (try with_reducible rfl); done)); try simp only [Act.put, List.setIfInBounds_toArray, List.set_cons_zero, List.set_cons_succ])
      (refine hTake (i := 7) (v := ?v4) rfl (by kernel_rfl) (by kernel_rfl) (by kernel_rfl) (fun _ _ _ h => h) (Or.inl ⟨by rfl, ?y4⟩) hS ?r4; (case y4 => (intro W hW; (go_simp); (try with_reducible rfl); done)); try simp only [Act.put, List.setIfInBounds_toArray, List.set_cons_zero, List.set_cons_succ])
      (refine hOne (i := 8) rfl (by kernel_rfl) (fun K hK => ?_))
      rw [if_pos (by rfl)]
      go_simp
      have htop := hS.top
      have hT := Lib.hid (Blk.new w5 45 #[.int .i64 0, .slice none 0 0])
      have hr := Lib.hid ((hr5.out.below ((Below.refl w5.heap.size w5).alloc (Nat.le_refl _) (.cells #[.int .i64 0, .slice none 0 0] 45))).more (show w5.heap.size ≤ (w5.alloc (.cells #[.int .i64 0, .slice none 0 0] 45)).heap.size by simp))
      (refine hK.out _ _ (by exact hS.alloc _) (fun hS => ?_); clear hK K; try simp only [Act.put, List.setIfInBounds_toArray, List.set_cons_zero, List.set_cons_succ])
      ((refine hOne (i := 9) rfl (by kernel_rfl) (fun K hK => ?_)); rw [if_pos (by rfl)]; (refine wp_store_row 45 _ _ rfl (w5.heap.size) #[.int .i64 most, .slice A' n' c'] rfl rfl _ _ hT.out info_sto rfl (sto_one _ _ _ _) ?_; have hS9 := Lib.hid (hS.far htop #[.int .i64 most, .slice A' n' c']); have hT9 := Lib.hid (hT.out.row #[.int .i64 most, .slice A' n' c']); have hr9 := Lib.hid (hr.out.far hT.out (by decide) #[.int .i64 most, .slice A' n' c'])); (refine hK.out _ _ (by exact hS9.out) (fun hS => ?_); clear hK K; try simp only [Act.put, List.setIfInBounds_toArray, List.set_cons_zero, List.set_cons_succ]); (refine hTake (i := 10) (v := ?v5) rfl (by kernel_rfl) (by kernel_rfl) (by kernel_rfl) (fun _ _ _ h => h) (Or.inl ⟨by rfl, ?y5⟩) hS ?r5; (case y5 => (intro W hW; (go_simp); (try with_reducible rfl); done)); try simp only [Act.put, List.setIfInBounds_toArray, List.set_cons_zero, List.set_cons_succ]); (refine hTake (i := 11) (v := ?v6) rfl (by kernel_rfl) (by kernel_rfl) (by kernel_rfl) (fun _ _ _ h => h) (Or.inl ⟨by rfl, ?y6⟩) hS ?r6; (case y6 => (intro W hW; (go_simp); (try with_reducible rfl); done)); try simp only [Act.put, List.setIfInBounds_toArray, List.set_cons_zero, List.set_cons_succ]); refine wpAnyH_done (by kernel_rfl) ?_ _; clear hS; obtain ⟨z1, hz1, hzs1⟩ := hS9.out.z; replace hz1 := Lib.hid hz1; replace hzs1 := Lib.hid hzs1; go_wp2_with (first | (refine wpList_load_row rfl 45 _ rfl (w5.heap.size) rfl _ #[.int .i64 most, .slice A' n' c'] _ _ hT9.out Try.underlying45 rfl info_sto ?_) | (refine wpList_store_row rfl 45 _ _ rfl (w.heap.size + 2) #[.int .i64 most, .slice A' n' c'] rfl rfl _ _ hz1.out info_sto hzs1.out (sto_one _ _ _ _) ?_)); refine bodyPost_ret (v := .tuple #[.agg #[.int .i64 most, .slice A' n' c'], .bool true]) (results_row_tmp rfl _ _ (w.heap.size + 2) _ _ _ _ _ rfl (by rfl) (hz1.out.row _) Try.underlying45 rfl info_sto) rfl ?_; have hS10 := hS9.out.sto #[.int .i64 most, .slice A' n' c'] rfl; exact ⟨A', n', c', rfl, hS10.st, (hr9.out.far hz1.out (by rw [hzs1.out]; decide) #[.int .i64 most, .slice A' n' c']).more (by simp), hS10.g⟩)
    · rw [if_pos (by rfl)]
      go_simp
      have htop := hS.top
      have hT := Lib.hid (Blk.new w4 45 #[.int .i64 0, .slice none 0 0])
      (refine hK.out _ _ (by exact hS.alloc _) (fun hS => ?_); clear hK K; try simp only [Act.put, List.setIfInBounds_toArray, List.set_cons_zero, List.set_cons_succ])
      generalize w4.heap.size = T at *
      generalize w4.alloc (.cells #[.int .i64 0, .slice none 0 0] 45) = w4' at *
      (refine hOne (i := 3) rfl (by kernel_rfl) (fun K hK => ?_))
      (rw [if_pos (by rfl)]; go_simp; refine (cR.out _ hS).mono ?_; rintro e w5 ⟨A', n', c', rfl, hr5, hb5⟩; have hS5 := Lib.hid (hS.step hb5); replace hr5 := Lib.hid hr5; go_wp2_with fail)
      replace hT := Lib.hid (hT.out.below hb5 hT.out.lt)
      have hr := hr5
      clear hb5
      (refine hK.out _ _ (by exact hS5.out) (fun hS => ?_); clear hK K; try simp only [Act.put, List.setIfInBounds_toArray, List.set_cons_zero, List.set_cons_succ])
      (refine hTake (i := 4) (v := ?v7) rfl (by kernel_rfl) (by kernel_rfl) (by kernel_rfl) (fun _ _ _ h => h) (Or.inl ⟨by rfl, ?y7⟩) hS ?r7; (case y7 => (intro W hW; (go_simp); (try with_reducible rfl); done)); try simp only [Act.put, List.setIfInBounds_toArray, List.set_cons_zero, List.set_cons_succ])
      (refine hTake (i := 5) (v := ?v8) rfl (by kernel_rfl) (by kernel_rfl) (by kernel_rfl) (fun _ _ _ h => h) (Or.inl ⟨by rfl, ?y8⟩) hS ?r8; (case y8 => (intro W hW; (go_simp); (try with_reducible rfl); done)); try simp only [Act.put, List.setIfInBounds_toArray, List.set_cons_zero, List.set_cons_succ])
      (refine hTake (i := 6) (v := ?v9) rfl (by kernel_rfl) (by kernel_rfl) (by kernel_rfl) (fun _ _ _ h => h) (Or.inl ⟨by rfl, ?y9⟩) hS ?r9; (case y9 => (intro W hW; (go_simp); (try with_reducible rfl); done)); try simp only [Act.put, List.setIfInBounds_toArray, List.set_cons_zero, List.set_cons_succ])
      (refine hTake (i := 7) (v := ?v10) rfl (by kernel_rfl) (by kernel_rfl) (by kernel_rfl) (fun _ _ _ h => h) (Or.inl ⟨by rfl, ?y10⟩) hS ?r10; (case y10 => (intro W hW; (go_simp); (try with_reducible rfl); done)); try simp only [Act.put, List.setIfInBounds_toArray, List.set_cons_zero, List.set_cons_succ])
      ((refine hOne (i := 9) rfl (by kernel_rfl) (fun K hK => ?_)); rw [if_pos (by rfl)]; (refine wp_store_row 45 _ _ rfl (T) #[.int .i64 most, .slice A' n' c'] rfl rfl _ _ hT.out info_sto rfl (sto_one _ _ _ _) ?_; have hS9 := Lib.hid (hS.far htop #[.int .i64 most, .slice A' n' c']); have hT9 := Lib.hid (hT.out.row #[.int .i64 most, .slice A' n' c']); have hr9 := Lib.hid (hr.out.far hT.out (by decide) #[.int .i64 most, .slice A' n' c'])); (refine hK.out _ _ (by exact hS9.out) (fun hS => ?_); clear hK K; try simp only [Act.put, List.setIfInBounds_toArray, List.set_cons_zero, List.set_cons_succ]); (refine hTake (i := 10) (v := ?v11) rfl (by kernel_rfl) (by kernel_rfl) (by kernel_rfl) (fun _ _ _ h => h) (Or.inl ⟨by rfl, ?y11⟩) hS ?r11; (case y11 => (intro W hW; (go_simp); (try with_reducible rfl); done)); try simp only [Act.put, List.setIfInBounds_toArray, List.set_cons_zero, List.set_cons_succ]); (refine hTake (i := 11) (v := ?v12) rfl (by kernel_rfl) (by kernel_rfl) (by kernel_rfl) (fun _ _ _ h => h) (Or.inl ⟨by rfl, ?y12⟩) hS ?r12; (case y12 => (intro W hW; (go_simp); (try with_reducible rfl); done)); try simp only [Act.put, List.setIfInBounds_toArray, List.set_cons_zero, List.set_cons_succ]); refine wpAnyH_done (by kernel_rfl) ?_ _; clear hS; obtain ⟨z1, hz1, hzs1⟩ := hS9.out.z; replace hz1 := Lib.hid hz1; replace hzs1 := Lib.hid hzs1; go_wp2_with (first | (refine wpList_load_row rfl 45 _ rfl (T) rfl _ #[.int .i64 most, .slice A' n' c'] _ _ hT9.out Try.underlying45 rfl info_sto ?_) | (refine wpList_store_row rfl 45 _ _ rfl (w.heap.size + 2) #[.int .i64 most, .slice A' n' c'] rfl rfl _ _ hz1.out info_sto hzs1.out (sto_one _ _ _ _) ?_)); refine bodyPost_ret (v := .tuple #[.agg #[.int .i64 most, .slice A' n' c'], .bool true]) (results_row_tmp rfl _ _ (w.heap.size + 2) _ _ _ _ _ rfl (by rfl) (hz1.out.row _) Try.underlying45 rfl info_sto) rfl ?_; have hS10 := hS9.out.sto #[.int .i64 most, .slice A' n' c'] rfl; exact ⟨A', n', c', rfl, hS10.st, (hr9.out.far hz1.out (by rw [hzs1.out]; decide) #[.int .i64 most, .slice A' n' c']).more (by simp), hS10.g⟩)
  · rw [if_pos (by rfl)]
    go_simp
    have htop := hS.top
    have hT := Lib.hid ((Blk.new w3 45 #[.int .i64 0, .slice none 0 0]).drew)
    have htop' : w.heap.size + 2 < w3.heap.size := htop
    clear htop
    have htop := htop'
    clear htop'
    (refine hK.out _ _ (by exact hS.alloc _) (fun hS => ?_); clear hK K; try simp only [Act.put, List.setIfInBounds_toArray, List.set_cons_zero, List.set_cons_succ])
    (refine hOne (i := 2) rfl (by kernel_rfl) (fun K hK => ?_))
    (rw [if_pos (by rfl)]; go_simp; refine (hNm.out _).mono ?_; rintro e w4 ⟨rfl, hb4⟩; unfold digV; have hS4 := Lib.hid (hS.step hb4); go_wp2_with fail)
    replace hT := Lib.hid (hT.out.below hb4 hT.out.lt)
    clear hb4
    (refine hK.out _ _ (by exact hS4.out) (fun hS => ?_); clear hK K; try simp only [Act.put, List.setIfInBounds_toArray, List.set_cons_zero, List.set_cons_succ])
    (refine hOne (i := 3) rfl (by kernel_rfl) (fun K hK => ?_))
    (rw [if_pos (by rfl)]; go_simp; refine (cR.out _ hS).mono ?_; rintro e w5 ⟨A', n', c', rfl, hr5, hb5⟩; have hS5 := Lib.hid (hS.step hb5); replace hr5 := Lib.hid hr5; go_wp2_with fail)
    replace hT := Lib.hid (hT.out.below hb5 hT.out.lt)
    have hr := hr5
    clear hb5
    (refine hK.out _ _ (by exact hS5.out) (fun hS => ?_); clear hK K; try simp only [Act.put, List.setIfInBounds_toArray, List.set_cons_zero, List.set_cons_succ])
    (refine hTake (i := 4) (v := ?v13) rfl (by kernel_rfl) (by kernel_rfl) (by kernel_rfl) (fun _ _ _ h => h) (Or.inl ⟨by rfl, ?y13⟩) hS ?r13; (case y13 => (intro W hW; (go_simp); (try with_reducible rfl); done)); try simp only [Act.put, List.setIfInBounds_toArray, List.set_cons_zero, List.set_cons_succ])
    (refine hTake (i := 5) (v := ?v14) rfl (by kernel_rfl) (by kernel_rfl) (by kernel_rfl) (fun _ _ _ h => h) (Or.inl ⟨by rfl, ?y14⟩) hS ?r14; (case y14 => (intro W hW; (go_simp); (try with_reducible rfl); done)); try simp only [Act.put, List.setIfInBounds_toArray, List.set_cons_zero, List.set_cons_succ])
    (refine hTake (i := 6) (v := ?v15) rfl (by kernel_rfl) (by kernel_rfl) (by kernel_rfl) (fun _ _ _ h => h) (Or.inl ⟨by rfl, ?y15⟩) hS ?r15; (case y15 => (intro W hW; (go_simp); (try with_reducible rfl); done)); try simp only [Act.put, List.setIfInBounds_toArray, List.set_cons_zero, List.set_cons_succ])
    (refine hTake (i := 7) (v := ?v16) rfl (by kernel_rfl) (by kernel_rfl) (by kernel_rfl) (fun _ _ _ h => h) (Or.inl ⟨by rfl, ?y16⟩) hS ?r16; (case y16 => (intro W hW; (go_simp); (try with_reducible rfl); done)); try simp only [Act.put, List.setIfInBounds_toArray, List.set_cons_zero, List.set_cons_succ])
    ((refine hOne (i := 9) rfl (by kernel_rfl) (fun K hK => ?_)); rw [if_pos (by rfl)]; (refine wp_store_row 45 _ _ rfl (w3.heap.size) #[.int .i64 most, .slice A' n' c'] rfl rfl _ _ hT.out info_sto rfl (sto_one _ _ _ _) ?_; have hS9 := Lib.hid (hS.far htop #[.int .i64 most, .slice A' n' c']); have hT9 := Lib.hid (hT.out.row #[.int .i64 most, .slice A' n' c']); have hr9 := Lib.hid (hr.out.far hT.out (by decide) #[.int .i64 most, .slice A' n' c'])); (refine hK.out _ _ (by exact hS9.out) (fun hS => ?_); clear hK K; try simp only [Act.put, List.setIfInBounds_toArray, List.set_cons_zero, List.set_cons_succ]); (refine hTake (i := 10) (v := ?v17) rfl (by kernel_rfl) (by kernel_rfl) (by kernel_rfl) (fun _ _ _ h => h) (Or.inl ⟨by rfl, ?y17⟩) hS ?r17; (case y17 => (intro W hW; (go_simp); (try with_reducible rfl); done)); try simp only [Act.put, List.setIfInBounds_toArray, List.set_cons_zero, List.set_cons_succ]); (refine hTake (i := 11) (v := ?v18) rfl (by kernel_rfl) (by kernel_rfl) (by kernel_rfl) (fun _ _ _ h => h) (Or.inl ⟨by rfl, ?y18⟩) hS ?r18; (case y18 => (intro W hW; (go_simp); (try with_reducible rfl); done)); try simp only [Act.put, List.setIfInBounds_toArray, List.set_cons_zero, List.set_cons_succ]); refine wpAnyH_done (by kernel_rfl) ?_ _; clear hS; obtain ⟨z1, hz1, hzs1⟩ := hS9.out.z; replace hz1 := Lib.hid hz1; replace hzs1 := Lib.hid hzs1; go_wp2_with (first | (refine wpList_load_row rfl 45 _ rfl (w3.heap.size) rfl _ #[.int .i64 most, .slice A' n' c'] _ _ hT9.out Try.underlying45 rfl info_sto ?_) | (refine wpList_store_row rfl 45 _ _ rfl (w.heap.size + 2) #[.int .i64 most, .slice A' n' c'] rfl rfl _ _ hz1.out info_sto hzs1.out (sto_one _ _ _ _) ?_)); refine bodyPost_ret (v := .tuple #[.agg #[.int .i64 most, .slice A' n' c'], .bool true]) (results_row_tmp rfl _ _ (w.heap.size + 2) _ _ _ _ _ rfl (by rfl) (hz1.out.row _) Try.underlying45 rfl info_sto) rfl ?_; have hS10 := hS9.out.sto #[.int .i64 most, .slice A' n' c'] rfl; exact ⟨A', n', c', rfl, hS10.st, (hr9.out.far hz1.out (by rw [hzs1.out]; decide) #[.int .i64 most, .slice A' n' c']).more (by simp), hS10.g⟩)
end Go.Proofs.Ytioanppnkhiokaa

/-
  The laws of chapter 06: step at Get, List, Len.
-/
namespace Go.Proofs.Ytioanppnkhiokaa
open Go.RowKit

theorem asc_keys (L : List One) : (asc L).map (·.1) = L.map (·.d) := by simp [asc]
theorem db_List_asc (S b : Nat) (most : Int) (L : List One) (w : World) (h : StoreIs w S b most (asc L)) (hlim : L.length * 32 ≤ 140737488355328) :
    Calls Try.prog 19 #[.pointer (some ⟨S, 0, none⟩)] w (DigsQ (srt L) w) :=
  (db_List S b most (asc L) w h (by rw [asc_length]; exact hlim)).mono fun e w' ⟨A, n, c, ds, he, h1, h2, h3, h4⟩ => by
    rw [asc_keys] at h2
    obtain rfl := srt_eq h1 h2
    exact ⟨A, n, c, he, h3, h4⟩
set_option maxRecDepth 100000 in
set_option maxHeartbeats 4000000 in
theorem law06_step2 (S b : Nat) (most : Int) (L : List One) (A : Option Addr) (n c : Nat) (x : OpC) (w : World) (h : StoreIs w S b most (asc L)) (hL : OkL L) (hr : RefIs w w.heap.size L A n c) (hx : OkOp x) (hlim : (n + 1) * 56 ≤ 140737488355328) (hk : x.k = 2) :
    Calls Try.prog 20 #[.pointer (some ⟨S, 0, none⟩), .agg #[.int .i64 most, .slice A n c], .agg (opArr x)] w (StepQ S b most L w) := by
  have hxs := opArr_size hx.1
  have hst := Lib.hid (StpI.start h hr x)
  have hlen := Lib.hid hr.len
  replace hL := Lib.hid hL
  have hn63 : (n : Int) ≤ 9223372036854775807 := by omega
  replace hlim := Lib.hid hlim
  have hol := nameOf_length hx.1
  have hNm := Lib.hid (fun W => law06_name x hx W)
  replace hx := Lib.hid hx
  generalize hD : nameOf x = d at *
  clear hD
  clear h hr
  go_enter Try.func20, Try.ntmps20
  go_upto_region 1 with fail
  refine code_at (StpI w S b most L A n c x (asc L)) hst.out ?_
  clear hst
  intro w1 hi
  have c0 : w1.cell? ⟨w.heap.size + 1, 0, none⟩ = some (.int .i64 2) := by have := hi.o.op_k; rwa [hk] at this
  have ho := Lib.hid hi.o
  replace hi := Lib.hid hi
  replace hk := Lib.hid hk
  go_wp2_with (refine wpList_load_row rfl 54 _ rfl (w.heap.size + 1) rfl _ (opArr x) _ _ ho.out Try.underlying54 rfl (by rw [hxs]; exact info_opc) ?_)
  refine (hNm.out _).mono ?_
  rintro e w2 ⟨rfl, hb2⟩
  replace hi := Lib.hid (hi.out.step hb2)
  clear c0 ho hb2
  have cP := Lib.hid (db_Get S b most (asc L) d (getL L d) w2 hi.out.st hol (asc_get L d))
  unfold digV
  go_wp2_with fail
  refine cP.out.mono ?_
  rintro e w3 ⟨rfl, hb3⟩
  replace hi := Lib.hid (hi.out.step hb3)
  clear cP hb3
  have cR := Lib.hid (fun W (hW : StpI w S b most L A n c x (asc L) W) => ref_At most L A n c d W (hW.rf.more (by have := hW.top; omega)) hol)
  have hfd := atI_get hL.out.one d
  generalize atI L d = at' at *
  generalize getL L d = vv at *
  replace hfd := Lib.hid hfd
  go_upto_region 12 with fail
  refine wp_region_held_drew (S := (StpI w S b most L A n c x (asc L))) (by kernel_rfl) (by exact hi.out.drew) (fun hS => ?_)
  clear hi
  (refine hTake (i := 0) rfl (by kernel_rfl) (by kernel_rfl) (by kernel_rfl) (fun _ _ _ h => h) (yieldsIf_load_mid (by rfl) _ _ rfl _ _ rfl [.int .i64 most, .slice A n c] _ (fun W hW => (hW.r.rangeL)) Try.underlying45 rfl info_sto) hS ?_; try simp only [Act.put, List.setIfInBounds_toArray, List.set_cons_zero, List.set_cons_succ])
  (refine hTake (i := 1) rfl (by kernel_rfl) (by kernel_rfl) (by kernel_rfl) (fun _ _ _ h => h) (yieldsIf_load_mid (by rfl) _ _ rfl _ _ rfl (opRow x) _ (fun W hW => (hW.o.rangeL)) Try.underlying54 rfl (by rw [opRow_length hx.out.1]; exact info_opc)) hS ?_; try simp only [Act.put, List.setIfInBounds_toArray, List.set_cons_zero, List.set_cons_succ])
  (refine hOne (i := 2) rfl (by kernel_rfl) (fun K hK => ?_))
  rw [if_pos (by rfl)]
  go_simp
  refine (hNm.out _).mono ?_
  rintro e w4 ⟨rfl, hb4⟩
  unfold digV
  have hS4 := Lib.hid (hS.step hb4)
  go_wp2_with fail
  (refine hK.out _ _ (by exact hS4.out) (fun hS => ?_); clear hK K; try simp only [Act.put, List.setIfInBounds_toArray, List.set_cons_zero, List.set_cons_succ])
  clear hS4 hb4
  (refine hOne (i := 3) rfl (by kernel_rfl) (fun K hK => ?_))
  rw [if_pos (by rfl)]
  go_simp
  refine (cR.out _ hS).mono ?_
  rintro e w5 ⟨rfl, hb5⟩
  have hS5 := Lib.hid (hS.step hb5)
  go_wp2_with fail
  (refine hK.out _ _ (by exact hS5.out) (fun hS => ?_); clear hK K; try simp only [Act.put, List.setIfInBounds_toArray, List.set_cons_zero, List.set_cons_succ])
  clear hS5 hb5
  (refine hTake (i := 4) (v := ?v1) rfl (by kernel_rfl) (by kernel_rfl) (by kernel_rfl) (fun _ _ _ h => h) (Or.inl ⟨by rfl, ?y1⟩) hS ?r1; (case y1 => (intro W hW; (go_simp); (try with_reducible rfl); done)); try simp only [Act.put, List.setIfInBounds_toArray, List.set_cons_zero, List.set_cons_succ])
  refine wpAnyH_done (by kernel_rfl) ?_ _
  have hi := Lib.hid hS
  clear hS
  rcases hfd.out with ⟨hg, ha⟩ | ⟨k, hk2, ha, hkd, hg⟩
  · subst hg ha
    obtain ⟨z1, hz1, hzs1⟩ := hi.out.z
    have hr0 := Lib.hid hi.out.r
    replace hz1 := Lib.hid hz1
    replace hzs1 := Lib.hid hzs1
    simp only [Option.getD_none, Option.isSome_none]
    go_wp2_with (first
      | (refine wpList_load_row rfl 45 _ rfl w.heap.size rfl _ #[.int .i64 most, .slice A n c] _ _ hr0.out Try.underlying45 rfl info_sto ?_)
      | (refine wpList_store_row rfl 45 _ _ rfl (w.heap.size + 2) #[.int .i64 most, .slice A n c] rfl rfl _ _ hz1.out info_sto hzs1.out (sto_one _ _ _ _) ?_))
    refine bodyPost_ret (v := .tuple #[.agg #[.int .i64 most, .slice A n c], .bool true]) (results_row_tmp rfl _ _ (w.heap.size + 2) _ _ _ _ _ rfl (by rfl) (hz1.out.row _) Try.underlying45 rfl info_sto) rfl ?_
    have hS10 := hi.out.sto #[.int .i64 most, .slice A n c] rfl
    exact ⟨A, n, c, rfl, hS10.st, hS10.rf.more (by have := hS10.top; omega), hS10.g⟩
  · subst hg ha
    obtain ⟨g, o, hA, hgB, hrow⟩ := hi.out.rf.row k hk2
    subst hA
    have hkn : (k : Int) < n := by have := hlen.out; omega
    clear hrow
    simp only [Option.getD_some, Option.isSome_some]
    have hse : (L[k].t.toList == L[k].t.toList) = true := by simp
    go_wp2_with fail
    refine wp_region_held_drew (S := (StpI w S b most L (some ⟨g, o, none⟩) n c x (asc L))) (by kernel_rfl) (by exact hi.out.drew) (fun hS => ?_)
    clear hi
    (refine hTake (i := 0) rfl (by kernel_rfl) (by kernel_rfl) (by kernel_rfl) (fun _ _ _ h => h) (yieldsIf_load_mid (by rfl) _ _ rfl _ _ rfl [.int .i64 most, .slice (some ⟨g, o, none⟩) n c] _ (fun W hW => (hW.r.rangeL)) Try.underlying45 rfl info_sto) hS ?_; try simp only [Act.put, List.setIfInBounds_toArray, List.set_cons_zero, List.set_cons_succ])
    (refine hTake (i := 1) (v := ?v2) rfl (by kernel_rfl) (by kernel_rfl) (by kernel_rfl) (fun _ _ _ h => h) (Or.inl ⟨by rfl, ?y2⟩) hS ?r2; (case y2 => (intro W hW; (go_simp); (try with_reducible rfl); done)); try simp only [Act.put, List.setIfInBounds_toArray, List.set_cons_zero, List.set_cons_succ])
    (refine hTake (i := 2) (v := ?v3) rfl (by kernel_rfl) (by kernel_rfl) (by kernel_rfl) (fun _ _ _ h => h) (Or.inl ⟨by rfl, ?y3⟩) hS ?r3; (case y3 => (intro W hW; (go_simp); (try with_reducible rfl); done)); try simp only [Act.put, List.setIfInBounds_toArray, List.set_cons_zero, List.set_cons_succ])
    (refine hTake (i := 3) (v := ?v4) rfl (by kernel_rfl) (by kernel_rfl) (by kernel_rfl) (fun _ _ _ h => h) (Or.inl ⟨by rfl, ?y4⟩) hS ?r4; (case y4 => (intro W hW; ((have g1 := hW.r.cell 1; simp at g1; go_simp)); (try with_reducible rfl); done)); try simp only [Act.put, List.setIfInBounds_toArray, List.set_cons_zero, List.set_cons_succ])
    (refine hTake (i := 4) (v := ?v5) rfl (by kernel_rfl) (by kernel_rfl) (by kernel_rfl) (fun _ _ _ h => h) (Or.inl ⟨by rfl, ?y5⟩) hS ?r5; (case y5 => (intro W hW; (go_simp); (try with_reducible rfl); done)); try simp only [Act.put, List.setIfInBounds_toArray, List.set_cons_zero, List.set_cons_succ])
    (refine hTake (i := 5) (v := ?v6) rfl (by kernel_rfl) (by kernel_rfl) (by kernel_rfl) (fun _ _ _ h => h) (Or.inl ⟨by rfl, ?y6⟩) hS ?r6; (case y6 => (intro W hW; (go_simp); (try with_reducible rfl); done)); try simp only [Act.put, List.setIfInBounds_toArray, List.set_cons_zero, List.set_cons_succ])
    (refine hTake (i := 6) (v := ?v7) rfl (by kernel_rfl) (by kernel_rfl) (by kernel_rfl) (fun _ _ _ h => h) (Or.inl ⟨by rfl, ?y7⟩) hS ?r7; (case y7 => (intro W hW; (go_simp); (try with_reducible rfl); done)); try simp only [Act.put, List.setIfInBounds_toArray, List.set_cons_zero, List.set_cons_succ])
    (refine hTake (i := 7) (v := ?v8) rfl (by kernel_rfl) (by kernel_rfl) (by kernel_rfl) (fun _ _ _ h => h) (Or.inl ⟨by rfl, ?y8⟩) hS ?r8; (case y8 => (intro W hW; ((have g1 : W.cell? ⟨g, o + k * 34 + 32, none⟩ = some (.string L[k].t) := (by obtain ⟨g', o', e, _, hr⟩ := hW.rf.row k hk2; cases e; exact oneRow_txt hr (hW.rf.ds _ (List.getElem_mem hk2))); go_simp)); (try with_reducible rfl); done)); try simp only [Act.put, List.setIfInBounds_toArray, List.set_cons_zero, List.set_cons_succ])
    (refine hTake (i := 8) (v := ?v9) rfl (by kernel_rfl) (by kernel_rfl) (by kernel_rfl) (fun _ _ _ h => h) (Or.inl ⟨by rfl, ?y9⟩) hS ?r9; (case y9 => (intro W hW; (go_simp); (try with_reducible rfl); done)); try simp only [Act.put, List.setIfInBounds_toArray, List.set_cons_zero, List.set_cons_succ])
    (refine hTake (i := 9) (v := ?v10) rfl (by kernel_rfl) (by kernel_rfl) (by kernel_rfl) (fun _ _ _ h => h) (Or.inl ⟨by rfl, ?y10⟩) hS ?r10; (case y10 => (intro W hW; (go_simp); (try with_reducible rfl); done)); try simp only [Act.put, List.setIfInBounds_toArray, List.set_cons_zero, List.set_cons_succ])
    (refine hTake (i := 10) (v := ?v11) rfl (by kernel_rfl) (by kernel_rfl) (by kernel_rfl) (fun _ _ _ h => h) (Or.inl ⟨by rfl, ?y11⟩) hS ?r11; (case y11 => (intro W hW; (go_simp); (try with_reducible rfl); done)); try simp only [Act.put, List.setIfInBounds_toArray, List.set_cons_zero, List.set_cons_succ])
    (refine hTake (i := 11) (v := ?v12) rfl (by kernel_rfl) (by kernel_rfl) (by kernel_rfl) (fun _ _ _ h => h) (Or.inl ⟨by rfl, ?y12⟩) hS ?r12; (case y12 => (intro W hW; (go_simp); (try with_reducible rfl); done)); try simp only [Act.put, List.setIfInBounds_toArray, List.set_cons_zero, List.set_cons_succ])
    (refine hTake (i := 12) (v := ?v13) rfl (by kernel_rfl) (by kernel_rfl) (by kernel_rfl) (fun _ _ _ h => h) (Or.inl ⟨by rfl, ?y13⟩) hS ?r13; (case y13 => (intro W hW; ((have g1 := hW.r.cell 1; simp at g1; go_simp)); (try with_reducible rfl); done)); try simp only [Act.put, List.setIfInBounds_toArray, List.set_cons_zero, List.set_cons_succ])
    (refine hTake (i := 13) (v := ?v14) rfl (by kernel_rfl) (by kernel_rfl) (by kernel_rfl) (fun _ _ _ h => h) (Or.inl ⟨by rfl, ?y14⟩) hS ?r14; (case y14 => (intro W hW; (go_simp); (try with_reducible rfl); done)); try simp only [Act.put, List.setIfInBounds_toArray, List.set_cons_zero, List.set_cons_succ])
    (refine hTake (i := 14) (v := ?v15) rfl (by kernel_rfl) (by kernel_rfl) (by kernel_rfl) (fun _ _ _ h => h) (Or.inl ⟨by rfl, ?y15⟩) hS ?r15; (case y15 => (intro W hW; (go_simp); (try with_reducible rfl); done)); try simp only [Act.put, List.setIfInBounds_toArray, List.set_cons_zero, List.set_cons_succ])
    (refine hTake (i := 15) (v := ?v16) rfl (by kernel_rfl) (by kernel_rfl) (by kernel_rfl) (fun _ _ _ h => h) (Or.inl ⟨by rfl, ?y16⟩) hS ?r16; (case y16 => (intro W hW; (go_simp); (try with_reducible rfl); done)); try simp only [Act.put, List.setIfInBounds_toArray, List.set_cons_zero, List.set_cons_succ])
    (refine hTake (i := 16) (v := ?v17) rfl (by kernel_rfl) (by kernel_rfl) (by kernel_rfl) (fun _ _ _ h => h) (Or.inl ⟨by rfl, ?y17⟩) hS ?r17; (case y17 => (intro W hW; ((have g1 : W.cell? ⟨g, o + k * 34 + 33, none⟩ = some (.int .i64 L[k].n) := (by obtain ⟨g', o', e, _, hr⟩ := hW.rf.row k hk2; cases e; exact oneRow_num hr (hW.rf.ds _ (List.getElem_mem hk2))); go_simp)); (try with_reducible rfl); done)); try simp only [Act.put, List.setIfInBounds_toArray, List.set_cons_zero, List.set_cons_succ])
    (refine hTake (i := 17) (v := ?v18) rfl (by kernel_rfl) (by kernel_rfl) (by kernel_rfl) (fun _ _ _ h => h) (Or.inl ⟨by rfl, ?y18⟩) hS ?r18; (case y18 => (intro W hW; (go_simp); (try with_reducible rfl); done)); try simp only [Act.put, List.setIfInBounds_toArray, List.set_cons_zero, List.set_cons_succ])
    (refine hTake (i := 18) (v := ?v19) rfl (by kernel_rfl) (by kernel_rfl) (by kernel_rfl) (fun _ _ _ h => h) (Or.inl ⟨by rfl, ?y19⟩) hS ?r19; (case y19 => (intro W hW; (go_simp); (try with_reducible rfl); done)); try simp only [Act.put, List.setIfInBounds_toArray, List.set_cons_zero, List.set_cons_succ])
    (refine hTake (i := 19) (v := ?v20) rfl (by kernel_rfl) (by kernel_rfl) (by kernel_rfl) (fun _ _ _ h => h) (Or.inl ⟨by rfl, ?y20⟩) hS ?r20; (case y20 => (intro W hW; (go_simp); (try with_reducible rfl); done)); try simp only [Act.put, List.setIfInBounds_toArray, List.set_cons_zero, List.set_cons_succ])
    (refine hTake (i := 20) (v := ?v21) rfl (by kernel_rfl) (by kernel_rfl) (by kernel_rfl) (fun _ _ _ h => h) (Or.inl ⟨by rfl, ?y21⟩) hS ?r21; (case y21 => (intro W hW; (go_simp); (try with_reducible rfl); done)); try simp only [Act.put, List.setIfInBounds_toArray, List.set_cons_zero, List.set_cons_succ])
    (refine hTake (i := 21) (v := ?v22) rfl (by kernel_rfl) (by kernel_rfl) (by kernel_rfl) (fun _ _ _ h => h) (Or.inl ⟨by rfl, ?y22⟩) hS ?r22; (case y22 => (intro W hW; (go_simp); (try with_reducible rfl); done)); try simp only [Act.put, List.setIfInBounds_toArray, List.set_cons_zero, List.set_cons_succ])
    (refine hOne (i := 22) rfl (by kernel_rfl) (fun K hK => ?_))
    rw [if_pos (by rfl)]
    obtain ⟨z1, hz1, hzs1⟩ := hS.z
    refine wp_store_row 45 _ _ rfl (w.heap.size + 2) #[.int .i64 most, .slice (some ⟨g, o, none⟩) n c] rfl rfl _ _ hz1 info_sto hzs1 (sto_one _ _ _ _) ?_
    have hS2 := hS.sto #[.int .i64 most, .slice (some ⟨g, o, none⟩) n c] rfl
    have hE := hS.end_ #[.int .i64 most, .slice (some ⟨g, o, none⟩) n c]
    (refine hK.out _ _ hS2 (fun hS => ?_); clear hK K; try simp only [Act.put, List.setIfInBounds_toArray, List.set_cons_zero, List.set_cons_succ])
    (refine hTake (i := 23) (v := ?v23) rfl (by kernel_rfl) (by kernel_rfl) (by kernel_rfl) (fun _ _ _ h => h) (Or.inl ⟨by rfl, ?y23⟩) hS ?r23; (case y23 => (intro W hW; (go_simp); (try with_reducible rfl); done)); try simp only [Act.put, List.setIfInBounds_toArray, List.set_cons_zero, List.set_cons_succ])
    refine wpAnyH_done (by kernel_rfl) ?_ _
    replace hS2 := Lib.hid hS2
    replace hE := Lib.hid hE
    clear hS hz1 hzs1
    go_wp2_with fail
    refine bodyPost_ret (v := .tuple #[.agg #[.int .i64 most, .slice (some ⟨g, o, none⟩) n c], .bool true]) (results_row_tmp rfl _ _ (w.heap.size + 2) _ _ _ _ _ rfl (by rfl) hE.out Try.underlying45 rfl info_sto) rfl ?_
    exact ⟨_, n, c, rfl, hS2.out.st, hS2.out.rf.more (by have := hS2.out.top; omega), hS2.out.g⟩
set_option maxRecDepth 100000 in
set_option maxHeartbeats 4000000 in
theorem law06_step3 (S b : Nat) (most : Int) (L : List One) (A : Option Addr) (n c : Nat) (x : OpC) (w : World) (h : StoreIs w S b most (asc L)) (hL : OkL L) (hr : RefIs w w.heap.size L A n c) (hx : OkOp x) (hlim : (n + 1) * 56 ≤ 140737488355328) (hk : x.k = 3) :
    Calls Try.prog 20 #[.pointer (some ⟨S, 0, none⟩), .agg #[.int .i64 most, .slice A n c], .agg (opArr x)] w (StepQ S b most L w) := by
  have hxs := opArr_size hx.1
  have hst := Lib.hid (StpI.start h hr x)
  have hlen := Lib.hid hr.len
  replace hL := Lib.hid hL
  replace hlim := Lib.hid hlim
  clear h hr hx
  have cD := Lib.hid (fun W (hW : StpI w S b most L A n c x (asc L) W) => db_List_asc S b most L W hW.st (by have := hlim.out; have := hlen.out; omega))
  have cR := Lib.hid (fun W (hW : StpI w S b most L A n c x (asc L) W) => ref_List most L A n c W (hW.rf.more (by have := hW.top; omega)) hL.out (by have := hlim.out; omega))
  go_enter Try.func20, Try.ntmps20
  go_upto_region 1 with fail
  refine code_at (StpI w S b most L A n c x (asc L)) hst.out ?_
  clear hst
  intro w1 hi
  have c0 : w1.cell? ⟨w.heap.size + 1, 0, none⟩ = some (.int .i64 3) := by have := hi.o.op_k; rwa [hk] at this
  replace hi := Lib.hid hi
  replace hk := Lib.hid hk
  go_upto_region 17 with fail
  refine wp_region_held_drew (S := (StpI w S b most L A n c x (asc L))) (by kernel_rfl) (by exact hi.out.drew) (fun hS => ?_)
  clear hi c0
  (refine hTake (i := 0) rfl (by kernel_rfl) (by kernel_rfl) (by kernel_rfl) (fun _ _ _ h => h) (yieldsIf_load_mid (by rfl) _ _ rfl _ _ rfl [.int .i64 most, .slice A n c] _ (fun W hW => (hW.r.rangeL)) Try.underlying45 rfl info_sto) hS ?_; try simp only [Act.put, List.setIfInBounds_toArray, List.set_cons_zero, List.set_cons_succ])
  (refine hTake (i := 1) (v := ?v24) rfl (by kernel_rfl) (by kernel_rfl) (by kernel_rfl) (fun _ _ _ h => h) (Or.inl ⟨by rfl, ?y24⟩) hS ?r24; (case y24 => (intro W hW; (go_simp); (try with_reducible rfl); done)); try simp only [Act.put, List.setIfInBounds_toArray, List.set_cons_zero, List.set_cons_succ])
  (refine hTake (i := 3) rfl (by kernel_rfl) (by kernel_rfl) (by kernel_rfl) (fun _ _ _ h => h) (yieldsIf_load_mid (by rfl) _ _ rfl _ _ rfl [.int .i64 most, .slice A n c] _ (fun W hW => (hW.r.rangeL)) Try.underlying45 rfl info_sto) hS ?_; try simp only [Act.put, List.setIfInBounds_toArray, List.set_cons_zero, List.set_cons_succ])
  (refine hOne (i := 2) rfl (by kernel_rfl) (fun K hK => ?_))
  rw [if_pos (by rfl)]
  go_simp
  refine (cD.out _ hS).mono ?_
  rintro e w4 ⟨A1, n1, c1, rfl, hd4, hb4⟩
  have hS4 := Lib.hid (hS.step hb4)
  replace hd4 := Lib.hid hd4
  go_wp2_with fail
  (refine hK.out _ _ (by exact hS4.out) (fun hS => ?_); clear hK K; try simp only [Act.put, List.setIfInBounds_toArray, List.set_cons_zero, List.set_cons_succ])
  clear hS4 hb4
  (refine hOne (i := 4) rfl (by kernel_rfl) (fun K hK => ?_))
  rw [if_pos (by rfl)]
  go_simp
  refine (cR.out _ hS).mono ?_
  rintro e w5 ⟨A2, n2, c2, rfl, hd5, hb5⟩
  have hS5 := Lib.hid (hS.step hb5)
  replace hd4 := Lib.hid (hd4.out.below hb5)
  replace hd5 := Lib.hid hd5
  go_wp2_with fail
  (refine hK.out _ _ (by exact hS5.out) (fun hS => ?_); clear hK K; try simp only [Act.put, List.setIfInBounds_toArray, List.set_cons_zero, List.set_cons_succ])
  clear hS5 hb5
  (refine hOne (i := 5) rfl (by kernel_rfl) (fun K hK => ?_))
  rw [if_pos (by rfl)]
  go_simp
  refine (law06_same (srt L) (srt L) A1 A2 n1 n2 c1 c2 _ _ w5 hd4.out hd5.out).mono ?_
  rintro e w6 ⟨rfl, hb6⟩
  rw [decide_eq_true rfl]
  have hS6 := Lib.hid (hS.step hb6)
  go_wp2_with fail
  (refine hK.out _ _ (by exact hS6.out) (fun hS => ?_); clear hK K; try simp only [Act.put, List.setIfInBounds_toArray, List.set_cons_zero, List.set_cons_succ])
  clear hS6 hb6
  (refine hOne (i := 6) rfl (by kernel_rfl) (fun K hK => ?_))
  rw [if_pos (by rfl)]
  obtain ⟨z1, hz1, hzs1⟩ := hS.z
  refine wp_store_row 45 _ _ rfl (w.heap.size + 2) #[.int .i64 most, .slice A n c] rfl rfl _ _ hz1 info_sto hzs1 (sto_one _ _ _ _) ?_
  have hS2 := hS.sto #[.int .i64 most, .slice A n c] rfl
  have hE := hS.end_ #[.int .i64 most, .slice A n c]
  (refine hK.out _ _ hS2 (fun hS => ?_); clear hK K; try simp only [Act.put, List.setIfInBounds_toArray, List.set_cons_zero, List.set_cons_succ])
  (refine hTake (i := 7) (v := ?v25) rfl (by kernel_rfl) (by kernel_rfl) (by kernel_rfl) (fun _ _ _ h => h) (Or.inl ⟨by rfl, ?y25⟩) hS ?r25; (case y25 => (intro W hW; (go_simp); (try with_reducible rfl); done)); try simp only [Act.put, List.setIfInBounds_toArray, List.set_cons_zero, List.set_cons_succ])
  refine wpAnyH_done (by kernel_rfl) ?_ _
  replace hS2 := Lib.hid hS2
  replace hE := Lib.hid hE
  clear hS hz1 hzs1
  go_wp2_with fail
  refine bodyPost_ret (v := .tuple #[.agg #[.int .i64 most, .slice A n c], .bool true]) (results_row_tmp rfl _ _ (w.heap.size + 2) _ _ _ _ _ rfl (by rfl) hE.out Try.underlying45 rfl info_sto) rfl ?_
  exact ⟨A, n, c, rfl, hS2.out.st, hS2.out.rf.more (by have := hS2.out.top; omega), hS2.out.g⟩
set_option maxRecDepth 100000 in
set_option maxHeartbeats 4000000 in
theorem law06_step4 (S b : Nat) (most : Int) (L : List One) (A : Option Addr) (n c : Nat) (x : OpC) (w : World) (h : StoreIs w S b most (asc L)) (hr : RefIs w w.heap.size L A n c) (hx : OkOp x) (k0 : x.k ≠ 0) (k1 : x.k ≠ 1) (k2 : x.k ≠ 2) (k3 : x.k ≠ 3) :
    Calls Try.prog 20 #[.pointer (some ⟨S, 0, none⟩), .agg #[.int .i64 most, .slice A n c], .agg (opArr x)] w (StepQ S b most L w) := by
  have hxs := opArr_size hx.1
  have hst := Lib.hid (StpI.start h hr x)
  have hlen := hr.len
  have hlen2 : ((asc L).length : Int) = (n : Int) := by rw [asc_length, hlen]
  replace hlen := Lib.hid hlen
  clear h hr hx
  have cD := Lib.hid (fun W (hW : StpI w S b most L A n c x (asc L) W) => db_Len S b most (asc L) W hW.st)
  rw [hlen2] at cD
  replace hlen2 := Lib.hid hlen2
  have b0 : (x.k == 0) = false := by simpa using k0
  have b1 : (x.k == 1) = false := by simpa using k1
  have b2 : (x.k == 2) = false := by simpa using k2
  have b3 : (x.k == 3) = false := by simpa using k3
  clear k0 k1 k2 k3
  go_enter Try.func20, Try.ntmps20
  go_upto_region 1 with fail
  refine code_at (StpI w S b most L A n c x (asc L)) hst.out ?_
  clear hst
  intro w1 hi
  have c0 : w1.cell? ⟨w.heap.size + 1, 0, none⟩ = some (.int .i64 x.k) := hi.o.op_k
  replace hi := Lib.hid hi
  go_upto_region 18 with fail
  refine wp_region_held_drew (S := (StpI w S b most L A n c x (asc L))) (by kernel_rfl) (by exact hi.out.drew) (fun hS => ?_)
  clear hi c0
  (refine hTake (i := 0) rfl (by kernel_rfl) (by kernel_rfl) (by kernel_rfl) (fun _ _ _ h => h) (yieldsIf_load_mid (by rfl) _ _ rfl _ _ rfl [.int .i64 most, .slice A n c] _ (fun W hW => (hW.r.rangeL)) Try.underlying45 rfl info_sto) hS ?_; try simp only [Act.put, List.setIfInBounds_toArray, List.set_cons_zero, List.set_cons_succ])
  (refine hTake (i := 1) (v := ?v26) rfl (by kernel_rfl) (by kernel_rfl) (by kernel_rfl) (fun _ _ _ h => h) (Or.inl ⟨by rfl, ?y26⟩) hS ?r26; (case y26 => (intro W hW; (go_simp); (try with_reducible rfl); done)); try simp only [Act.put, List.setIfInBounds_toArray, List.set_cons_zero, List.set_cons_succ])
  (refine hTake (i := 3) (v := ?v27) rfl (by kernel_rfl) (by kernel_rfl) (by kernel_rfl) (fun _ _ _ h => h) (Or.inl ⟨by rfl, ?y27⟩) hS ?r27; (case y27 => (intro W hW; (go_simp); (try with_reducible rfl); done)); try simp only [Act.put, List.setIfInBounds_toArray, List.set_cons_zero, List.set_cons_succ])
  (refine hTake (i := 4) (v := ?v28) rfl (by kernel_rfl) (by kernel_rfl) (by kernel_rfl) (fun _ _ _ h => h) (Or.inl ⟨by rfl, ?y28⟩) hS ?r28; (case y28 => (intro W hW; ((have g1 := hW.r.cell 1; simp at g1; go_simp)); (try with_reducible rfl); done)); try simp only [Act.put, List.setIfInBounds_toArray, List.set_cons_zero, List.set_cons_succ])
  (refine hTake (i := 5) (v := ?v29) rfl (by kernel_rfl) (by kernel_rfl) (by kernel_rfl) (fun _ _ _ h => h) (Or.inl ⟨by rfl, ?y29⟩) hS ?r29; (case y29 => (intro W hW; (go_simp); (try with_reducible rfl); done)); try simp only [Act.put, List.setIfInBounds_toArray, List.set_cons_zero, List.set_cons_succ])
  (refine hOne (i := 2) rfl (by kernel_rfl) (fun K hK => ?_))
  rw [if_pos (by rfl)]
  go_simp
  refine (cD.out _ hS).mono ?_
  rintro e w4 ⟨rfl, rfl⟩
  have hS4 := Lib.hid hS
  go_wp2_with fail
  (refine hK.out _ _ (by exact hS4.out) (fun hS => ?_); clear hK K; try simp only [Act.put, List.setIfInBounds_toArray, List.set_cons_zero, List.set_cons_succ])
  clear hS4
  (refine hTake (i := 6) (v := ?v30) rfl (by kernel_rfl) (by kernel_rfl) (by kernel_rfl) (fun _ _ _ h => h) (Or.inl ⟨by rfl, ?y30⟩) hS ?r30; (case y30 => (intro W hW; (go_simp); (try with_reducible rfl); done)); try simp only [Act.put, List.setIfInBounds_toArray, List.set_cons_zero, List.set_cons_succ])
  (refine hOne (i := 7) rfl (by kernel_rfl) (fun K hK => ?_))
  rw [if_pos (by rfl)]
  obtain ⟨z1, hz1, hzs1⟩ := hS.z
  refine wp_store_row 45 _ _ rfl (w.heap.size + 2) #[.int .i64 most, .slice A n c] rfl rfl _ _ hz1 info_sto hzs1 (sto_one _ _ _ _) ?_
  have hS2 := hS.sto #[.int .i64 most, .slice A n c] rfl
  have hE := hS.end_ #[.int .i64 most, .slice A n c]
  (refine hK.out _ _ hS2 (fun hS => ?_); clear hK K; try simp only [Act.put, List.setIfInBounds_toArray, List.set_cons_zero, List.set_cons_succ])
  (refine hTake (i := 8) (v := ?v31) rfl (by kernel_rfl) (by kernel_rfl) (by kernel_rfl) (fun _ _ _ h => h) (Or.inl ⟨by rfl, ?y31⟩) hS ?r31; (case y31 => (intro W hW; (go_simp); (try with_reducible rfl); done)); try simp only [Act.put, List.setIfInBounds_toArray, List.set_cons_zero, List.set_cons_succ])
  refine wpAnyH_done (by kernel_rfl) ?_ _
  replace hS2 := Lib.hid hS2
  replace hE := Lib.hid hE
  clear hS hz1 hzs1
  go_wp2_with fail
  refine bodyPost_ret (v := .tuple #[.agg #[.int .i64 most, .slice A n c], .bool true]) (results_row_tmp rfl _ _ (w.heap.size + 2) _ _ _ _ _ rfl (by simp) hE.out Try.underlying45 rfl info_sto) rfl ?_
  exact ⟨A, n, c, rfl, hS2.out.st, hS2.out.rf.more (by have := hS2.out.top; omega), hS2.out.g⟩
/-- step, whatever the call -/
theorem law06_step (S b : Nat) (most : Int) (L : List One) (A : Option Addr) (n c : Nat) (x : OpC) (w : World) (h : StoreIs w S b most (asc L)) (hL : OkL L) (hr : RefIs w w.heap.size L A n c) (hx : OkOp x) (hlim : (n + 1) * 56 ≤ 140737488355328) :
    Calls Try.prog 20 #[.pointer (some ⟨S, 0, none⟩), .agg #[.int .i64 most, .slice A n c], .agg (opArr x)] w (StepQ S b most (stepL L most x) w) := by
  unfold stepL
  by_cases k0 : x.k = 0
  · rw [if_pos k0]; exact law06_step0 S b most L A n c x w h hL hr hx hlim k0
  rw [if_neg k0]
  by_cases k1 : x.k = 1
  · rw [if_pos k1]; exact law06_step1 S b most L A n c x w h hL hr hx hlim k1
  rw [if_neg k1]
  by_cases k2 : x.k = 2
  · exact law06_step2 S b most L A n c x w h hL hr hx hlim k2
  by_cases k3 : x.k = 3
  · exact law06_step3 S b most L A n c x w h hL hr hx hlim k3
  exact law06_step4 S b most L A n c x w h hr hx k0 k1 k2 k3
theorem okL_step {L : List One} (hL : OkL L) (most : Int) {x : OpC} (hx : OkOp x) : OkL (stepL L most x) := by
  unfold stepL
  split
  · exact okL_put hL (Dig.of_length _) (by have := hx.2; omega)
  split
  · exact okL_drop hL _
  · exact hL
theorem stepL_length (L : List One) (most : Int) (x : OpC) : (stepL L most x).length ≤ L.length + 1 := by
  unfold stepL
  split
  · exact putL_length _ _ _ _
  split
  · have := dropL_length L (nameOf x); omega
  · omega
end Go.Proofs.Ytioanppnkhiokaa

/-
  The laws of chapter 06: NodedbAll.
-/
namespace Go.Proofs.Ytioanppnkhiokaa
open Go.RowKit

def opRows (xs : List OpC) : List Value := (xs.map opRow).flatten
theorem opRows_length : ∀ {xs : List OpC}, (∀ x ∈ xs, x.d.length = 32) → (opRows xs).length = xs.length * 35
  | [], _ => rfl
  | x :: r, h => by
    have h1 := opRow_length (h x (by simp))
    have h2 := opRows_length (xs := r) fun o ho => h o (List.mem_cons_of_mem _ ho)
    simp only [opRows, List.map_cons, List.flatten_cons, List.length_append, List.length_cons] at *
    omega
theorem opRows_at : ∀ {xs : List OpC}, (∀ x ∈ xs, x.d.length = 32) → ∀ (k : Nat) (hk : k < xs.length) (j : Nat), j < 35 → (opRows xs)[k * 35 + j]? = (opRow xs[k])[j]?
  | [], _, k, hk, _, _ => by simp at hk
  | x :: r, h, 0, _, j, hj => by
    have h1 := opRow_length (h x (by simp))
    simp only [opRows, List.map_cons, List.flatten_cons, List.getElem_cons_zero, Nat.zero_mul, Nat.zero_add]
    rw [List.getElem?_append_left (by omega)]
  | x :: r, h, k + 1, hk, j, hj => by
    have h1 := opRow_length (h x (by simp))
    have h2 := opRows_at (xs := r) (fun o ho => h o (List.mem_cons_of_mem _ ho)) k (by simpa using hk) j hj
    simp only [opRows, List.map_cons, List.flatten_cons, List.getElem_cons_succ] at *
    rw [List.getElem?_append_right (by omega), ← h2]
    congr 1
    omega
/-- a script, handed in -/
structure OpsIn (w : World) (B : Nat) (xs : List OpC) (A : Option Addr) (n c : Nat) : Prop where
  len : n = xs.length
  ok : ∀ x ∈ xs, OkOp x
  rd : Reads w B 35 A n (opRows xs)
section
variable {w w' : World} {B B' : Nat} {xs : List OpC} {A : Option Addr} {n c : Nat}
theorem OpsIn.below (h : OpsIn w B xs A n c) (hb : Below B w w') : OpsIn w' B xs A n c := ⟨h.len, h.ok, h.rd.below hb⟩
theorem OpsIn.row (h : OpsIn w B xs A n c) (k : Nat) (hk : k < xs.length) : ∃ g o, A = some ⟨g, o, none⟩ ∧ g < B ∧ w.rangeAt g (o + k * 35) (opRow xs[k]) := by
  have hds : ∀ x ∈ xs, x.d.length = 32 := fun x hx => (h.ok x hx).1
  obtain ⟨h1, h2⟩ := h.rd
  have hl := h.len
  obtain ⟨g, o, e, hg, hc⟩ := h2 (by omega)
  refine ⟨g, o, e, hg, fun j u hu => ?_⟩
  have hj : j < 35 := by
    have := (List.getElem?_eq_some_iff.1 hu).1
    rwa [opRow_length (hds _ (List.getElem_mem hk))] at this
  rw [Nat.add_assoc]
  refine hc _ _ ?_
  rw [opRows_at hds k hk j hj]
  exact hu
end
/-- a store and its reference, between two calls of a script -/
structure RunI (w : World) (R : Nat) (most : Int) (L : List One) (S b : Nat) (A : Option Addr) (n c : Nat) (W : World) : Prop where
  st : StoreIs W S b most (asc L)
  ok : OkL L
  r : Blk W R 45 #[.int .i64 most, .slice A n c]
  rf : RefIs W W.heap.size L A n c
  bel : Below w.heap.size w W
  lo : w.heap.size ≤ S ∧ w.heap.size ≤ b ∧ w.heap.size ≤ R
section
variable {w W W' : World} {R : Nat} {most : Int} {L L' : List One} {S b : Nat} {A A' : Option Addr} {n c n' c' : Nat}
theorem RunI.step (h : RunI w R most L S b A n c W) (hb : Below W.heap.size W W') : RunI w R most L S b A n c W' :=
  ⟨h.st.step hb, h.ok, h.r.below hb h.r.lt, (h.rf.below hb).more hb.size, h.bel.trans (hb.mono h.bel.size), h.lo⟩
theorem RunI.rne (h : RunI w R most L S b A n c W) : R ≠ b := by
  intro e
  obtain ⟨es, clock, hb, _⟩ := h.st.map.ex
  have := h.r
  unfold Blk at this
  rw [e, hb] at this
  cases this
theorem RunI.rnS (h : RunI w R most L S b A n c W) : R ≠ S := by
  intro e
  have h1 := h.r
  have h2 := h.st.cells
  unfold Blk at h1 h2
  rw [e, h2] at h1
  simp at h1
/-- .. a call has been made: 'r, ok = step(s, r, o)' -/
theorem RunI.called (h : RunI w R most L S b A n c W) (hst : StoreIs W' S b most (asc L')) (hok : OkL L') (hr : RefIs W' W'.heap.size L' A' n' c') (hg : W.grownBy W' (some b)) :
    Blk W' R 45 #[.int .i64 most, .slice A n c] ∧ RunI w R most L' S b A' n' c' (W'.setRow R #[.int .i64 most, .slice A' n' c']) := by
  have hr0 := h.r.grown hg h.rne
  obtain ⟨l1, l2, l3⟩ := h.lo
  have hb := below_row (Below.refl w.heap.size W') l3 #[.int .i64 most, .slice A' n' c']
  refine ⟨hr0, ⟨⟨hst.cells.row_far _ (Ne.symm h.rnS), hst.map.of_block (setRow_other _ _ _ _ (Ne.symm h.rne)), hst.ne⟩, hok, hr0.row _, (hr.far hr0 (by simp) _).more (by simp), ?_, l1, l2, l3⟩⟩
  exact (below_grown h.bel hg l2 h.bel.size).trans hb
end
theorem opArr_arr (x : OpC) : (opRow x).toArray = opArr x := rfl
set_option maxRecDepth 100000 in
set_option maxHeartbeats 4000000 in
theorem law_NodedbAll (most : Int) (xs : List OpC) (A : Option Addr) (n c : Nat) (w : World) (h : OpsIn w w.heap.size xs A n c) (hlim : (n + 1) * 56 ≤ 140737488355328) :
    Calls Try.prog 7 #[.int .i64 most, .slice A n c] w (PostT w) := by
  have hn63 : (n : Int) ≤ 9223372036854775807 := by omega
  have hlen := Lib.hid h.len
  replace hlim := Lib.hid hlim
  replace h := Lib.hid h
  go_enter Try.func7, Try.ntmps7
  go_wp2_with fail
  refine (law_begun most _).mono ?_
  rintro e w1 ⟨S, b, rfl, hb0, hSb, hst, hb1⟩
  replace hst := Lib.hid hst
  replace hb1 := Lib.hid hb1
  go_upto_region 5 with (refine wpList_store_row rfl 45 _ _ rfl w1.heap.size #[.int .i64 most, .slice none 0 0] rfl rfl _ _ (Blk.new w1 _ _) info_sto rfl (sto_one _ _ _ _) ?_)
  refine code_at (RunI w w1.heap.size most [] S b none 0 0) ?_ ?_
  · have hb3 := below_row ((Below.refl w1.heap.size w1).alloc (Nat.le_refl _) (.cells #[.int .i64 0, .slice none 0 0] 45)) (Nat.le_refl _) #[.int .i64 most, .slice none 0 0]
    exact ⟨hst.out.step hb3, OkL.nil, (Blk.new w1 _ _).row _, RefIs.nil _ _, hb1.out.trans (hb3.mono hb1.out.size), ⟨by omega, by omega, hb1.out.size⟩⟩
  clear hst hb1
  generalize w1.heap.size = R
  intro w2 hi
  replace hi := Lib.hid hi
  go_wp2_with fail
  replace hi := hi.out
  go_loopw [5, 6, 9, 21] (fun sv ov tv iv wr => ∃ (k S b : Nat) (L : List One) (A' : Option Addr) (n' c' : Nat), k ≤ n ∧ iv = .int .i64 k ∧ sv = .pointer (some ⟨S, 0, none⟩) ∧ ov = .bool true ∧ L.length ≤ k ∧ RunI w R most L S b A' n' c' wr) (fun _ _ _ iv _ => n - (intOf iv).toNat)
  case atStart => exact ⟨0, S, b, [], none, 0, 0, Nat.zero_le _, rfl, rfl, rfl, Nat.le_refl _, hi⟩
  case round =>
    clear hi
    obtain ⟨k, S, b, L, A', n', c', hk, rfl, rfl, rfl, hLk, hi⟩ := hrel
    have hnL := Lib.hid hi.rf.len
    by_cases hlt : k < n
    · have hlt' : (k : Int) < n := by omega
      have hkx : k < xs.length := by have := hlen.out; omega
      obtain ⟨g, o, rfl, hg, hr⟩ := (h.out.below hi.bel).row k hkx
      have hop := h.out.ok _ (List.getElem_mem hkx)
      generalize xs[k] = x at *
      have hxs := opArr_size hop.1
      have hxl := opRow_length hop.1
      replace hop := Lib.hid hop
      replace hr := Lib.hid hr
      replace hi := Lib.hid hi
      go_upto_region 8 with (first
        | (refine wpList_mid_g (by rfl) 54 _ rfl g (o + k * 35) rfl (opRow x) _ hr.out Try.underlying54 rfl (by rw [hxl]; exact info_opc) ?_)
        | (refine wpList_store_row rfl 54 _ _ rfl wr.heap.size (opArr x) rfl rfl _ _ (Blk.new wr _ _) (by rw [hxs]; exact info_opc) (by rw [hxs]; rfl) (opArr_one _) ?_))
      refine code_at (fun W => RunI w R most L S b A' n' c' W ∧ Blk W wr.heap.size 54 (opArr x)) ⟨?_, (Blk.new wr _ _).row _⟩ ?_
      · exact hi.out.step (below_row ((Below.refl wr.heap.size wr).alloc (Nat.le_refl _) _) (Nat.le_refl _) _)
      clear hi hr
      generalize wr.heap.size = T
      rintro w3 ⟨hi, hx9⟩
      have c0 := hx9.op_k
      replace hi := Lib.hid hi
      replace hx9 := Lib.hid hx9
      by_cases h5 : x.k = 5
      · have hb5 : (x.k == 5) = true := by simpa using h5
        have cC := Lib.hid (db_Clone S b most (asc L) w3 hi.out.st)
        replace h5 := Lib.hid h5
        go_wp2_with fail
        refine cC.out.mono ?_
        rintro e w4 ⟨S2, b2, rfl, hb2, hSb2, hst2, hb4⟩
        have hi2 := Lib.hid (show RunI w R most L S2 b2 A' n' c' w4 from
          have h1 := hi.out.step hb4
          ⟨hst2, h1.ok, h1.r, h1.rf, h1.bel, ⟨by have := hi.out.bel.size; omega, by have := hi.out.bel.size; omega, h1.lo.2.2⟩⟩)
        clear hi cC hst2 hb4 c0 hx9
        go_wp2_with fail
        exact ⟨⟨k + 1, S2, b2, L, A', n', c', by omega, by go_num, rfl, rfl, by omega, hi2.out⟩, by simp [intOf]; omega⟩
      · have hb5 : (x.k == 5) = false := by simpa using h5
        have cC := Lib.hid (law06_step S b most L A' n' c' x w3 hi.out.st hi.out.ok hi.out.rf hop.out (by have := hlim.out; have := hnL.out; omega))
        have hr0 := Lib.hid hi.out.r
        replace h5 := Lib.hid h5
        go_wp2_with (first
          | (refine wpList_load_row rfl 45 _ rfl R rfl _ #[.int .i64 most, .slice A' n' c'] _ _ hr0.out Try.underlying45 rfl info_sto ?_)
          | (refine wpList_load_row rfl 54 _ rfl T rfl _ (opArr x) _ _ hx9.out Try.underlying54 rfl (by rw [hxs]; exact info_opc) ?_))
        refine cC.out.mono ?_
        rintro e w4 ⟨A2, n2, c2, rfl, hst2, hr2, hg4⟩
        have hcl := hi.out.called hst2 (okL_step hi.out.ok most hop.out) hr2 hg4
        have hr3 := Lib.hid hcl.1
        have hi3 := Lib.hid hcl.2
        have hl3 := stepL_length L most x
        clear hi cC hst2 hr2 hg4 c0 hx9 hr0 hcl
        replace hl3 := Lib.hid hl3
        go_wp2_with (refine wpList_store_row rfl 45 _ _ rfl R #[.int .i64 most, .slice A2 n2 c2] rfl rfl _ _ hr3.out info_sto rfl (sto_one _ _ _ _) ?_)
        exact ⟨⟨k + 1, S, b, _, A2, n2, c2, by omega, by go_num, rfl, rfl, by have := hl3.out; omega, hi3.out⟩, by simp [intOf]; omega⟩
    · obtain rfl : k = n := by omega
      have hlt' : ¬ (k : Int) < k := by omega
      have hn2 : n' = L.length := hnL.out
      have cD := Lib.hid (fun W (hW : RunI w R most L S b A' n' c' W) => db_List_asc S b most L W hW.st (by have := hlim.out; omega))
      have cR := Lib.hid (fun W (hW : RunI w R most L S b A' n' c' W) => ref_List most L A' n' c' W hW.rf hW.ok (by have := hlim.out; omega))
      have cL := Lib.hid (fun W (hW : RunI w R most L S b A' n' c' W) => db_Len S b most (asc L) W hW.st)
      rw [asc_length, ← hn2] at cL
      replace hn2 := Lib.hid hn2
      replace hi := Lib.hid hi
      clear hnL
      go_wp2_with fail
      refine wp_region_held_drew (S := (RunI w R most L S b A' n' c')) (by kernel_rfl) (by exact hi.out.step (Below.refl _ _).drew) (fun hS => ?_)
      clear hi
      (refine hTake (i := 0) (v := ?v1) rfl (by kernel_rfl) (by kernel_rfl) (by kernel_rfl) (fun _ _ _ h => h) (Or.inl ⟨by rfl, ?y1⟩) hS ?r1; (case y1 => (intro W hW; (go_simp); (try with_reducible rfl); done)); try simp only [Act.put, List.setIfInBounds_toArray, List.set_cons_zero, List.set_cons_succ])
      (refine hTake (i := 2) rfl (by kernel_rfl) (by kernel_rfl) (by kernel_rfl) (fun _ _ _ h => h) (yieldsIf_load_mid (by rfl) _ _ rfl _ _ rfl [.int .i64 most, .slice A' n' c'] _ (fun W hW => (hW.r.rangeL)) Try.underlying45 rfl info_sto) hS ?_; try simp only [Act.put, List.setIfInBounds_toArray, List.set_cons_zero, List.set_cons_succ])
      (refine hOne (i := 1) rfl (by kernel_rfl) (fun K hK => ?_))
      rw [if_pos (by rfl)]
      go_simp
      refine (cD.out _ hS).mono ?_
      rintro e w4 ⟨A1, n1, c1, rfl, hd4, hb4⟩
      have hS4 := Lib.hid (hS.step hb4)
      replace hd4 := Lib.hid hd4
      go_wp2_with fail
      (refine hK.out _ _ (by exact hS4.out) (fun hS => ?_); clear hK K; try simp only [Act.put, List.setIfInBounds_toArray, List.set_cons_zero, List.set_cons_succ])
      clear hS4 hb4
      (refine hOne (i := 3) rfl (by kernel_rfl) (fun K hK => ?_))
      rw [if_pos (by rfl)]
      go_simp
      refine (cR.out _ hS).mono ?_
      rintro e w5 ⟨A2, n2, c2, rfl, hd5, hb5⟩
      have hS5 := Lib.hid (hS.step hb5)
      replace hd4 := Lib.hid (hd4.out.below hb5)
      replace hd5 := Lib.hid hd5
      go_wp2_with fail
      (refine hK.out _ _ (by exact hS5.out) (fun hS => ?_); clear hK K; try simp only [Act.put, List.setIfInBounds_toArray, List.set_cons_zero, List.set_cons_succ])
      clear hS5 hb5
      (refine hOne (i := 4) rfl (by kernel_rfl) (fun K hK => ?_))
      rw [if_pos (by rfl)]
      go_simp
      refine (law06_same (srt L) (srt L) A1 A2 n1 n2 c1 c2 _ _ w5 hd4.out hd5.out).mono ?_
      rintro e w6 ⟨rfl, hb6⟩
      rw [decide_eq_true rfl]
      have hS6 := Lib.hid (hS.step hb6)
      go_wp2_with fail
      (refine hK.out _ _ (by exact hS6.out) (fun hS => ?_); clear hK K; try simp only [Act.put, List.setIfInBounds_toArray, List.set_cons_zero, List.set_cons_succ])
      clear hS6 hb6
      (refine hTake (i := 5) (v := ?v2) rfl (by kernel_rfl) (by kernel_rfl) (by kernel_rfl) (fun _ _ _ h => h) (Or.inl ⟨by rfl, ?y2⟩) hS ?r2; (case y2 => (intro W hW; (go_simp); (try with_reducible rfl); done)); try simp only [Act.put, List.setIfInBounds_toArray, List.set_cons_zero, List.set_cons_succ])
      (refine hTake (i := 6) (v := ?v3) rfl (by kernel_rfl) (by kernel_rfl) (by kernel_rfl) (fun _ _ _ h => h) (Or.inl ⟨by rfl, ?y3⟩) hS ?r3; (case y3 => (intro W hW; (go_simp); (try with_reducible rfl); done)); try simp only [Act.put, List.setIfInBounds_toArray, List.set_cons_zero, List.set_cons_succ])
      (refine hTake (i := 8) (v := ?v4) rfl (by kernel_rfl) (by kernel_rfl) (by kernel_rfl) (fun _ _ _ h => h) (Or.inl ⟨by rfl, ?y4⟩) hS ?r4; (case y4 => (intro W hW; (go_simp); (try with_reducible rfl); done)); try simp only [Act.put, List.setIfInBounds_toArray, List.set_cons_zero, List.set_cons_succ])
      (refine hTake (i := 9) (v := ?v5) rfl (by kernel_rfl) (by kernel_rfl) (by kernel_rfl) (fun _ _ _ h => h) (Or.inl ⟨by rfl, ?y5⟩) hS ?r5; (case y5 => (intro W hW; ((have g1 := hW.r.cell 1; simp at g1; go_simp)); (try with_reducible rfl); done)); try simp only [Act.put, List.setIfInBounds_toArray, List.set_cons_zero, List.set_cons_succ])
      (refine hTake (i := 10) (v := ?v6) rfl (by kernel_rfl) (by kernel_rfl) (by kernel_rfl) (fun _ _ _ h => h) (Or.inl ⟨by rfl, ?y6⟩) hS ?r6; (case y6 => (intro W hW; (go_simp); (try with_reducible rfl); done)); try simp only [Act.put, List.setIfInBounds_toArray, List.set_cons_zero, List.set_cons_succ])
      (refine hOne (i := 7) rfl (by kernel_rfl) (fun K hK => ?_))
      rw [if_pos (by rfl)]
      go_simp
      refine (cL.out _ hS).mono ?_
      rintro e w7 ⟨rfl, rfl⟩
      have hS7 := Lib.hid hS
      go_wp2_with fail
      (refine hK.out _ _ (by exact hS7.out) (fun hS => ?_); clear hK K; try simp only [Act.put, List.setIfInBounds_toArray, List.set_cons_zero, List.set_cons_succ])
      clear hS7
      (refine hTake (i := 11) (v := ?v7) rfl (by kernel_rfl) (by kernel_rfl) (by kernel_rfl) (fun _ _ _ h => h) (Or.inl ⟨by rfl, ?y7⟩) hS ?r7; (case y7 => (intro W hW; (go_simp); (try with_reducible rfl); done)); try simp only [Act.put, List.setIfInBounds_toArray, List.set_cons_zero, List.set_cons_succ])
      (refine hTake (i := 12) (v := ?v8) rfl (by kernel_rfl) (by kernel_rfl) (by kernel_rfl) (fun _ _ _ h => h) (Or.inl ⟨by rfl, ?y8⟩) hS ?r8; (case y8 => (intro W hW; (go_simp); (try with_reducible rfl); done)); try simp only [Act.put, List.setIfInBounds_toArray, List.set_cons_zero, List.set_cons_succ])
      (refine hTake (i := 13) (v := ?v9) rfl (by kernel_rfl) (by kernel_rfl) (by kernel_rfl) (fun _ _ _ h => h) (Or.inl ⟨by rfl, ?y9⟩) hS ?r9; (case y9 => (intro W hW; (go_simp); (try with_reducible rfl); done)); try simp only [Act.put, List.setIfInBounds_toArray, List.set_cons_zero, List.set_cons_succ])
      refine wpAnyH_done (by kernel_rfl) ?_ _
      replace hS := Lib.hid hS
      go_wp2_with fail
      go_ret
      exact ⟨by simp, hS.out.bel⟩
end Go.Proofs.Ytioanppnkhiokaa

/-
  A script that is handed in.
-/
namespace Go.Proofs.Ytioanppnkhiokaa
open Go.RowKit Go.WideShapes Go.ChangeShapes Go.ChangeAt Go.WideElems Go.Deep

def reachOk {H : Type} (t : TypeId) (d : DataW H) : Prop := ((d.weights Try.prog t).all (· ≤ reachBytes)) = true
theorem reach_field {H : Type} {t tj : TypeId} {fs : Array Field} {parts : List (DataW H)} {j : Nat} {d : DataW H} (hu : Try.prog.underlying t = some (.struct fs)) (h : reachOk t (.agg parts)) (hj : (fs.toList.map (·.type))[j]? = some tj) (hd : parts[j]? = some d) : reachOk tj d := by
  refine List.all_eq_true.2 fun n hn => List.all_eq_true.1 h n ?_
  simp only [DataW.weights, hu]
  exact DataW.weights_mem_each hj hd n hn
theorem weights_all {H : Type} {e : TypeId} : ∀ {ds : List (DataW H)} {d : DataW H}, d ∈ ds → ∀ n ∈ d.weights Try.prog e, n ∈ DataW.weightsAll Try.prog e ds
  | [], d, h => by cases h
  | x :: xs, d, h => by
    intro n hn
    simp only [DataW.weightsAll, List.mem_append]
    rcases List.mem_cons.1 h with rfl | h
    · exact .inl hn
    · exact .inr (weights_all h n hn)
theorem reach_elem {H : Type} {t e : TypeId} {elems spare : List (DataW H)} {d : DataW H} (hu : Try.prog.underlying t = some (.slice e)) (h : reachOk t (.slice elems spare)) (hd : d ∈ elems) : reachOk e d := by
  refine List.all_eq_true.2 fun n hn => List.all_eq_true.1 h n ?_
  simp only [DataW.weights, hu, List.mem_cons, List.mem_append]
  exact .inr (.inl (weights_all hd n hn))
theorem reach_len {H : Type} {t e : TypeId} {elems spare : List (DataW H)} (hu : Try.prog.underlying t = some (.slice e)) (h : reachOk t (.slice elems spare)) : elems.length * Try.prog.bytesOf e ≤ 140737488351232 := by
  have h1 := List.all_eq_true.1 h ((elems.length + spare.length) * Try.prog.bytesOf e) (by simp [DataW.weights, hu])
  have h2 : (elems.length + spare.length) * Try.prog.bytesOf e ≤ 140737488351232 := by
    have e : reachBytes = 140737488351232 := by decide
    rw [← e]; simpa using h1
  refine Nat.le_trans ?_ h2
  rw [Nat.add_mul]; exact Nat.le_add_right _ _
theorem reach_arg {H : Type} {ts : List TypeId} {ds : List (DataW H)} (h : (DataW.weightsEach Try.prog ts ds).all (· ≤ reachBytes) = true) {j : Nat} {t : TypeId} {d : DataW H} (ht : ts[j]? = some t) (hd : ds[j]? = some d) : reachOk t d :=
  List.all_eq_true.2 fun n hn => List.all_eq_true.1 h n (DataW.weights_mem_each ht hd n hn)
theorem reach_text {H : Type} {t : TypeId} {l : List UInt8} (h : reachOk (H := H) t (.lit (.string l))) : l.length ≤ 140737488351232 := by
  have := List.all_eq_true.1 h l.length (by simp [DataW.weights])
  have e : reachBytes = 140737488351232 := by decide
  rw [← e]; simpa using this
theorem bulk_mem {H : Type} : ∀ {l : List (DataW H)} {d : DataW H}, d ∈ l → Rows.uptoBulk d ≤ Rows.uptoBulkAll l
  | [], _, h => by cases h
  | x :: r, d, h => by
    simp only [Rows.uptoBulkAll]
    rcases List.mem_cons.1 h with rfl | h
    · omega
    · have := bulk_mem h; omega
theorem bulk_text {H : Type} (l : List UInt8) : l.length ≤ Rows.uptoBulk (H := H) (.lit (.string l)) := by simp [Rows.uptoBulk]
/-- a script, as it reads: what bounds its texts, and their number -/
structure OpsAt {H : Type} (w : World) (t : TypeId) (d : DataW H) (ys : List OpC) (A : Option Addr) (n c : Nat) : Prop where
  len : n = ys.length
  ds : ∀ y ∈ ys, y.d.length = 32
  rd : Reads w w.heap.size 35 A n (opRows ys)
  reach : reachOk t d → n * 64 ≤ 140737488351232 ∧ ∀ y ∈ ys, y.t.size ≤ 140737488351232
  bulk : n ≤ Rows.uptoBulk d ∧ ∀ y ∈ ys, y.t.size ≤ Rows.uptoBulk d
section
variable {H : Type} {enc : TypeId × Value → H} {w : World} {base : Nat} {sp : Nat → Bool} {hd : Bool} {fuel : Nat} {cs : List Value} {x : DataW H × List MemPlace}
set_option maxRecDepth 100000 in
/-- a digest -/
theorem trod_dig (h : DataW.trod enc Try.prog w base sp hd fuel 30 cs = some x) : ∃ d : List UInt8, cs = bv d ∧ d.length = 32 := by
  obtain ⟨xs, m, _, _, hl, _, hi⟩ := DataW.trod_array Try.underlying30 h
  have hl32 : cs.length = 32 := hl
  have hb : ∀ i, i < 32 → ∃ b : UInt8, cs[i]? = some (.int .u8 (b.toNat : Int)) := by
    intro i h32
    have := hi i h32
    have hc1 : Try.prog.cellsOf 5 = 1 := by kernel_rfl
    rw [hc1, Nat.mul_one] at this
    have hxi : ∃ y, xs[i]? = some y := ⟨xs[i]'(by simp_all), List.getElem?_eq_getElem _⟩
    obtain ⟨y, hy⟩ := hxi
    rw [hy] at this
    obtain ⟨n, hn, _, hw⟩ := DataW.trod_int Try.underlying5 this
    have hbd : 0 ≤ n ∧ n ≤ 255 := by simpa [Lit.wf, IntKind.min, IntKind.max, IntKind.signed, IntKind.bits] using hw
    refine ⟨UInt8.ofNat n.toNat, ?_⟩
    have e1 : (((UInt8.ofNat n.toNat).toNat : Nat) : Int) = n := by simp; omega
    rw [e1]
    have e2 : ((cs.drop i).take 1)[0]? = some (.int .u8 n) := by rw [hn]; rfl
    rwa [List.getElem?_take, if_pos (by decide), List.getElem?_drop, Nat.add_zero] at e2
  clear hi h
  have key : ∀ (k : Nat) (l : List Value), l.length = k → (∀ i, i < k → ∃ b : UInt8, l[i]? = some (.int .u8 (b.toNat : Int))) → ∃ d : List UInt8, l = bv d ∧ d.length = k := by
    intro k
    induction k with
    | zero => intro l hl _; exact ⟨[], by rw [List.eq_nil_of_length_eq_zero hl]; rfl, rfl⟩
    | succ k ih =>
      intro l hl hb
      match l, hl with
      | v :: l, hl =>
        obtain ⟨b, hb0⟩ := hb 0 (by omega)
        obtain ⟨d, hd, hk⟩ := ih l (by simpa using hl) (fun i hi => by
          obtain ⟨b, hb⟩ := hb (i + 1) (by omega)
          exact ⟨b, by simpa using hb⟩)
        have hv : v = .int .u8 (b.toNat : Int) := by simpa using hb0
        exact ⟨b :: d, by rw [hd, hv]; rfl, by simp [hk]⟩
  exact key 32 cs hl32 hb
set_option maxRecDepth 100000 in
/-- a call -/
theorem trod_op (h : DataW.trod enc Try.prog w base sp hd fuel 54 cs = some x) : ∃ y : OpC, cs = opRow y ∧ y.d.length = 32 ∧ (reachOk 54 x.1 → y.t.size ≤ 140737488351232) ∧ y.t.size ≤ Rows.uptoBulk x.1 := by
  obtain ⟨xs, m, _, rfl, hl, hxl, hf⟩ := DataW.trod_struct Try.underlying54 h
  have hl35 : cs.length = 35 := hl
  have hx : ∀ i, i < 4 → ∃ y, xs[i]? = some y := fun i hi => ⟨xs[i]'(by simp_all), List.getElem?_eq_getElem _⟩
  obtain ⟨y0, h0⟩ := hx 0 (by omega)
  obtain ⟨y1, h1⟩ := hx 1 (by omega)
  obtain ⟨y2, h2⟩ := hx 2 (by omega)
  obtain ⟨y3, h3⟩ := hx 3 (by omega)
  have f0 := (hf 0 _ rfl).trans h0
  have f1 := (hf 1 _ rfl).trans h1
  have f2 := (hf 2 _ rfl).trans h2
  have f3 := (hf 3 _ rfl).trans h3
  obtain ⟨k, hk, _, _⟩ := DataW.trod_int Try.underlying3 f0
  obtain ⟨s, hs, hsx, _⟩ := DataW.trod_string Try.underlying9 f1
  obtain ⟨o, ho, _⟩ := DataW.trod_bool Try.underlying4 f2
  obtain ⟨d, hd', hdl⟩ := trod_dig f3
  have k0 : cs.take 1 = [.int .i64 k] := hk
  have k1 : (cs.drop 1).take 1 = [.string s] := hs
  have k2 : (cs.drop 2).take 1 = [.bool o] := ho
  have k3 : (cs.drop 3).take 32 = bv d := hd'
  have hsz : s.data.toList.length = s.size := Array.length_toList
  have hpart : (xs.map (·.1))[1]? = some (.lit (.string s.data.toList)) := by rw [List.getElem?_map, h1, hsx]; rfl
  refine ⟨⟨k, s, o, d⟩, ?_, hdl, fun hk => ?_, ?_⟩
  · have e1 : cs = cs.take 1 ++ ((cs.drop 1).take 1 ++ ((cs.drop 2).take 1 ++ (cs.drop 3).take 32)) := by
      have a1 : (cs.drop 3).take 32 = cs.drop 3 := List.take_of_length_le (by rw [List.length_drop]; omega)
      have a2 : cs.drop 3 = (cs.drop 2).drop 1 := by rw [List.drop_drop]
      have a3 : cs.drop 2 = (cs.drop 1).drop 1 := by rw [List.drop_drop]
      rw [a1, a2, List.take_append_drop, a3, List.take_append_drop, List.take_append_drop]
    rw [e1, k0, k1, k2, k3]
    rfl
  · have := reach_text (reach_field (j := 1) Try.underlying54 hk rfl hpart)
    rwa [hsz] at this
  · have h5 := bulk_mem (List.mem_of_getElem? hpart)
    have h6 := bulk_text (H := H) s.data.toList
    show s.size ≤ Rows.uptoBulk (.agg (xs.map (·.1)))
    rw [Rows.uptoBulk]
    omega
set_option maxRecDepth 100000 in
/-- a script -/
theorem trod_ops (h : DataW.trod enc Try.prog w base sp hd fuel 52 cs = some x) : ∃ (A : Option Addr) (n c : Nat) (ys : List OpC), cs = [.slice A n c] ∧ OpsAt w 52 x.1 ys A n c := by
  rcases open_slice Try.underlying52 h with ⟨rfl, _⟩ | ⟨a, len, cap, m, n, D, Pl, rfl, _, hl, hm, hmm, rfl, hi⟩
  · exact ⟨none, 0, 0, [], rfl, rfl, by simp, Reads.none_, fun _ => ⟨by simp, by simp⟩, Nat.zero_le _, by simp⟩
  · have hlm : len ≤ m := by rw [hmm]; split <;> omega
    have hc35 : Try.prog.cellsOf 54 = 35 := by kernel_rfl
    have hb64 : Try.prog.bytesOf 54 = 64 := by kernel_rfl
    rw [hc35] at hi
    have hel : ∀ i, i < len → ∃ y : OpC, (∀ j u, (opRow y)[j]? = some u → w.cell? (a.add (i * 35 + j)) = some u) ∧ y.d.length = 32 ∧ (reachOk 54 (D i) → y.t.size ≤ 140737488351232) ∧ y.t.size ≤ Rows.uptoBulk (D i) := by
      intro i h
      obtain ⟨cs', hcs, ht⟩ := hi i (by omega)
      obtain ⟨y, rfl, hd, hk, hbk⟩ := trod_op ht
      obtain ⟨_, hcl, hat⟩ := World.cells?_some hcs
      refine ⟨y, fun j u hu => ?_, hd, hk, hbk⟩
      have hj : j < 35 := by
        have := (List.getElem?_eq_some_iff.1 hu).1
        rwa [opRow_length hd] at this
      have := hat j hj
      rw [hu] at this
      rw [← Go.Deep.add_add]
      exact this
    clear hi hmm
    have key : ∀ k, k ≤ len → ∃ ys : List OpC, ys.length = k ∧ (∀ y ∈ ys, y.d.length = 32) ∧ (∀ j u, (opRows ys)[j]? = some u → w.cell? (a.add j) = some u) ∧ ((∀ i, i < len → reachOk 54 (D i)) → ∀ y ∈ ys, y.t.size ≤ 140737488351232) ∧ ∀ y ∈ ys, ∃ i, i < len ∧ y.t.size ≤ Rows.uptoBulk (D i) := by
      intro k
      induction k with
      | zero => intro _; exact ⟨[], rfl, by simp, fun j u hu => by simp [opRows] at hu, fun _ => by simp, by simp⟩
      | succ k ih =>
        intro hk
        obtain ⟨ys, h1, h2, h3, h4, h5⟩ := ih (by omega)
        obtain ⟨y, hcell, hd, hkr, hbk⟩ := hel k (by omega)
        have hrl := opRows_length h2
        have hfl : opRows (ys ++ [y]) = opRows ys ++ opRow y := by simp [opRows]
        refine ⟨ys ++ [y], by simp [h1], fun z hz => ?_, fun j u hu => ?_, fun hk' z hz => ?_, fun z hz => ?_⟩
        · rcases List.mem_append.1 hz with h | h
          · exact h2 z h
          · rw [List.mem_singleton.1 h]; exact hd
        · rw [hfl, List.getElem?_append, hrl, h1] at hu
          split at hu
          · exact h3 j u hu
          · have := hcell _ u hu
            rwa [show k * 35 + (j - k * 35) = j by omega] at this
        · rcases List.mem_append.1 hz with h | h
          · exact h4 hk' z h
          · rw [List.mem_singleton.1 h]; exact hkr (hk' k (by omega))
        · rcases List.mem_append.1 hz with h | h
          · exact h5 z h
          · rw [List.mem_singleton.1 h]; exact ⟨k, by omega, hbk⟩
    obtain ⟨ys, h1, h2, h3, h4, h5⟩ := key len (Nat.le_refl _)
    have hrl := opRows_length h2
    refine ⟨some a, len, cap, ys, rfl, h1.symm, h2, ⟨by rw [hrl, h1], fun hp => ?_⟩, fun hk => ⟨?_, h4 fun i hi => reach_elem Try.underlying52 hk (by simp; exact ⟨i, hi, rfl⟩)⟩, ?_, fun y hy => ?_⟩
    · have h0 : (opRows ys)[0]? = some ((opRows ys)[0]'(by omega)) := List.getElem?_eq_getElem _
      have hc0 := h3 0 _ h0
      obtain ⟨g, o, st⟩ := a
      have hst : st = none := by simpa [Addr.add] using World.cell?_spot hc0
      subst hst
      have hb : g < w.heap.size := World.block_lt_of_cell? w _ hc0
      refine ⟨g, o, rfl, hb, fun j u hu => ?_⟩
      rw [← Go.WideShapes.add_plain]
      exact h3 j u hu
    · have h6 := reach_len Try.underlying52 hk
      rw [hb64] at h6
      simpa using h6
    · have := dlen_bulk (H := H) (.slice (List.map D (List.range len)) (List.map (fun j => D (len + j)) (List.range (m - len))))
      simpa [dlen] using this
    · obtain ⟨i, hi, hb⟩ := h5 y hy
      have h6 := bulk_mem (l := List.map D (List.range len)) (d := D i) (List.mem_map.2 ⟨i, List.mem_range.2 hi, rfl⟩)
      show y.t.size ≤ Rows.uptoBulk (.slice (List.map D (List.range len)) (List.map (fun j => D (len + j)) (List.range (m - len))))
      rw [Rows.uptoBulk]
      omega
end
set_option maxRecDepth 100000 in
/-- a script that is handed in -/
theorem open_ops {H : Type} {enc : TypeId × Value → H} {W : World} {base : Nat} {sp : Nat → Bool} {hd : Bool} {v : Value} {d : DataW H} {p : List MemPlace} (hv : Value.okWide Try.prog W .any base 52 v) (h : DataW.Trod enc Try.prog W 0 sp hd 52 v d p) :
    ∃ (A : Option Addr) (n c : Nat) (ys : List OpC), v = .slice A n c ∧ OpsAt W 52 d ys A n c := by
  obtain ⟨A, n, c, rfl⟩ := okWide_slice Try.underlying52 hv
  obtain ⟨fuel, hf⟩ := h
  obtain ⟨A', n', c', ys, hcs, h⟩ := trod_ops hf
  simp only [Value.cells, List.cons.injEq, Value.slice.injEq, and_true] at hcs
  obtain ⟨rfl, rfl, rfl⟩ := hcs
  exact ⟨A, n, c, ys, rfl, h⟩
theorem OpsAt.reached {H : Type} {w : World} {t : TypeId} {d : DataW H} {ys : List OpC} {A : Option Addr} {n c : Nat} (h : OpsAt w t d ys A n c) (hk : reachOk t d) : OpsIn w w.heap.size ys A n c ∧ (n + 1) * 56 ≤ 140737488355328 := by
  obtain ⟨h1, h2⟩ := h.reach hk
  exact ⟨⟨h.len, fun y hy => ⟨h.ds y hy, h2 y hy⟩, h.rd⟩, by omega⟩
theorem OpsAt.small {H : Type} {w : World} {t : TypeId} {d : DataW H} {ys : List OpC} {A : Option Addr} {n c : Nat} (h : OpsAt w t d ys A n c) (hk : Rows.uptoBulk d ≤ 1048576) : OpsIn w w.heap.size ys A n c ∧ n ≤ 1048576 := by
  obtain ⟨h1, h2⟩ := h.bulk
  exact ⟨⟨h.len, fun y hy => ⟨h.ds y hy, by have := h2 y hy; omega⟩, h.rd⟩, by omega⟩
end Go.Proofs.Ytioanppnkhiokaa

/-
  Things laid into a store in one order, and in the other: plain lists.
-/
namespace Go.Proofs.Ytioanppnkhiokaa

def dg (t : ByteArray) : List UInt8 := Dig.of t.data.toList
/-- no two unlike texts have one digest -/
def NC (ts : List ByteArray) : Prop := ∀ t ∈ ts, ∀ u ∈ ts, dg t = dg u → t = u
def cnt (ts : List ByteArray) (d : List UInt8) : Nat := (ts.filter fun t => dg t == d).length
def runP (most : Int) (ts : List ByteArray) : List One := ts.foldl (fun L t => putL L most t (dg t)) []
structure Got (ts : List ByteArray) (L : List One) : Prop where
  len : L.length ≤ ts.length
  own : ∀ o ∈ L, o.d = dg o.t ∧ o.t ∈ ts ∧ o.n = cnt ts o.d
  all : ∀ t ∈ ts, ∃ o ∈ L, o.d = dg t
section
variable {ts : List ByteArray} {L : List One} {most : Int} {t : ByteArray}
theorem cnt_le (ts : List ByteArray) (d : List UInt8) : cnt ts d ≤ ts.length := List.length_filter_le _ _
theorem cnt_snoc (ts : List ByteArray) (t : ByteArray) (d : List UInt8) : cnt (ts ++ [t]) d = cnt ts d + if dg t = d then 1 else 0 := by
  unfold cnt
  rw [List.filter_append, List.length_append]
  by_cases h : dg t = d
  · simp [h]
  · simp [h]
theorem runP_snoc (most : Int) (ts : List ByteArray) (t : ByteArray) : runP most (ts ++ [t]) = putL (runP most ts) most t (dg t) := by
  unfold runP
  rw [List.foldl_append]
  rfl
theorem NC.sub {us : List ByteArray} (h : NC us) (hs : ∀ t ∈ ts, t ∈ us) : NC ts := fun t ht u hu => h t (hs t ht) u (hs u hu)
theorem data_eq {a b : ByteArray} (h : a.data.toList = b.data.toList) : a = b := by
  cases a; cases b
  simp only at h
  congr 1
  exact Array.toList_inj.1 h
/-- one more thing is laid in -/
theorem Got.put (hg : Got ts L) (hone : L.Pairwise fun p q => p.d ≠ q.d) (hnc : NC ts) (h1 : (ts.length : Int) < most) (h2 : ts.length < 4294967295) (t : ByteArray) :
    (putK (asc L) t (getL L (dg t)) most = 60 ∧ ¬ NC (ts ++ [t])) ∨ (putK (asc L) t (getL L (dg t)) most = 0 ∧ NC (ts ++ [t]) ∧ Got (ts ++ [t]) (putL L most t (dg t))) := by
  cases hgl : getL L (dg t) with
  | none =>
    have hno := getL_none hgl
    have hout : ∀ u ∈ ts, dg u ≠ dg t := fun u hu e => by
      obtain ⟨o, ho, he⟩ := hg.all u hu
      exact hno o ho (he.trans e)
    have hk : putK (asc L) t none most = 0 := by
      unfold putK
      simp only [asc_length]
      rw [if_neg]
      have := hg.len
      omega
    have hc0 : cnt ts (dg t) = 0 := by
      unfold cnt
      rw [List.length_eq_zero_iff, List.filter_eq_nil_iff]
      intro u hu
      simpa using hout u hu
    refine .inr ⟨hk, fun a ha b hb e => ?_, ?_⟩
    · rcases List.mem_append.1 ha with ha | ha <;> rcases List.mem_append.1 hb with hb | hb
      · exact hnc a ha b hb e
      · rw [List.mem_singleton.1 hb] at e; exact absurd e (hout a ha)
      · rw [List.mem_singleton.1 ha] at e; exact absurd e.symm (hout b hb)
      · rw [List.mem_singleton.1 ha, List.mem_singleton.1 hb]
    · unfold putL
      rw [hgl, if_pos hk]
      simp only
      refine ⟨by have := hg.len; simp; omega, fun o ho => ?_, fun u hu => ?_⟩
      · rcases List.mem_append.1 ho with ho | ho
        · obtain ⟨a, b, c⟩ := hg.own o ho
          refine ⟨a, List.mem_append_left _ b, ?_⟩
          rw [cnt_snoc, if_neg (fun e => hno o ho e.symm), c]; rfl
        · rw [List.mem_singleton.1 ho]
          refine ⟨rfl, by simp, ?_⟩
          show (1 : Int) = cnt (ts ++ [t]) (dg t)
          rw [cnt_snoc, if_pos rfl, hc0]; rfl
      · rcases List.mem_append.1 hu with hu | hu
        · obtain ⟨o, ho, he⟩ := hg.all u hu
          exact ⟨o, List.mem_append_left _ ho, he⟩
        · rw [List.mem_singleton.1 hu]
          exact ⟨⟨dg t, t, 1⟩, by simp, rfl⟩
  | some x =>
    obtain ⟨o, ho, hod, rfl⟩ := getL_some hgl
    obtain ⟨ha, hb, hc⟩ := hg.own o ho
    have hcl := cnt_le ts o.d
    by_cases he : o.t.data.toList = t.data.toList
    · have het : o.t = t := data_eq he
      have hk : putK (asc L) t (some (o.t, o.n)) most = 0 := by
        unfold putK
        simp only
        rw [if_pos he, if_neg (by omega)]
      have hin : t ∈ ts := het ▸ hb
      have hsub : ∀ u ∈ ts ++ [t], u ∈ ts := fun u hu => by
        rcases List.mem_append.1 hu with hu | hu
        · exact hu
        · rw [List.mem_singleton.1 hu]; exact hin
      refine .inr ⟨hk, hnc.sub hsub, ?_⟩
      unfold putL
      rw [hgl, if_pos hk]
      simp only
      unfold setL
      refine ⟨by have := hg.len; simp; omega, fun p hp => ?_, fun u hu => ?_⟩
      · obtain ⟨q, hq, rfl⟩ := List.mem_map.1 hp
        obtain ⟨qa, qb, qc⟩ := hg.own q hq
        by_cases hqd : q.d = dg t
        · have hqo : q = o := by
            have hpw := List.pairwise_iff_getElem.1 hone
            obtain ⟨i, hi, rfl⟩ := List.mem_iff_getElem.1 hq
            obtain ⟨j, hj, rfl⟩ := List.mem_iff_getElem.1 ho
            rcases Nat.lt_trichotomy i j with h | h | h
            · exact absurd (hqd.trans hod.symm) (hpw i j hi hj h)
            · subst h; rfl
            · exact absurd (hod.trans hqd.symm) (hpw j i hj hi h)
          subst hqo
          rw [if_pos (by simpa using hqd)]
          refine ⟨qa, List.mem_append_left _ qb, ?_⟩
          show q.n + 1 = cnt (ts ++ [t]) q.d
          rw [cnt_snoc, if_pos hqd.symm, qc]; rfl
        · rw [if_neg (by simpa using hqd)]
          refine ⟨qa, List.mem_append_left _ qb, ?_⟩
          rw [cnt_snoc, if_neg (fun e => hqd e.symm), qc]; rfl
      · obtain ⟨q, hq, hqe⟩ := hg.all u (hsub u hu)
        refine ⟨_, List.mem_map.2 ⟨q, hq, rfl⟩, ?_⟩
        split
        · exact hqe
        · exact hqe
    · refine .inl ⟨?_, fun h => he ?_⟩
      · unfold putK
        simp only
        rw [if_neg he]
      · have : o.t = t := h o.t (List.mem_append_left _ hb) t (by simp) (ha.symm.trans hod)
        rw [this]
theorem runP_ok (hs : ∀ t ∈ ts, t.size ≤ 140737488355328) : OkL (runP most ts) := by
  have key : ∀ (us : List ByteArray) (L : List One), OkL L → (∀ t ∈ us, t.size ≤ 140737488355328) → OkL (us.foldl (fun L t => putL L most t (dg t)) L) := by
    intro us
    induction us with
    | nil => intro L h _; exact h
    | cons u us ih => intro L h hs; exact ih _ (okL_put h (Dig.of_length _) (hs u (by simp))) (fun t ht => hs t (by simp [ht]))
  exact key ts [] OkL.nil hs
theorem got_run : ∀ (k : Nat), k ≤ ts.length → (∀ t ∈ ts, t.size ≤ 140737488355328) → NC ts → (ts.length : Int) ≤ most → ts.length ≤ 4294967295 → Got (ts.take k) (runP most (ts.take k))
  | 0, _, _, _, _, _ => ⟨by simp [runP], by simp [runP], by simp⟩
  | k + 1, hk, hs, hnc, h1, h2 => by
    have hg := got_run k (by omega) hs hnc h1 h2
    have hl : (ts.take k).length = k := by rw [List.length_take]; omega
    have e : ts.take (k + 1) = ts.take k ++ [ts[k]] := by rw [List.take_succ_eq_append_getElem]
    rw [e, runP_snoc]
    have hok := runP_ok (most := most) (ts := ts.take k) (fun t ht => hs t (List.mem_of_mem_take ht))
    rcases hg.put (most := most) hok.one (hnc.sub fun t ht => List.mem_of_mem_take ht) (by rw [hl]; omega) (by rw [hl]; omega) ts[k] with ⟨_, h⟩ | ⟨_, _, h⟩
    · exact absurd (hnc.sub fun t ht => List.mem_of_mem_take (e ▸ ht)) h
    · exact h
theorem got_runs (hs : ∀ t ∈ ts, t.size ≤ 140737488355328) (hnc : NC ts) (h1 : (ts.length : Int) ≤ most) (h2 : ts.length ≤ 4294967295) : Got ts (runP most ts) := by
  have := got_run ts.length (Nat.le_refl _) hs hnc h1 h2
  rwa [List.take_length] at this
/-- in either order the same things are held -/
theorem run_mem {us : List ByteArray} (hs : ∀ t ∈ ts, t.size ≤ 140737488355328) (hnc : NC ts) (h1 : (ts.length : Int) ≤ most) (h2 : ts.length ≤ 4294967295) (hp : us.Perm ts) : ∀ o ∈ runP most ts, o ∈ runP most us := by
  intro o ho
  have hm : ∀ t ∈ us, t ∈ ts := fun t ht => hp.mem_iff.1 ht
  have hl := hp.length_eq
  have g1 := got_runs hs hnc h1 h2
  have g2 := got_runs (ts := us) (most := most) (fun t ht => hs t (hm t ht)) (hnc.sub hm) (by omega) (by omega)
  obtain ⟨a, b, c⟩ := g1.own o ho
  obtain ⟨p, hp', hpd⟩ := g2.all o.t (hp.mem_iff.2 b)
  obtain ⟨a', b', c'⟩ := g2.own p hp'
  have hd : p.d = o.d := hpd.trans a.symm
  have ht : p.t = o.t := hnc p.t (hm _ b') o.t b (a'.symm.trans (hd.trans a))
  have hn : p.n = o.n := by
    rw [c, c', hd]
    have : cnt us o.d = cnt ts o.d := (hp.filter _).length_eq
    rw [this]
  have : p = o := by cases p; cases o; simp_all
  exact this ▸ hp'
theorem run_perm {us : List ByteArray} (hs : ∀ t ∈ ts, t.size ≤ 140737488355328) (hnc : NC ts) (h1 : (ts.length : Int) ≤ most) (h2 : ts.length ≤ 4294967295) (hp : us.Perm ts) : (runP most ts).Perm (runP most us) := by
  have hm : ∀ t ∈ us, t ∈ ts := fun t ht => hp.mem_iff.1 ht
  have hl := hp.length_eq
  have n1 : (runP most ts).Nodup := (runP_ok hs).one.imp fun h e => h (by rw [e])
  have n2 : (runP most us).Nodup := (runP_ok fun t ht => hs t (hm t ht)).one.imp fun h e => h (by rw [e])
  refine (List.perm_ext_iff_of_nodup n1 n2).2 fun o => ⟨run_mem hs hnc h1 h2 hp o, ?_⟩
  exact run_mem (ts := us) (fun t ht => hs t (hm t ht)) (hnc.sub hm) (by omega) (by omega) hp.symm o
theorem srt_perm {L M : List One} (h : L.Perm M) : srt L = srt M := by
  have hs := fun L : List One => List.pairwise_mergeSort (le := fun x y : List UInt8 => decide (x ≤ y)) (fun a b c h1 h2 => by simp only [decide_eq_true_eq] at *; exact List.le_trans h1 h2) (fun a b => by simpa using List.le_total a b) (L.map (·.d))
  refine List.Perm.eq_of_pairwise (le := fun x y => decide (x ≤ y) = true) (fun a b _ _ h1 h2 => List.le_antisymm (by simpa using h1) (by simpa using h2)) (hs L) (hs M) ?_
  exact (List.mergeSort_perm _ _).trans ((h.map _).trans (List.mergeSort_perm _ _).symm)
theorem srt_mem {L : List One} {d : List UInt8} (h : d ∈ srt L) : ∃ o ∈ L, o.d = d := by
  have := (List.mergeSort_perm (L.map (·.d)) fun x y => decide (x ≤ y)).mem_iff.1 h
  obtain ⟨o, ho, he⟩ := List.mem_map.1 this
  exact ⟨o, ho, he⟩
/-- few things, and each of them seldom -/
structure Few (i : Nat) (L : List One) : Prop where
  len : L.length ≤ i
  num : ∀ o ∈ L, o.n ≤ i
theorem Few.put {i : Nat} (h : Few i L) (h1 : (i : Int) < most) (h2 : i < 4294967295) (t : ByteArray) (d : List UInt8) :
    (putK (asc L) t (getL L d) most = 60 ∨ putK (asc L) t (getL L d) most = 0) ∧ Few (i + 1) (putL L most t d) := by
  have hlen := h.len
  refine ⟨?_, ⟨Nat.le_trans (putL_length L most t d) (by omega), fun o ho => ?_⟩⟩
  · cases hgl : getL L d with
    | none =>
      right
      unfold putK
      simp only [asc_length]
      rw [if_neg]
      omega
    | some x =>
      obtain ⟨o, ho, hod, rfl⟩ := getL_some hgl
      have := h.num o ho
      unfold putK
      simp only
      by_cases he : o.t.data.toList = t.data.toList
      · right; rw [if_pos he, if_neg (by omega)]
      · left; rw [if_neg he]
  · unfold putL at ho
    split at ho
    · cases hgl : getL L d with
      | none =>
        rw [hgl] at ho
        rcases List.mem_append.1 ho with ho | ho
        · have := h.num o ho; omega
        · rw [List.mem_singleton.1 ho]; show (1 : Int) ≤ _; omega
      | some x =>
        obtain ⟨p, hp, hpd, rfl⟩ := getL_some hgl
        rw [hgl] at ho
        have hpn := h.num p hp
        obtain ⟨q, hq, rfl⟩ := List.mem_map.1 ho
        have := h.num q hq
        split
        · show p.n + 1 ≤ _; omega
        · omega
    · have := h.num o ho; omega
end
end Go.Proofs.Ytioanppnkhiokaa

/-
  What holds while things are laid into two stores and into the reference.
-/
namespace Go.Proofs.Ytioanppnkhiokaa
open Go.RowKit

/-- texts that are handed in -/
structure StrsIn (w : World) (B : Nat) (ts : List ByteArray) (A : Option Addr) (n c : Nat) : Prop where
  len : n = ts.length
  ok : ∀ t ∈ ts, t.size ≤ 1048576
  rd : Reads w B 1 A n (ts.map Value.string)
section
variable {w w' : World} {B : Nat} {ts : List ByteArray} {A : Option Addr} {n c : Nat}
theorem StrsIn.below (h : StrsIn w B ts A n c) (hb : Below B w w') : StrsIn w' B ts A n c := ⟨h.len, h.ok, h.rd.below hb⟩
theorem StrsIn.at_ (h : StrsIn w B ts A n c) (hp : 0 < n) : ∃ g o, A = some ⟨g, o, none⟩ ∧ g < B ∧ ∀ k, (hk : k < ts.length) → w.cell? ⟨g, o + k, none⟩ = some (.string ts[k]) := by
  obtain ⟨g, o, e, hg, hc⟩ := h.rd.2 hp
  exact ⟨g, o, e, hg, fun k hk => hc k _ (by simp [hk])⟩
end
/-- two stores, and the reference -/
structure OrdM (w : World) (R : Nat) (most : Int) (M1 : List One) (S1 b1 : Nat) (L : List One) (A : Option Addr) (n c : Nat) (M2 : List One) (S2 b2 : Nat) (W : World) : Prop where
  s1 : StoreIs W S1 b1 most (asc M1)
  s2 : StoreIs W S2 b2 most (asc M2)
  r : Blk W R 45 #[.int .i64 most, .slice A n c]
  rf : RefIs W W.heap.size L A n c
  bel : Below w.heap.size w W
  lo : w.heap.size ≤ b1 ∧ w.heap.size ≤ b2 ∧ w.heap.size ≤ R
  nb : b1 ≠ b2
section
variable {w W W' : World} {R : Nat} {most : Int} {M1 M2 L M' : List One} {S1 b1 S2 b2 : Nat} {A A' : Option Addr} {n c n' c' : Nat}
theorem StoreIs.map_ne {m : Assoc} {S b : Nat} (h : StoreIs W S b most m) {q : Nat} {t : TypeId} {cs : Array Value} (hq : Blk W q t cs) : q ≠ b := by
  intro e
  obtain ⟨es, clock, hb, _⟩ := h.map.ex
  unfold Blk at hq
  rw [e, hb] at hq
  cases hq
theorem OrdM.step (h : OrdM w R most M1 S1 b1 L A n c M2 S2 b2 W) (hb : Below W.heap.size W W') : OrdM w R most M1 S1 b1 L A n c M2 S2 b2 W' :=
  ⟨h.s1.step hb, h.s2.step hb, h.r.below hb h.r.lt, (h.rf.below hb).more hb.size, h.bel.trans (hb.mono h.bel.size), h.lo, h.nb⟩
theorem OrdM.turn1 (h : OrdM w R most M1 S1 b1 L A n c M2 S2 b2 W) (hst : StoreIs W' S1 b1 most (asc M')) (hg : W.grownBy W' (some b1)) : OrdM w R most M' S1 b1 L A n c M2 S2 b2 W' :=
  ⟨hst, h.s2.grown hg (h.s1.map_ne h.s2.cells) (Ne.symm h.nb), h.r.grown hg (h.s1.map_ne h.r), (h.rf.grown h.s1.map hg (Nat.le_refl _)).more hg.size, below_grown h.bel hg h.lo.1 h.bel.size, h.lo, h.nb⟩
theorem OrdM.turn2 (h : OrdM w R most M1 S1 b1 L A n c M2 S2 b2 W) (hst : StoreIs W' S2 b2 most (asc M')) (hg : W.grownBy W' (some b2)) : OrdM w R most M1 S1 b1 L A n c M' S2 b2 W' :=
  ⟨h.s1.grown hg (h.s2.map_ne h.s1.cells) h.nb, hst, h.r.grown hg (h.s2.map_ne h.r), (h.rf.grown h.s2.map hg (Nat.le_refl _)).more hg.size, below_grown h.bel hg h.lo.2.1 h.bel.size, h.lo, h.nb⟩
theorem OrdM.sto (h : OrdM w R most M1 S1 b1 L A n c M2 S2 b2 W) (hr : RefIs W W.heap.size M' A' n' c') : OrdM w R most M1 S1 b1 M' A' n' c' M2 S2 b2 (W.setRow R #[.int .i64 most, .slice A' n' c']) := by
  have hne : ∀ {S b : Nat} {m : Assoc}, StoreIs W S b most m → S ≠ R := fun hs e => by
    have h1 := hs.cells
    have h2 := h.r
    unfold Blk at h1 h2
    rw [e, h2] at h1
    simp at h1
  have hs : ∀ {S b : Nat} {m : Assoc}, StoreIs W S b most m → StoreIs (W.setRow R #[.int .i64 most, .slice A' n' c']) S b most m := fun hs =>
    ⟨hs.cells.row_far _ (hne hs), hs.map.of_block (setRow_other _ _ _ _ (Ne.symm (hs.map_ne h.r))), hs.ne⟩
  exact ⟨hs h.s1, hs h.s2, h.r.row _, (hr.far h.r (by simp) _).more (by simp), below_row h.bel h.lo.2.2 _, h.lo, h.nb⟩
end
/-- the answers' places, while the reference's call is made -/
structure PutT (wr : World) (M' : List One) (T1 T2 : Nat) (A' : Option Addr) (n' c' : Nat) (W : World) : Prop where
  bel : Below wr.heap.size wr W
  t1 : Blk W T1 45 #[.int .i64 0, .slice none 0 0]
  t2 : ∃ cs : Array Value, Blk W T2 30 cs ∧ cs.size = 32
  rf : RefIs W W.heap.size M' A' n' c'
  l1 : wr.heap.size ≤ T1
  l2 : wr.heap.size ≤ T2
  ne : T1 ≠ T2
section
variable {P : Program} {md : Region.Mode} {Q : Exit → Act → World → Prop} {S : World → Prop}
theorem hThree {l r r' r'' : List Oper} {i i' i'' : Nat} {o o' o'' : Oper} {fuel : Nat} {listed : Array Bool} {a : Act} {w : World} (hi : l.drop i = o :: r) (hi' : l.drop i' = o' :: r') (hi'' : l.drop i'' = o'' :: r'') (hr : Region.ready md l.toArray listed = [i, i', i''])
    (h : ∀ K' : Act → World → Prop, Shut (∀ a w, S w → (S w → wpAnyH P md l.toArray Q S fuel (listed.setIfInBounds i true) a w) → K' a w) → if Region.wanted o (yielded l.toArray a.tmps) = true then Oper.wp P o a w K' Q else K' (a.put o.dst undef) w)
    (h' : ∀ K' : Act → World → Prop, Shut (∀ a w, S w → (S w → wpAnyH P md l.toArray Q S fuel (listed.setIfInBounds i' true) a w) → K' a w) → if Region.wanted o' (yielded l.toArray a.tmps) = true then Oper.wp P o' a w K' Q else K' (a.put o'.dst undef) w)
    (h'' : ∀ K' : Act → World → Prop, Shut (∀ a w, S w → (S w → wpAnyH P md l.toArray Q S fuel (listed.setIfInBounds i'' true) a w) → K' a w) → if Region.wanted o'' (yielded l.toArray a.tmps) = true then Oper.wp P o'' a w K' Q else K' (a.put o''.dst undef) w) :
    wpAnyH P md l.toArray Q S (fuel + 1) listed a w :=
  wpAnyH_ready hr (by simp) (AllReadyH.cons (at_drop hi) h (AllReadyH.cons (at_drop hi') h' (AllReadyH.cons (at_drop hi'') h'' AllReadyH.nil)))
end
theorem anyH_at {P : Program} {md : Region.Mode} {ops : Array Oper} {Q : Exit → Act → World → Prop} {S : World → Prop} {fuel : Nat} {listed : Array Bool} {a : Act} {w : World} (I : World → Prop) (hI : I w) (hS : S w) (h : ∀ w2, I w2 → S w2 → wpAnyH P md ops Q S fuel listed a w2) : wpAnyH P md ops Q S fuel listed a w := h w hI hS
theorem use_tail {p : Prop} {G C : Nat → Nat → Option Addr → Nat → Nat → World → Prop} (h : (∀ a b c d e f, C a b c d e f → G a b c d e f) → p) (t : ∀ a b c d e f, C a b c d e f → G a b c d e f) : p := h t
theorem few_run {ts : List ByteArray} {most : Int} : ∀ k, k ≤ ts.length → (ts.length : Int) ≤ most → ts.length ≤ 4294967295 → Few k (runP most (ts.take k))
  | 0, _, _, _ => ⟨by simp [runP], by simp [runP]⟩
  | k + 1, hk, h1, h2 => by
    have e : ts.take (k + 1) = ts.take k ++ [ts[k]] := by rw [List.take_succ_eq_append_getElem]
    rw [e, runP_snoc]
    exact ((few_run k (by omega) h1 h2).put (by omega) (by omega) ts[k] (dg ts[k])).2
theorem run_take_succ {ts : List ByteArray} {k : Nat} (hk : k < ts.length) (most : Int) : runP most (ts.take (k + 1)) = putL (runP most (ts.take k)) most ts[k] (dg ts[k]) := by
  have e : ts.take (k + 1) = ts.take k ++ [ts[k]] := by rw [List.take_succ_eq_append_getElem]
  rw [e, runP_snoc]
end Go.Proofs.Ytioanppnkhiokaa

/-
  Texts that are handed in.
-/
namespace Go.Proofs.Ytioanppnkhiokaa
open Go.RowKit Go.WideShapes Go.ChangeShapes Go.ChangeAt Go.WideElems Go.Deep

set_option maxRecDepth 100000 in
/-- a slice of texts -/
theorem open_strings {H : Type} {enc : TypeId × Value → H} {W : World} {base : Nat} {sp : Nat → Bool} {hd : Bool} {v : Value} {d : DataW H} {p : List MemPlace} (hv : Value.okWide Try.prog W .any base 41 v) (h : DataW.Trod enc Try.prog W 0 sp hd 41 v d p) :
    ∃ (A : Option Addr) (n c : Nat) (ys : List ByteArray), v = .slice A n c ∧ (Rows.uptoBulk d ≤ 1048576 → StrsIn W W.heap.size ys A n c ∧ n ≤ 1048576) := by
  obtain ⟨A0, n0, c0, rfl⟩ := okWide_slice Try.underlying41 hv
  obtain ⟨fuel, h⟩ := h
  rcases open_slice Try.underlying41 h with ⟨hcs, _⟩ | ⟨a, len, cap, m, n, D, Pl, hcs, _, hl, hm, hmm, hdp, hi⟩
  · simp only [Value.cells, List.cons.injEq, Value.slice.injEq, and_true] at hcs
    obtain ⟨rfl, rfl, rfl⟩ := hcs
    exact ⟨none, 0, 0, [], rfl, fun _ => ⟨⟨rfl, by simp, Reads.none_⟩, Nat.zero_le _⟩⟩
  · simp only [Value.cells, List.cons.injEq, Value.slice.injEq, and_true] at hcs
    obtain ⟨rfl, rfl, rfl⟩ := hcs
    obtain rfl := congrArg Prod.fst hdp
    have hlm : n0 ≤ m := by rw [hmm]; split <;> omega
    have hc1 : Try.prog.cellsOf 9 = 1 := by kernel_rfl
    rw [hc1] at hi
    have hel : ∀ i, i < n0 → ∃ y : ByteArray, W.cell? (a.add i) = some (.string y) ∧ y.size ≤ Rows.uptoBulk (D i) := by
      intro i h
      obtain ⟨cs', hcs, ht⟩ := hi i (by omega)
      obtain ⟨s, rfl, hsx, _⟩ := DataW.trod_string Try.underlying9 ht
      obtain ⟨_, hcl, hat⟩ := World.cells?_some hcs
      have h1 := hat 0 (by omega)
      rw [Nat.mul_one] at h1
      have hsz : s.data.toList.length = s.size := Array.length_toList
      refine ⟨s, ?_, ?_⟩
      · simpa [Go.Deep.add_add] using h1
      · have e : D i = .lit (.string s.data.toList) := congrArg Prod.fst hsx
        rw [e, ← hsz]
        exact bulk_text _
    clear hi hmm
    have key : ∀ k, k ≤ n0 → ∃ ys : List ByteArray, ys.length = k ∧ (∀ j u, (ys.map Value.string)[j]? = some u → W.cell? (a.add j) = some u) ∧ ∀ y ∈ ys, ∃ i, i < n0 ∧ y.size ≤ Rows.uptoBulk (D i) := by
      intro k
      induction k with
      | zero => intro _; exact ⟨[], rfl, fun j u hu => by simp at hu, by simp⟩
      | succ k ih =>
        intro hk
        obtain ⟨ys, h1, h3, h5⟩ := ih (by omega)
        obtain ⟨y, hcell, hbk⟩ := hel k (by omega)
        refine ⟨ys ++ [y], by simp [h1], fun j u hu => ?_, fun z hz => ?_⟩
        · rw [List.map_append, List.getElem?_append, List.length_map, h1] at hu
          split at hu
          · exact h3 j u hu
          · have hj : j = k := by
              have := (List.getElem?_eq_some_iff.1 hu).1
              simp at this
              omega
            subst hj
            rw [Nat.sub_self] at hu
            simp at hu
            rw [← hu]
            exact hcell
        · rcases List.mem_append.1 hz with h | h
          · exact h5 z h
          · rw [List.mem_singleton.1 h]; exact ⟨k, by omega, hbk⟩
    obtain ⟨ys, h1, h3, h5⟩ := key n0 (Nat.le_refl _)
    refine ⟨some a, n0, c0, ys, rfl, fun hk => ⟨⟨h1.symm, fun y hy => ?_, by simp [h1], fun hp => ?_⟩, ?_⟩⟩
    · obtain ⟨i, hi, hb⟩ := h5 y hy
      have h6 := bulk_mem (l := List.map D (List.range n0)) (d := D i) (List.mem_map.2 ⟨i, List.mem_range.2 hi, rfl⟩)
      have hk' : Rows.uptoBulk (.slice (List.map D (List.range n0)) (List.map (fun j => D (n0 + j)) (List.range (m - n0)))) ≤ 1048576 := hk
      rw [Rows.uptoBulk] at hk'
      omega
    · have h0 : (ys.map Value.string)[0]? = some ((ys.map Value.string)[0]'(by simp; omega)) := List.getElem?_eq_getElem _
      have hc0 := h3 0 _ h0
      obtain ⟨g, o, st⟩ := a
      have hst : st = none := by simpa [Addr.add] using World.cell?_spot hc0
      subst hst
      have hb : g < W.heap.size := World.block_lt_of_cell? W _ hc0
      refine ⟨g, o, rfl, hb, fun j u hu => ?_⟩
      rw [← Go.WideShapes.add_plain]
      exact h3 j u hu
    · have := dlen_bulk (H := H) (.slice (List.map D (List.range n0)) (List.map (fun j => D (n0 + j)) (List.range (m - n0))))
      have h7 : n0 ≤ Rows.uptoBulk (H := H) (.slice (List.map D (List.range n0)) (List.map (fun j => D (n0 + j)) (List.range (m - n0)))) := by simpa [dlen] using this
      exact Nat.le_trans h7 hk
end Go.Proofs.Ytioanppnkhiokaa
