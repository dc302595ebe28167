import Derived.Test.YtioanppnkhiokaaDb2
namespace Go.Proofs.Ytioanppnkhiokaa
open Go.RowKit

theorem bytes_Equal (x y : List UInt8) (A A' : Option Addr) (n n' c c' B B' : Nat) (w : World) (hx : Bytes w B A n c x) (hy : Bytes w B' A' n' c' y) :
    Calls Try.prog 28 #[.slice A n c, .slice A' n' c'] w fun e w' => e = .returned (.bool (decide (x = y))) ∧ w = w' := by
  have h1 := hx.toStr (P := Try.prog) Try.underlying26 Try.underlying5 9 Try.underlying9
  have h2 := hy.toStr (P := Try.prog) Try.underlying26 Try.underlying5 9 Try.underlying9
  clear hx hy
  go_enter Try.func28, Try.ntmps28
  go_wp2
  go_ret
  exact ⟨ret_bool (by by_cases e : x = y <;> simp [e]), rfl⟩
theorem text_method (n : Nat) (t : ByteArray) (w : World) : (method (n + 1) 25 (.string t) "Bytes").run Try.prog w = .ok (10, .string t) w := by kernel_rfl
/-- what Put sees: where its answer and the digest lie, the store, the text's bytes -/
structure PutI (w : World) (R D S b : Nat) (most : Int) (m : Assoc) (g c : Nat) (t : ByteArray) (d : List UInt8) (wr : World) : Prop where
  r : Blk wr R 30 (row32 zero32)
  dd : Blk wr D 30 (row32 d)
  st : StoreIs wr S b most m
  txt : Bytes wr (D + 1) (some ⟨g, 0, none⟩) t.data.toList.length c t.data.toList
  ne : R < D
  rl : w.heap.size ≤ R
  bel : Below w.heap.size w wr
  sl : S < w.heap.size
  bl : b < w.heap.size
section
variable {w : World} {R D S b : Nat} {most : Int} {m : Assoc} {g c : Nat} {t : ByteArray} {d : List UInt8} {wr wx : World}
theorem PutI.step (h : PutI w R D S b most m g c t d wr) (hb : Below (D + 1) wr wx) : PutI w R D S b most m g c t d wx := by
  have h1 := h.ne
  have h2 := h.rl
  have h3 := h.sl
  have h4 := h.bl
  exact ⟨h.r.below hb (by omega), h.dd.below hb (by omega), h.st.below hb (by omega) (by omega), h.txt.below hb, h.ne, h.rl, h.bel.trans (hb.mono (by omega)), h.sl, h.bl⟩
theorem PutI.alloc (h : PutI w R D S b most m g c t d wr) (o : Obj) : PutI w R D S b most m g c t d (wr.alloc o) := h.step ((Below.refl _ _).alloc h.dd.lt o)
theorem PutI.drew (h : PutI w R D S b most m g c t d wr) : PutI w R D S b most m g c t d wr.drew := h.step (Below.refl _ _).drew
theorem PutI.look (h : PutI w R D S b most m g c t d wr) (v : Option (ByteArray × Int)) (hd : d.length = 32) (hv : m.get d = v.map fun x => held x.1 x.2) :
    (Instr.lookup 75 (.map (some b)) (.agg (bv d).toArray) true).run Try.prog wr = .ok (.tuple #[.agg #[.string (v.getD (⟨#[]⟩, 0)).1, .int .i64 (v.getD (⟨#[]⟩, 0)).2], .bool v.isSome]) wr := by
  have := h.st.map.lookup Try.underlying75 (zero_held _) d hd
  rw [told_held hv] at this
  exact this
end
theorem grown_below {w w' : World} {b : Nat} (h : Below w.heap.size w w') : w.grownBy w' (some b) := ⟨h.os, h.tape, h.output, h.size, fun k hk _ => h.block k hk⟩
theorem grown_trans {w w1 w2 : World} {b : Nat} (h : Below w.heap.size w w1) (hg : w1.grownBy w2 (some b)) : w.grownBy w2 (some b) :=
  ⟨hg.os.trans h.os, hg.tape.trans h.tape, hg.output.trans h.output, Nat.le_trans h.size hg.size, fun k hk hne => (hg.block k (Nat.lt_of_lt_of_le hk h.size) hne).trans (h.block k hk)⟩
theorem grown_row {w w1 : World} {b g : Nat} (h : w.grownBy w1 (some b)) (hg : w.heap.size ≤ g) (cs : Array Value) : w.grownBy (w1.setRow g cs) (some b) :=
  ⟨h.os, h.tape, h.output, by simp; exact h.size, fun k hk hne => (setRow_other w1 g k cs (by omega)).trans (h.block k hk hne)⟩
theorem bytes_ext {a b : ByteArray} (h : a.data.toList = b.data.toList) : a = b := by
  cases a; cases b
  simp only at h
  congr 1
  exact Array.ext' h
/-- what Put tells, and what it lays in -/
def putK (m : Assoc) (t : ByteArray) (v : Option (ByteArray × Int)) (most : Int) : Int :=
  match v with
  | none => if most ≤ (m.length : Int) then 62 else 0
  | some (t', n) => if t'.data.toList = t.data.toList then (if 4294967295 ≤ n then 62 else 0) else 60
def putX (m : Assoc) (d : List UInt8) (t : ByteArray) (v : Option (ByteArray × Int)) (most : Int) : List UInt8 := if putK m t v most = 0 then d else zero32
def putM (m : Assoc) (d : List UInt8) (t : ByteArray) (v : Option (ByteArray × Int)) (most : Int) : Assoc :=
  if putK m t v most = 0 then m.put d (held t ((v.getD (⟨#[]⟩, 0)).2 + 1)) else m
/-- what Put leaves -/
def PutPost (w : World) (S b : Nat) (most : Int) (m : Assoc) (x : List UInt8) (k : Int) (e : Ending) (w' : World) : Prop :=
  e = .returned (.tuple #[digV x, .int .i64 k]) ∧ StoreIs w' S b most m ∧ w.grownBy w' (some b)
set_option maxRecDepth 100000 in
set_option maxHeartbeats 2000000 in
theorem db_Put (S b : Nat) (most : Int) (m : Assoc) (t : ByteArray) (v : Option (ByteArray × Int)) (w : World) (h : StoreIs w S b most m) (ht : t.size ≤ 140737488355328) (d : List UInt8) (hd : Dig.of t.data.toList = d) (hv : m.get d = v.map fun x => held x.1 x.2)
    (hvs : ∀ x, v = some x → x.1.size ≤ 140737488355328 ∧ 0 ≤ x.2 ∧ x.2 ≤ 4294967295) :
    Calls Try.prog 12 #[.pointer (some ⟨S, 0, none⟩), .string t] w (PutPost w S b most (putM m d t v most) (putX m d t v most) (putK m t v most)) := by
  have tm := text_method
  have hol := Dig.of_length t.data.toList
  rw [hd] at hol
  have hsz : t.data.toList.length = t.size := Array.length_toList
  have HD := Lib.hid hd
  clear hd
  replace hvs := Lib.hid hvs
  have hlk := fun R D g c W (hW : PutI w R D S b most m g c t d W) => hW.look v hol hv
  clear hv
  have hvv : v = (if v.isSome then some (v.getD (⟨#[]⟩, 0)) else none) := by cases v <;> rfl
  have hv0 : v.isSome = false → (v.getD (⟨#[]⟩, 0)).2 = 0 := by cases v <;> simp
  generalize v.isSome = is at *
  generalize v.getD (⟨#[]⟩, 0) = vv at *
  obtain ⟨t', n'⟩ := vv
  replace hvv := Lib.hid hvv
  replace hv0 := Lib.hid hv0
  replace hlk := Lib.hid hlk
  replace h := Lib.hid h
  have HT := Lib.hid ht
  clear ht
  go_enter Try.func12, Try.ntmps12
  go_wp2_with fail
  refine calls_at (fun wx => Blk wx w.heap.size 30 (row32 zero32) ∧ StoreIs wx S b most m ∧ Below w.heap.size w wx) ⟨Blk.zeros _ _ _ rfl, h.out.alloc _, (Below.refl _ _).alloc (Nat.le_refl _) _⟩ ?_
  rintro w0 ⟨hr, hst, hbel⟩
  refine (db_Bytes t _ HT.out).mono ?_
  rintro e w1 ⟨g, c, rfl, hg, hby, -, hb1⟩
  have hr0 := hr.lt
  have hs0 := hbel.size
  replace hr := Lib.hid (hr.below hb1 hr0)
  replace hst := Lib.hid (hst.step hb1)
  replace hbel := Lib.hid (hbel.trans (hb1.mono hs0))
  clear hb1
  replace hby := Lib.hid hby
  go_wp2_with fail
  refine (dig_Of t.data.toList _ _ _ _ hby.out (by rw [hsz]; exact HT.out)).mono ?_
  rintro e w2 ⟨rfl, hb2⟩
  rw [HD.out]
  replace hr := Lib.hid (hr.out.below hb2 hr.out.lt)
  replace hst := Lib.hid (hst.out.step hb2)
  replace hbel := Lib.hid (hbel.out.trans (hb2.mono hbel.out.size))
  replace hby := Lib.hid (hby.out.step hb2)
  clear hb2
  unfold digV
  have hsd := row32_size hol
  have hsq := Lib.hid h.out.cells.lt
  go_wp2_with (refine wpList_store_row rfl 30 _ _ rfl w2.heap.size (row32 d) rfl rfl _ _ (Blk.zeros w2 _ 30 rfl) (by rw [hsd]; exact info_digest) (by rw [hsd]; rfl) (row32_one _) ?_)
  refine code_at (PutI w w.heap.size w2.heap.size S b most m g c t d) ?_ ?_
  · have hb3 := below_row ((Below.refl w2.heap.size w2).alloc (Nat.le_refl _) (.cells (bv zero32).toArray 30)) (Nat.le_refl _) (row32 d)
    exact ⟨hr.out.below hb3 hr.out.lt, ((Blk.zeros w2 _ 30 rfl).row _), hst.out.step hb3, (hby.out.below hb3).more (Nat.le_succ _), hr.out.lt, Nat.le_refl _, hbel.out.trans (hb3.mono hbel.out.size), h.out.cells.lt, h.out.map.lt⟩
  clear hr hst hbel hby hsq
  generalize w2.heap.size = D at *
  intro w3 hp
  have hS1 := hp.st.cells.cell 1
  replace hlk := Lib.hid (fun W hW => hlk.out _ _ _ _ W hW : ∀ W, PutI w w.heap.size D S b most m g c t d W → _)
  replace hp := Lib.hid hp
  refine wp_region_held_drew (S := (PutI w w.heap.size D S b most m g c t d)) (by kernel_rfl) (by exact hp.out.drew) (fun hS => ?_)
  (refine hTake (i := 0) (v := ?v1) rfl (by kernel_rfl) (by kernel_rfl) (by kernel_rfl) (fun _ _ _ h => h) (Or.inl ⟨by rfl, ?y1⟩) hS ?r1; (case y1 => (intro W hW; (go_simp); (try with_reducible rfl); done)); try simp only [Act.put, List.setIfInBounds_toArray, List.set_cons_zero, List.set_cons_succ])
  (refine hTake (i := 1) (v := ?v2) rfl (by kernel_rfl) (by kernel_rfl) (by kernel_rfl) (fun _ _ _ h => h) (Or.inl ⟨by rfl, ?y2⟩) hS ?r2; (case y2 => (intro W hW; (go_simp); (try with_reducible rfl); done)); try simp only [Act.put, List.setIfInBounds_toArray, List.set_cons_zero, List.set_cons_succ])
  (refine hTake (i := 2) (v := ?v3) rfl (by kernel_rfl) (by kernel_rfl) (by kernel_rfl) (fun _ _ _ h => h) (Or.inl ⟨by rfl, ?y3⟩) hS ?r3; (case y3 => (intro W hW; (go_simp); (try with_reducible rfl); done)); try simp only [Act.put, List.setIfInBounds_toArray, List.set_cons_zero, List.set_cons_succ])
  (refine hTake (i := 3) (v := ?v4) rfl (by kernel_rfl) (by kernel_rfl) (by kernel_rfl) (fun _ _ _ h => h) (Or.inl ⟨by rfl, ?y4⟩) hS ?r4; (case y4 => (intro W hW; ((have g := hW.st.cells.cell 1; simp at g; go_simp)); (try with_reducible rfl); done)); try simp only [Act.put, List.setIfInBounds_toArray, List.set_cons_zero, List.set_cons_succ])
  (refine hTake (i := 4) rfl (by kernel_rfl) (by kernel_rfl) (by kernel_rfl) (fun _ _ _ h => h) (yieldsIf_load_mid (by rfl) _ _ rfl _ _ rfl (bv d) _ (fun W hW => (hW.dd.range)) Try.underlying30 rfl (by rw [bv_length, hol]; exact info_digest)) hS ?_; try simp only [Act.put, List.setIfInBounds_toArray, List.set_cons_zero, List.set_cons_succ])
  (refine hTake (i := 5) (v := ?v5) rfl (by kernel_rfl) (by kernel_rfl) (by kernel_rfl) (fun _ _ _ h => h) (Or.inl ⟨by rfl, ?y5⟩) hS ?r5; (case y5 => (intro W hW; ((have g := hlk.out W hW; go_simp)); (try with_reducible rfl); done)); try simp only [Act.put, List.setIfInBounds_toArray, List.set_cons_zero, List.set_cons_succ])
  (refine hTake (i := 6) (v := ?v6) rfl (by kernel_rfl) (by kernel_rfl) (by kernel_rfl) (fun _ _ _ h => h) (Or.inl ⟨by rfl, ?y6⟩) hS ?r6; (case y6 => (intro W hW; (go_simp); (try with_reducible rfl); done)); try simp only [Act.put, List.setIfInBounds_toArray, List.set_cons_zero, List.set_cons_succ])
  (refine hTake (i := 7) (v := ?v7) rfl (by kernel_rfl) (by kernel_rfl) (by kernel_rfl) (fun _ _ _ h => h) (Or.inl ⟨by rfl, ?y7⟩) hS ?r7; (case y7 => (intro W hW; (go_simp); (try with_reducible rfl); done)); try simp only [Act.put, List.setIfInBounds_toArray, List.set_cons_zero, List.set_cons_succ])
  (refine hTake (i := 8) (v := ?v8) rfl (by kernel_rfl) (by kernel_rfl) (by kernel_rfl) (fun _ _ _ h => h) (Or.inl ⟨by rfl, ?y8⟩) hS ?r8; (case y8 => (intro W hW; (go_simp); (try with_reducible rfl); done)); try simp only [Act.put, List.setIfInBounds_toArray, List.set_cons_zero, List.set_cons_succ])
  (refine hOne (i := 9) rfl (by kernel_rfl) (fun K hK => ?_))
  go_simp
  (refine hK.out _ _ (by exact (hp.out.alloc _).drew) (fun hS => ?_); clear hK K; try simp only [Act.put, List.setIfInBounds_toArray, List.set_cons_zero, List.set_cons_succ])
  (refine hOne (i := 10) rfl (by kernel_rfl) (fun K hK => ?_))
  go_simp
  (refine hK.out _ _ (by exact (hp.out.alloc _).drew) (fun hS => ?_); clear hK K; try simp only [Act.put, List.setIfInBounds_toArray, List.set_cons_zero, List.set_cons_succ])
  (refine hTake (i := 11) (v := ?v9) rfl (by kernel_rfl) (by kernel_rfl) (by kernel_rfl) (fun _ _ _ h => h) (Or.inl ⟨by rfl, ?y9⟩) hS ?r9; (case y9 => (intro W hW; (go_simp); (try with_reducible rfl); done)); try simp only [Act.put, List.setIfInBounds_toArray, List.set_cons_zero, List.set_cons_succ])
  refine wpAnyH_done (by kernel_rfl) ?_ _
  have hJ := Lib.hid ((Blk.new w3 73 #[.string t', .int .i64 n']).drew)
  have hJn := Lib.hid (show D < w3.heap.size from hp.out.dd.lt)
  replace hS := Lib.hid hS
  clear hp hS1
  rename_i hSa hSb
  clear hSa hSb
  generalize (w3.alloc (.cells #[.string t', .int .i64 n'] 73)).drew = w4 at *
  generalize w3.heap.size = Hb at *
  have a0 : w4.cell? ⟨S, 0, none⟩ = some (.int .i64 most) := hS.out.st.cells.cell 0
  have a1 : w4.cell? ⟨S, 1, none⟩ = some (.map (some b)) := hS.out.st.cells.cell 1
  have j0 : w4.cell? ⟨Hb, 0, none⟩ = some (.string t') := hJ.out.cell 0
  have j1 : w4.cell? ⟨Hb, 1, none⟩ = some (.int .i64 n') := hJ.out.cell 1
  cases is with
  | false =>
    have hv1 : v = none := hvv.out
    have hn0 : n' = 0 := hv0.out rfl
    subst hv1
    subst hn0
    by_cases hfull : most ≤ (m.length : Int)
    · have hfl : decide (most ≤ (m.length : Int)) = true := by simpa using hfull
      have e1 : putK m t none most = 62 := by simp [putK, hfull]
      have e2 : putX m d t none most = zero32 := by simp [putX, e1]
      have e3 : putM m d t none most = m := by simp [putM, e1]
      replace e1 := Lib.hid e1
      replace e2 := Lib.hid e2
      replace e3 := Lib.hid e3
      go_wp2_with fail
      clear a0 a1 j0 j1
      have hP := hS
      clear hS
      refine wp_region_held_drew (S := (PutI w w.heap.size D S b most m g c t d)) (by kernel_rfl) (by exact hP.out.drew) (fun hS => ?_)
      (refine hTake (i := 0) (v := ?v10) rfl (by kernel_rfl) (by kernel_rfl) (by kernel_rfl) (fun _ _ _ h => h) (Or.inl ⟨by rfl, ?y10⟩) hS ?r10; (case y10 => (intro W hW; (go_simp); (try with_reducible rfl); done)); try simp only [Act.put, List.setIfInBounds_toArray, List.set_cons_zero, List.set_cons_succ])
      (refine hTake (i := 1) (v := ?v11) rfl (by kernel_rfl) (by kernel_rfl) (by kernel_rfl) (fun _ _ _ h => h) (Or.inl ⟨by rfl, ?y11⟩) hS ?r11; (case y11 => (intro W hW; (go_simp); (try with_reducible rfl); done)); try simp only [Act.put, List.setIfInBounds_toArray, List.set_cons_zero, List.set_cons_succ])
      (refine hTake (i := 2) (v := ?v12) rfl (by kernel_rfl) (by kernel_rfl) (by kernel_rfl) (fun _ _ _ h => h) (Or.inl ⟨by rfl, ?y12⟩) hS ?r12; (case y12 => (intro W hW; (go_simp); (try with_reducible rfl); done)); try simp only [Act.put, List.setIfInBounds_toArray, List.set_cons_zero, List.set_cons_succ])
      (refine hTake (i := 3) (v := ?v13) rfl (by kernel_rfl) (by kernel_rfl) (by kernel_rfl) (fun _ _ _ h => h) (Or.inl ⟨by rfl, ?y13⟩) hS ?r13; (case y13 => (intro W hW; (go_simp); (try with_reducible rfl); done)); try simp only [Act.put, List.setIfInBounds_toArray, List.set_cons_zero, List.set_cons_succ])
      (refine hTake (i := 4) (v := ?v14) rfl (by kernel_rfl) (by kernel_rfl) (by kernel_rfl) (fun _ _ _ h => h) (Or.inl ⟨by rfl, ?y14⟩) hS ?r14; (case y14 => (intro W hW; (go_simp); (try with_reducible rfl); done)); try simp only [Act.put, List.setIfInBounds_toArray, List.set_cons_zero, List.set_cons_succ])
      (refine hTake (i := 5) (v := ?v15) rfl (by kernel_rfl) (by kernel_rfl) (by kernel_rfl) (fun _ _ _ h => h) (Or.inl ⟨by rfl, ?y15⟩) hS ?r15; (case y15 => (intro W hW; (go_simp); (try with_reducible rfl); done)); try simp only [Act.put, List.setIfInBounds_toArray, List.set_cons_zero, List.set_cons_succ])
      (refine hTake (i := 6) (v := ?v16) rfl (by kernel_rfl) (by kernel_rfl) (by kernel_rfl) (fun _ _ _ h => h) (Or.inl ⟨by rfl, ?y16⟩) hS ?r16; (case y16 => (intro W hW; ((have g := hW.st.cells.cell 1; simp at g; go_simp)); (try with_reducible rfl); done)); try simp only [Act.put, List.setIfInBounds_toArray, List.set_cons_zero, List.set_cons_succ])
      (refine hTake (i := 7) (v := ?v17) rfl (by kernel_rfl) (by kernel_rfl) (by kernel_rfl) (fun _ _ _ h => h) (Or.inl ⟨by rfl, ?y17⟩) hS ?r17; (case y17 => (intro W hW; ((have g1 := run_len_map (ty := 3) Try.underlying75 hW.st.map; simp [execOp, resolve, invoke, builtin, Act.eval, g1, Result.andThen])); (try with_reducible rfl); done)); try simp only [Act.put, List.setIfInBounds_toArray, List.set_cons_zero, List.set_cons_succ])
      (refine hTake (i := 8) (v := ?v18) rfl (by kernel_rfl) (by kernel_rfl) (by kernel_rfl) (fun _ _ _ h => h) (Or.inl ⟨by rfl, ?y18⟩) hS ?r18; (case y18 => (intro W hW; (go_simp); (try with_reducible rfl); done)); try simp only [Act.put, List.setIfInBounds_toArray, List.set_cons_zero, List.set_cons_succ])
      (refine hTake (i := 9) (v := ?v19) rfl (by kernel_rfl) (by kernel_rfl) (by kernel_rfl) (fun _ _ _ h => h) (Or.inl ⟨by rfl, ?y19⟩) hS ?r19; (case y19 => (intro W hW; (go_simp); (try with_reducible rfl); done)); try simp only [Act.put, List.setIfInBounds_toArray, List.set_cons_zero, List.set_cons_succ])
      (refine hTake (i := 10) (v := ?v20) rfl (by kernel_rfl) (by kernel_rfl) (by kernel_rfl) (fun _ _ _ h => h) (Or.inl ⟨by rfl, ?y20⟩) hS ?r20; (case y20 => (intro W hW; (go_simp); (try with_reducible rfl); done)); try simp only [Act.put, List.setIfInBounds_toArray, List.set_cons_zero, List.set_cons_succ])
      (refine hTake (i := 11) (v := ?v21) rfl (by kernel_rfl) (by kernel_rfl) (by kernel_rfl) (fun _ _ _ h => h) (Or.inl ⟨by rfl, ?y21⟩) hS ?r21; (case y21 => (intro W hW; ((have g := hW.st.cells.cell 0; simp at g; go_simp)); (try with_reducible rfl); done)); try simp only [Act.put, List.setIfInBounds_toArray, List.set_cons_zero, List.set_cons_succ])
      (refine hTake (i := 12) (v := ?v22) rfl (by kernel_rfl) (by kernel_rfl) (by kernel_rfl) (fun _ _ _ h => h) (Or.inl ⟨by rfl, ?y22⟩) hS ?r22; (case y22 => (intro W hW; (go_simp); (try with_reducible rfl); done)); try simp only [Act.put, List.setIfInBounds_toArray, List.set_cons_zero, List.set_cons_succ])
      (refine hTake (i := 13) (v := ?v23) rfl (by kernel_rfl) (by kernel_rfl) (by kernel_rfl) (fun _ _ _ h => h) (Or.inl ⟨by rfl, ?y23⟩) hS ?r23; (case y23 => (intro W hW; (go_simp); (try with_reducible rfl); done)); try simp only [Act.put, List.setIfInBounds_toArray, List.set_cons_zero, List.set_cons_succ])
      (refine hTake (i := 14) (v := ?v24) rfl (by kernel_rfl) (by kernel_rfl) (by kernel_rfl) (fun _ _ _ h => h) (Or.inl ⟨by rfl, ?y24⟩) hS ?r24; (case y24 => (intro W hW; (go_simp); (try with_reducible rfl); done)); try simp only [Act.put, List.setIfInBounds_toArray, List.set_cons_zero, List.set_cons_succ])
      refine wpAnyH_done (by kernel_rfl) ?_ _
      go_wp2_with (refine wpList_store_row rfl 30 _ _ rfl w.heap.size (row32 zero32) rfl rfl _ _ hS.r (by rw [row32_size rfl]; exact info_digest) rfl (row32_one _) ?_)
      refine bodyPost_ret (v := .tuple #[digV zero32, .int .i64 62]) (results_row_tmp rfl _ _ w.heap.size _ (row32 zero32) _ _ _ rfl rfl (hS.r.row _) Try.underlying30 rfl (by rw [row32_size rfl]; exact info_digest)) rfl ?_
      rw [e1.out, e2.out, e3.out]
      have hbb := below_row hS.bel (Nat.le_refl w.heap.size) (row32 zero32)
      exact ⟨rfl, h.out.step hbb, grown_below hbb⟩
    · have hfl : decide (most ≤ (m.length : Int)) = false := by simpa using hfull
      have e1 : putK m t none most = 0 := by simp [putK, hfull]
      have e2 : putX m d t none most = d := by simp [putX, e1]
      have e3 : putM m d t none most = m.put d (held t 1) := by simp [putM, e1]
      replace e1 := Lib.hid e1
      replace e2 := Lib.hid e2
      replace e3 := Lib.hid e3
      go_wp2_with fail
      clear a0 a1 j0 j1
      have hP := hS
      clear hS
      refine wp_region_held_drew (S := (PutI w w.heap.size D S b most m g c t d)) (by kernel_rfl) (by exact hP.out.drew) (fun hS => ?_)
      (refine hTake (i := 0) (v := ?v25) rfl (by kernel_rfl) (by kernel_rfl) (by kernel_rfl) (fun _ _ _ h => h) (Or.inl ⟨by rfl, ?y25⟩) hS ?r25; (case y25 => (intro W hW; (go_simp); (try with_reducible rfl); done)); try simp only [Act.put, List.setIfInBounds_toArray, List.set_cons_zero, List.set_cons_succ])
      (refine hTake (i := 1) (v := ?v26) rfl (by kernel_rfl) (by kernel_rfl) (by kernel_rfl) (fun _ _ _ h => h) (Or.inl ⟨by rfl, ?y26⟩) hS ?r26; (case y26 => (intro W hW; (go_simp); (try with_reducible rfl); done)); try simp only [Act.put, List.setIfInBounds_toArray, List.set_cons_zero, List.set_cons_succ])
      (refine hTake (i := 2) (v := ?v27) rfl (by kernel_rfl) (by kernel_rfl) (by kernel_rfl) (fun _ _ _ h => h) (Or.inl ⟨by rfl, ?y27⟩) hS ?r27; (case y27 => (intro W hW; (go_simp); (try with_reducible rfl); done)); try simp only [Act.put, List.setIfInBounds_toArray, List.set_cons_zero, List.set_cons_succ])
      (refine hTake (i := 3) (v := ?v28) rfl (by kernel_rfl) (by kernel_rfl) (by kernel_rfl) (fun _ _ _ h => h) (Or.inl ⟨by rfl, ?y28⟩) hS ?r28; (case y28 => (intro W hW; (go_simp); (try with_reducible rfl); done)); try simp only [Act.put, List.setIfInBounds_toArray, List.set_cons_zero, List.set_cons_succ])
      (refine hTake (i := 4) (v := ?v29) rfl (by kernel_rfl) (by kernel_rfl) (by kernel_rfl) (fun _ _ _ h => h) (Or.inl ⟨by rfl, ?y29⟩) hS ?r29; (case y29 => (intro W hW; (go_simp); (try with_reducible rfl); done)); try simp only [Act.put, List.setIfInBounds_toArray, List.set_cons_zero, List.set_cons_succ])
      (refine hTake (i := 5) (v := ?v30) rfl (by kernel_rfl) (by kernel_rfl) (by kernel_rfl) (fun _ _ _ h => h) (Or.inl ⟨by rfl, ?y30⟩) hS ?r30; (case y30 => (intro W hW; (go_simp); (try with_reducible rfl); done)); try simp only [Act.put, List.setIfInBounds_toArray, List.set_cons_zero, List.set_cons_succ])
      (refine hTake (i := 6) (v := ?v31) rfl (by kernel_rfl) (by kernel_rfl) (by kernel_rfl) (fun _ _ _ h => h) (Or.inl ⟨by rfl, ?y31⟩) hS ?r31; (case y31 => (intro W hW; ((have g := hW.st.cells.cell 1; simp at g; go_simp)); (try with_reducible rfl); done)); try simp only [Act.put, List.setIfInBounds_toArray, List.set_cons_zero, List.set_cons_succ])
      (refine hTake (i := 7) (v := ?v32) rfl (by kernel_rfl) (by kernel_rfl) (by kernel_rfl) (fun _ _ _ h => h) (Or.inl ⟨by rfl, ?y32⟩) hS ?r32; (case y32 => (intro W hW; ((have g1 := run_len_map (ty := 3) Try.underlying75 hW.st.map; simp [execOp, resolve, invoke, builtin, Act.eval, g1, Result.andThen])); (try with_reducible rfl); done)); try simp only [Act.put, List.setIfInBounds_toArray, List.set_cons_zero, List.set_cons_succ])
      (refine hTake (i := 8) (v := ?v33) rfl (by kernel_rfl) (by kernel_rfl) (by kernel_rfl) (fun _ _ _ h => h) (Or.inl ⟨by rfl, ?y33⟩) hS ?r33; (case y33 => (intro W hW; (go_simp); (try with_reducible rfl); done)); try simp only [Act.put, List.setIfInBounds_toArray, List.set_cons_zero, List.set_cons_succ])
      (refine hTake (i := 9) (v := ?v34) rfl (by kernel_rfl) (by kernel_rfl) (by kernel_rfl) (fun _ _ _ h => h) (Or.inl ⟨by rfl, ?y34⟩) hS ?r34; (case y34 => (intro W hW; (go_simp); (try with_reducible rfl); done)); try simp only [Act.put, List.setIfInBounds_toArray, List.set_cons_zero, List.set_cons_succ])
      (refine hTake (i := 10) (v := ?v35) rfl (by kernel_rfl) (by kernel_rfl) (by kernel_rfl) (fun _ _ _ h => h) (Or.inl ⟨by rfl, ?y35⟩) hS ?r35; (case y35 => (intro W hW; (go_simp); (try with_reducible rfl); done)); try simp only [Act.put, List.setIfInBounds_toArray, List.set_cons_zero, List.set_cons_succ])
      (refine hTake (i := 11) (v := ?v36) rfl (by kernel_rfl) (by kernel_rfl) (by kernel_rfl) (fun _ _ _ h => h) (Or.inl ⟨by rfl, ?y36⟩) hS ?r36; (case y36 => (intro W hW; ((have g := hW.st.cells.cell 0; simp at g; go_simp)); (try with_reducible rfl); done)); try simp only [Act.put, List.setIfInBounds_toArray, List.set_cons_zero, List.set_cons_succ])
      (refine hTake (i := 12) (v := ?v37) rfl (by kernel_rfl) (by kernel_rfl) (by kernel_rfl) (fun _ _ _ h => h) (Or.inl ⟨by rfl, ?y37⟩) hS ?r37; (case y37 => (intro W hW; (go_simp); (try with_reducible rfl); done)); try simp only [Act.put, List.setIfInBounds_toArray, List.set_cons_zero, List.set_cons_succ])
      (refine hTake (i := 13) (v := ?v38) rfl (by kernel_rfl) (by kernel_rfl) (by kernel_rfl) (fun _ _ _ h => h) (Or.inl ⟨by rfl, ?y38⟩) hS ?r38; (case y38 => (intro W hW; (go_simp); (try with_reducible rfl); done)); try simp only [Act.put, List.setIfInBounds_toArray, List.set_cons_zero, List.set_cons_succ])
      (refine hTake (i := 14) (v := ?v39) rfl (by kernel_rfl) (by kernel_rfl) (by kernel_rfl) (fun _ _ _ h => h) (Or.inl ⟨by rfl, ?y39⟩) hS ?r39; (case y39 => (intro W hW; (go_simp); (try with_reducible rfl); done)); try simp only [Act.put, List.setIfInBounds_toArray, List.set_cons_zero, List.set_cons_succ])
      refine wpAnyH_done (by kernel_rfl) ?_ _
      replace hS := Lib.hid hS
      have hJ4 := Lib.hid hJ.out.drew
      clear hP hJ
      generalize w4.drew = w5 at *
      have j0 : w5.cell? ⟨Hb, 0, none⟩ = some (.string t') := hJ4.out.cell 0
      have j1 : w5.cell? ⟨Hb, 1, none⟩ = some (.int .i64 0) := hJ4.out.cell 1
      have k0 := hJ4.out.frozen 0
      have k1 := hJ4.out.frozen 1
      go_wp2_with fail
      refine code_at (fun wx => PutI w w.heap.size D S b most m g c t d wx ∧ Blk wx Hb 73 #[.string t, .int .i64 1]) ⟨?_, ?_⟩ ?_
      · exact hS.out.step (((Below.refl _ _).setCell hJn.out _).setCell hJn.out _)
      · (apply Blk.eq; (repeat (first | with_reducible apply Blk.set_ | with_reducible apply Blk.drew | with_reducible exact hJ4.out)); rfl)
      clear hS hJ4 j0 j1 k0 k1
      rintro w6 ⟨hP, hJ⟩
      replace hP := Lib.hid hP
      replace hJ := Lib.hid hJ
      refine wp_region_held_drew (S := (fun wx => Blk wx S 77 #[.int .i64 most, .map (some b)] ∧ Blk wx D 30 (row32 d) ∧ Blk wx Hb 73 #[.string t, .int .i64 1])) (by kernel_rfl) (by exact ⟨hP.out.st.cells.drew, hP.out.dd.drew, hJ.out.drew⟩) (fun hS => ?_)
      (refine hTake (i := 0) (v := ?v40) rfl (by kernel_rfl) (by kernel_rfl) (by kernel_rfl) (fun _ _ _ h => h) (Or.inl ⟨by rfl, ?y40⟩) hS ?r40; (case y40 => (intro W hW; (go_simp); (try with_reducible rfl); done)); try simp only [Act.put, List.setIfInBounds_toArray, List.set_cons_zero, List.set_cons_succ])
      (refine hTake (i := 1) (v := ?v41) rfl (by kernel_rfl) (by kernel_rfl) (by kernel_rfl) (fun _ _ _ h => h) (Or.inl ⟨by rfl, ?y41⟩) hS ?r41; (case y41 => (intro W hW; (go_simp); (try with_reducible rfl); done)); try simp only [Act.put, List.setIfInBounds_toArray, List.set_cons_zero, List.set_cons_succ])
      (refine hTake (i := 2) (v := ?v42) rfl (by kernel_rfl) (by kernel_rfl) (by kernel_rfl) (fun _ _ _ h => h) (Or.inl ⟨by rfl, ?y42⟩) hS ?r42; (case y42 => (intro W hW; (go_simp); (try with_reducible rfl); done)); try simp only [Act.put, List.setIfInBounds_toArray, List.set_cons_zero, List.set_cons_succ])
      (refine hTake (i := 3) (v := ?v43) rfl (by kernel_rfl) (by kernel_rfl) (by kernel_rfl) (fun _ _ _ h => h) (Or.inl ⟨by rfl, ?y43⟩) hS ?r43; (case y43 => (intro W hW; ((have g := hW.1.cell 1; simp at g; go_simp)); (try with_reducible rfl); done)); try simp only [Act.put, List.setIfInBounds_toArray, List.set_cons_zero, List.set_cons_succ])
      (refine hTake (i := 4) rfl (by kernel_rfl) (by kernel_rfl) (by kernel_rfl) (fun _ _ _ h => h) (yieldsIf_load_mid (by rfl) _ _ rfl _ _ rfl (bv d) _ (fun W hW => (hW.2.1.range)) Try.underlying30 rfl (by rw [bv_length, hol]; exact info_digest)) hS ?_; try simp only [Act.put, List.setIfInBounds_toArray, List.set_cons_zero, List.set_cons_succ])
      (refine hTake (i := 5) (v := ?v44) rfl (by kernel_rfl) (by kernel_rfl) (by kernel_rfl) (fun _ _ _ h => h) (Or.inl ⟨by rfl, ?y44⟩) hS ?r44; (case y44 => (intro W hW; ((have g := hW.2.2.cell 0; have g' := hW.2.2.cell 1; simp at g g'; go_simp)); (try with_reducible rfl); done)); try simp only [Act.put, List.setIfInBounds_toArray, List.set_cons_zero, List.set_cons_succ])
      (refine hOne (i := 6) rfl (by kernel_rfl) (fun K hK => ?_))
      rw [if_pos (by rfl)]
      refine wp_update_map _ _ _ 75 rfl _ Try.underlying75 b m rfl hP.out.st.map.drew d hol (held t 1) rfl rfl ?_
      intro w7 hm7 hg7
      have hS7 : S ≠ b := hP.out.st.ne
      have hbl := hP.out.bl
      have hrl := hP.out.rl
      have hrd := hP.out.ne
      have hr7 := hP.out.r.drew.grown hg7 (by omega)
      have hd7 := hP.out.dd.drew.grown hg7 (by omega)
      have hc7 := hP.out.st.cells.drew.grown hg7 hS7
      have hgw := grown_trans hP.out.bel.drew hg7
      (refine hK.out _ _ (by exact ⟨hc7, hd7, hJ.out.drew.grown hg7 (by have := hJn.out; omega)⟩) (fun hS => ?_); clear hK K; try simp only [Act.put, List.setIfInBounds_toArray, List.set_cons_zero, List.set_cons_succ])
      refine wpAnyH_done (by kernel_rfl) ?_ _
      replace hr7 := Lib.hid hr7
      replace hd7 := Lib.hid hd7
      replace hc7 := Lib.hid hc7
      replace hgw := Lib.hid hgw
      replace hm7 := Lib.hid hm7
      clear hS hg7 hP hJ
      go_wp2_with (first
        | (refine wpList_load_row rfl 30 _ rfl _ rfl _ (row32 d) _ _ hd7.out Try.underlying30 rfl (by rw [hsd]; exact info_digest) ?_)
        | (refine wpList_store_row rfl 30 _ _ rfl w.heap.size (row32 d) rfl rfl _ _ hr7.out (by rw [hsd]; exact info_digest) (by rw [hsd]; rfl) (row32_one _) ?_))
      refine bodyPost_ret (v := .tuple #[digV d, .int .i64 0]) (results_row_tmp rfl _ _ w.heap.size _ (row32 d) _ _ _ rfl rfl (hr7.out.row _) Try.underlying30 rfl (by rw [hsd]; exact info_digest)) rfl ?_
      rw [e1.out, e2.out, e3.out]
      refine ⟨rfl, ⟨hc7.out.row_far _ ?_, hm7.out.of_block ?_, hS7⟩, grown_row hgw.out (Nat.le_refl _) _⟩
      · have := h.out.cells.lt; omega
      · exact setRow_other _ _ _ _ (by omega)
  | true =>
    have hv1 : v = some (t', n') := hvv.out
    subst hv1
    obtain ⟨hs', hn0, hn1⟩ := hvs.out _ rfl
    have HS' := Lib.hid hs'
    clear hs' hvv hv0
    have hsz' : t'.data.toList.length = t'.size := Array.length_toList
    go_wp2_with fail
    refine (db_Bytes t' _ HS'.out).mono ?_
    rintro e w5 ⟨g5, c5, rfl, hg5, hby5, -, hb5⟩
    have hP := Lib.hid (hS.out.step (hb5.mono hS.out.dd.lt))
    have hHl := hJ.out.lt
    replace hJ := Lib.hid (hJ.out.below hb5 hHl)
    clear hb5 hS a0 a1 j0 j1 hHl
    replace hby5 := Lib.hid hby5
    go_wp2_with fail
    refine (bytes_Equal t'.data.toList t.data.toList _ _ _ _ _ _ _ _ w5 hby5.out (by rw [← hsz]; exact hP.out.txt)).mono ?_
    rintro e _ ⟨rfl, rfl⟩
    have j1 : w5.cell? ⟨Hb, 1, none⟩ = some (.int .i64 n') := hJ.out.cell 1
    clear hby5
    by_cases htt : t'.data.toList = t.data.toList
    · obtain rfl := bytes_ext htt
      rw [decide_eq_true htt]
      by_cases hfull : 4294967295 ≤ n'
      · have e1 : putK m t' (some (t', n')) most = 62 := by simp [putK, hfull]
        have e2 : putX m d t' (some (t', n')) most = zero32 := by simp [putX, e1]
        have e3 : putM m d t' (some (t', n')) most = m := by simp [putM, e1]
        replace e1 := Lib.hid e1
        replace e2 := Lib.hid e2
        replace e3 := Lib.hid e3
        go_wp2_with (refine wpList_store_row rfl 30 _ _ rfl w.heap.size (row32 zero32) rfl rfl _ _ hP.out.r (by rw [row32_size rfl]; exact info_digest) rfl (row32_one _) ?_)
        refine bodyPost_ret (v := .tuple #[digV zero32, .int .i64 62]) (results_row_tmp rfl _ _ w.heap.size _ (row32 zero32) _ _ _ rfl rfl (hP.out.r.row _) Try.underlying30 rfl (by rw [row32_size rfl]; exact info_digest)) rfl ?_
        rw [e1.out, e2.out, e3.out]
        have hbb := below_row hP.out.bel (Nat.le_refl w.heap.size) (row32 zero32)
        exact ⟨rfl, h.out.step hbb, grown_below hbb⟩
      · have e1 : putK m t' (some (t', n')) most = 0 := by simp [putK, hfull]
        have e2 : putX m d t' (some (t', n')) most = d := by simp [putX, e1]
        have e3 : putM m d t' (some (t', n')) most = m.put d (held t' (n' + 1)) := by simp [putM, e1]
        replace e1 := Lib.hid e1
        replace e2 := Lib.hid e2
        replace e3 := Lib.hid e3
        clear htt
        go_wp2_with fail
        clear j1
        refine wp_region_held_drew (S := (PutI w w.heap.size D S b most m g c t' d)) (by kernel_rfl) (by exact hP.out.drew) (fun hS => ?_)
        (refine hTake (i := 0) (v := ?v45) rfl (by kernel_rfl) (by kernel_rfl) (by kernel_rfl) (fun _ _ _ h => h) (Or.inl ⟨by rfl, ?y45⟩) hS ?r45; (case y45 => (intro W hW; (go_simp); (try with_reducible rfl); done)); try simp only [Act.put, List.setIfInBounds_toArray, List.set_cons_zero, List.set_cons_succ])
        (refine hTake (i := 1) (v := ?v46) rfl (by kernel_rfl) (by kernel_rfl) (by kernel_rfl) (fun _ _ _ h => h) (Or.inl ⟨by rfl, ?y46⟩) hS ?r46; (case y46 => (intro W hW; (go_simp); (try with_reducible rfl); done)); try simp only [Act.put, List.setIfInBounds_toArray, List.set_cons_zero, List.set_cons_succ])
        (refine hTake (i := 2) (v := ?v47) rfl (by kernel_rfl) (by kernel_rfl) (by kernel_rfl) (fun _ _ _ h => h) (Or.inl ⟨by rfl, ?y47⟩) hS ?r47; (case y47 => (intro W hW; (go_simp); (try with_reducible rfl); done)); try simp only [Act.put, List.setIfInBounds_toArray, List.set_cons_zero, List.set_cons_succ])
        (refine hTake (i := 3) (v := undef) rfl (by kernel_rfl) (by kernel_rfl) (by kernel_rfl) (fun _ _ _ h => h) (Or.inr ⟨by rfl, rfl⟩) hS ?_; try simp only [Act.put, List.setIfInBounds_toArray, List.set_cons_zero, List.set_cons_succ])
        (refine hTake (i := 4) (v := undef) rfl (by kernel_rfl) (by kernel_rfl) (by kernel_rfl) (fun _ _ _ h => h) (Or.inr ⟨by rfl, rfl⟩) hS ?_; try simp only [Act.put, List.setIfInBounds_toArray, List.set_cons_zero, List.set_cons_succ])
        (refine hTake (i := 5) (v := undef) rfl (by kernel_rfl) (by kernel_rfl) (by kernel_rfl) (fun _ _ _ h => h) (Or.inr ⟨by rfl, rfl⟩) hS ?_; try simp only [Act.put, List.setIfInBounds_toArray, List.set_cons_zero, List.set_cons_succ])
        (refine hTake (i := 6) (v := undef) rfl (by kernel_rfl) (by kernel_rfl) (by kernel_rfl) (fun _ _ _ h => h) (Or.inr ⟨by rfl, rfl⟩) hS ?_; try simp only [Act.put, List.setIfInBounds_toArray, List.set_cons_zero, List.set_cons_succ])
        (refine hTake (i := 7) (v := undef) rfl (by kernel_rfl) (by kernel_rfl) (by kernel_rfl) (fun _ _ _ h => h) (Or.inr ⟨by rfl, rfl⟩) hS ?_; try simp only [Act.put, List.setIfInBounds_toArray, List.set_cons_zero, List.set_cons_succ])
        (refine hTake (i := 8) (v := undef) rfl (by kernel_rfl) (by kernel_rfl) (by kernel_rfl) (fun _ _ _ h => h) (Or.inr ⟨by rfl, rfl⟩) hS ?_; try simp only [Act.put, List.setIfInBounds_toArray, List.set_cons_zero, List.set_cons_succ])
        (refine hTake (i := 9) (v := undef) rfl (by kernel_rfl) (by kernel_rfl) (by kernel_rfl) (fun _ _ _ h => h) (Or.inr ⟨by rfl, rfl⟩) hS ?_; try simp only [Act.put, List.setIfInBounds_toArray, List.set_cons_zero, List.set_cons_succ])
        (refine hTake (i := 10) (v := undef) rfl (by kernel_rfl) (by kernel_rfl) (by kernel_rfl) (fun _ _ _ h => h) (Or.inr ⟨by rfl, rfl⟩) hS ?_; try simp only [Act.put, List.setIfInBounds_toArray, List.set_cons_zero, List.set_cons_succ])
        (refine hTake (i := 11) (v := undef) rfl (by kernel_rfl) (by kernel_rfl) (by kernel_rfl) (fun _ _ _ h => h) (Or.inr ⟨by rfl, rfl⟩) hS ?_; try simp only [Act.put, List.setIfInBounds_toArray, List.set_cons_zero, List.set_cons_succ])
        (refine hTake (i := 12) (v := undef) rfl (by kernel_rfl) (by kernel_rfl) (by kernel_rfl) (fun _ _ _ h => h) (Or.inr ⟨by rfl, rfl⟩) hS ?_; try simp only [Act.put, List.setIfInBounds_toArray, List.set_cons_zero, List.set_cons_succ])
        (refine hTake (i := 13) (v := ?v48) rfl (by kernel_rfl) (by kernel_rfl) (by kernel_rfl) (fun _ _ _ h => h) (Or.inl ⟨by rfl, ?y48⟩) hS ?r48; (case y48 => (intro W hW; (go_simp); (try with_reducible rfl); done)); try simp only [Act.put, List.setIfInBounds_toArray, List.set_cons_zero, List.set_cons_succ])
        (refine hTake (i := 14) (v := ?v49) rfl (by kernel_rfl) (by kernel_rfl) (by kernel_rfl) (fun _ _ _ h => h) (Or.inl ⟨by rfl, ?y49⟩) hS ?r49; (case y49 => (intro W hW; (go_simp); (try with_reducible rfl); done)); try simp only [Act.put, List.setIfInBounds_toArray, List.set_cons_zero, List.set_cons_succ])
        refine wpAnyH_done (by kernel_rfl) ?_ _
        replace hS := Lib.hid hS
        have hJ4 := Lib.hid hJ.out.drew
        clear hP hJ
        generalize w5.drew = w6 at *
        have j1 : w6.cell? ⟨Hb, 1, none⟩ = some (.int .i64 n') := hJ4.out.cell 1
        have k1 := hJ4.out.frozen 1
        go_wp2_with fail
        refine code_at (fun wx => PutI w w.heap.size D S b most m g c t' d wx ∧ Blk wx Hb 73 #[.string t', .int .i64 (n' + 1)]) ⟨?_, ?_⟩ ?_
        · exact hS.out.step ((Below.refl _ _).setCell hJn.out _)
        · (apply Blk.eq; (repeat (first | with_reducible apply Blk.set_ | with_reducible apply Blk.drew | with_reducible exact hJ4.out)); rfl)
        clear hS hJ4 j1 k1
        rintro w7 ⟨hP, hJ⟩
        replace hP := Lib.hid hP
        replace hJ := Lib.hid hJ
        refine wp_region_held_drew (S := (fun wx => Blk wx S 77 #[.int .i64 most, .map (some b)] ∧ Blk wx D 30 (row32 d) ∧ Blk wx Hb 73 #[.string t', .int .i64 (n' + 1)])) (by kernel_rfl) (by exact ⟨hP.out.st.cells.drew, hP.out.dd.drew, hJ.out.drew⟩) (fun hS => ?_)
        (refine hTake (i := 0) (v := ?v50) rfl (by kernel_rfl) (by kernel_rfl) (by kernel_rfl) (fun _ _ _ h => h) (Or.inl ⟨by rfl, ?y50⟩) hS ?r50; (case y50 => (intro W hW; (go_simp); (try with_reducible rfl); done)); try simp only [Act.put, List.setIfInBounds_toArray, List.set_cons_zero, List.set_cons_succ])
        (refine hTake (i := 1) (v := ?v51) rfl (by kernel_rfl) (by kernel_rfl) (by kernel_rfl) (fun _ _ _ h => h) (Or.inl ⟨by rfl, ?y51⟩) hS ?r51; (case y51 => (intro W hW; (go_simp); (try with_reducible rfl); done)); try simp only [Act.put, List.setIfInBounds_toArray, List.set_cons_zero, List.set_cons_succ])
        (refine hTake (i := 2) (v := ?v52) rfl (by kernel_rfl) (by kernel_rfl) (by kernel_rfl) (fun _ _ _ h => h) (Or.inl ⟨by rfl, ?y52⟩) hS ?r52; (case y52 => (intro W hW; (go_simp); (try with_reducible rfl); done)); try simp only [Act.put, List.setIfInBounds_toArray, List.set_cons_zero, List.set_cons_succ])
        (refine hTake (i := 3) (v := ?v53) rfl (by kernel_rfl) (by kernel_rfl) (by kernel_rfl) (fun _ _ _ h => h) (Or.inl ⟨by rfl, ?y53⟩) hS ?r53; (case y53 => (intro W hW; ((have g := hW.1.cell 1; simp at g; go_simp)); (try with_reducible rfl); done)); try simp only [Act.put, List.setIfInBounds_toArray, List.set_cons_zero, List.set_cons_succ])
        (refine hTake (i := 4) rfl (by kernel_rfl) (by kernel_rfl) (by kernel_rfl) (fun _ _ _ h => h) (yieldsIf_load_mid (by rfl) _ _ rfl _ _ rfl (bv d) _ (fun W hW => (hW.2.1.range)) Try.underlying30 rfl (by rw [bv_length, hol]; exact info_digest)) hS ?_; try simp only [Act.put, List.setIfInBounds_toArray, List.set_cons_zero, List.set_cons_succ])
        (refine hTake (i := 5) (v := ?v54) rfl (by kernel_rfl) (by kernel_rfl) (by kernel_rfl) (fun _ _ _ h => h) (Or.inl ⟨by rfl, ?y54⟩) hS ?r54; (case y54 => (intro W hW; ((have g := hW.2.2.cell 0; have g' := hW.2.2.cell 1; simp at g g'; go_simp)); (try with_reducible rfl); done)); try simp only [Act.put, List.setIfInBounds_toArray, List.set_cons_zero, List.set_cons_succ])
        (refine hOne (i := 6) rfl (by kernel_rfl) (fun K hK => ?_))
        rw [if_pos (by rfl)]
        refine wp_update_map _ _ _ 75 rfl _ Try.underlying75 b m rfl hP.out.st.map.drew d hol (held t' (n' + 1)) rfl rfl ?_
        intro w7 hm7 hg7
        have hS7 : S ≠ b := hP.out.st.ne
        have hbl := hP.out.bl
        have hrl := hP.out.rl
        have hrd := hP.out.ne
        have hr7 := hP.out.r.drew.grown hg7 (by omega)
        have hd7 := hP.out.dd.drew.grown hg7 (by omega)
        have hc7 := hP.out.st.cells.drew.grown hg7 hS7
        have hgw := grown_trans hP.out.bel.drew hg7
        (refine hK.out _ _ (by exact ⟨hc7, hd7, hJ.out.drew.grown hg7 (by have := hJn.out; omega)⟩) (fun hS => ?_); clear hK K; try simp only [Act.put, List.setIfInBounds_toArray, List.set_cons_zero, List.set_cons_succ])
        refine wpAnyH_done (by kernel_rfl) ?_ _
        replace hr7 := Lib.hid hr7
        replace hd7 := Lib.hid hd7
        replace hc7 := Lib.hid hc7
        replace hgw := Lib.hid hgw
        replace hm7 := Lib.hid hm7
        clear hS hg7 hP hJ
        go_wp2_with (first
          | (refine wpList_load_row rfl 30 _ rfl _ rfl _ (row32 d) _ _ hd7.out Try.underlying30 rfl (by rw [hsd]; exact info_digest) ?_)
          | (refine wpList_store_row rfl 30 _ _ rfl w.heap.size (row32 d) rfl rfl _ _ hr7.out (by rw [hsd]; exact info_digest) (by rw [hsd]; rfl) (row32_one _) ?_))
        refine bodyPost_ret (v := .tuple #[digV d, .int .i64 0]) (results_row_tmp rfl _ _ w.heap.size _ (row32 d) _ _ _ rfl rfl (hr7.out.row _) Try.underlying30 rfl (by rw [hsd]; exact info_digest)) rfl ?_
        rw [e1.out, e2.out, e3.out]
        refine ⟨rfl, ⟨hc7.out.row_far _ ?_, hm7.out.of_block ?_, hS7⟩, grown_row hgw.out (Nat.le_refl _) _⟩
        · have := h.out.cells.lt; omega
        · exact setRow_other _ _ _ _ (by omega)
    · rw [decide_eq_false htt]
      have e1 : putK m t (some (t', n')) most = 60 := by simp [putK, htt]
      have e2 : putX m d t (some (t', n')) most = zero32 := by simp [putX, e1]
      have e3 : putM m d t (some (t', n')) most = m := by simp [putM, e1]
      replace e1 := Lib.hid e1
      replace e2 := Lib.hid e2
      replace e3 := Lib.hid e3
      clear htt
      go_wp2_with (refine wpList_store_row rfl 30 _ _ rfl w.heap.size (row32 zero32) rfl rfl _ _ hP.out.r (by rw [row32_size rfl]; exact info_digest) rfl (row32_one _) ?_)
      refine bodyPost_ret (v := .tuple #[digV zero32, .int .i64 60]) (results_row_tmp rfl _ _ w.heap.size _ (row32 zero32) _ _ _ rfl rfl (hP.out.r.row _) Try.underlying30 rfl (by rw [row32_size rfl]; exact info_digest)) rfl ?_
      rw [e1.out, e2.out, e3.out]
      have hbb := below_row hP.out.bel (Nat.le_refl w.heap.size) (row32 zero32)
      exact ⟨rfl, h.out.step hbb, grown_below hbb⟩
end Go.Proofs.Ytioanppnkhiokaa
