import Derived.Test.YtioanppnkhiokaaDb1
import Derived.Test.YtioanppnkhiokaaReg
namespace Go.Proofs.Ytioanppnkhiokaa
open Go.RowKit

theorem zero_held (w : World) : (zeroValue 73).run Try.prog w = .ok (held ⟨#[]⟩ 0) w := by kernel_rfl
def heldOf (v : Option (ByteArray × Int)) : Value := held (v.getD (⟨#[]⟩, 0)).1 (v.getD (⟨#[]⟩, 0)).2
theorem told_held {m : Assoc} {d : List UInt8} {v : Option (ByteArray × Int)} (h : m.get d = v.map fun x => held x.1 x.2) : m.told d (held ⟨#[]⟩ 0) = .tuple #[heldOf v, .bool v.isSome] := by
  cases v <;> simp [Assoc.told, h, heldOf]
theorem Blk.range {w : World} {g : Nat} {t : TypeId} {l : List UInt8} (h : Blk w g t (row32 l)) : w.rangeAt g 0 (bv l) := fun j v hv => by
  rw [Nat.zero_add, h.cell j, ← Array.getElem?_toList]
  exact hv
/-- a digest lies in a block of the call's own, beside a store -/
def AtStore (w : World) (D S b : Nat) (most : Int) (m : Assoc) (d : List UInt8) (wr : World) : Prop := Blk wr D 30 (row32 d) ∧ StoreIs wr S b most m ∧ w.heap.size ≤ D ∧ Below w.heap.size w wr
theorem AtStore.alloc {w wr : World} {D S b : Nat} {most : Int} {m : Assoc} {d : List UInt8} (h : AtStore w D S b most m d wr) (o : Obj) : AtStore w D S b most m d (wr.alloc o) :=
  ⟨h.1.alloc o, h.2.1.alloc o, h.2.2.1, h.2.2.2.alloc (Nat.le_of_lt (Nat.lt_of_le_of_lt h.2.2.1 h.1.lt)) o⟩
theorem AtStore.drew {w wr : World} {D S b : Nat} {most : Int} {m : Assoc} {d : List UInt8} (h : AtStore w D S b most m d wr) : AtStore w D S b most m d wr.drew :=
  ⟨h.1.drew, h.2.1.drew, h.2.2.1, h.2.2.2.drew⟩
theorem AtStore.look {w wr : World} {D S b : Nat} {most : Int} {m : Assoc} {d : List UInt8} (h : AtStore w D S b most m d wr) (v : Option (ByteArray × Int)) (hd : d.length = 32) (hv : m.get d = v.map fun x => held x.1 x.2) :
    (Instr.lookup 75 (.map (some b)) (.agg (bv d).toArray) true).run Try.prog wr = .ok (.tuple #[.agg #[.string (v.getD (⟨#[]⟩, 0)).1, .int .i64 (v.getD (⟨#[]⟩, 0)).2], .bool v.isSome]) wr := by
  have := h.2.1.map.lookup Try.underlying75 (zero_held _) d hd
  rw [told_held hv] at this
  exact this
set_option maxRecDepth 100000 in
set_option maxHeartbeats 1000000 in
theorem db_Get (S b : Nat) (most : Int) (m : Assoc) (d : List UInt8) (v : Option (ByteArray × Int)) (w : World) (h : StoreIs w S b most m) (hd : d.length = 32) (hv : m.get d = v.map fun x => held x.1 x.2) :
    Calls Try.prog 14 #[.pointer (some ⟨S, 0, none⟩), .agg (row32 d)] w fun e w' =>
      e = .returned (.tuple #[.string (v.getD (⟨#[]⟩, 0)).1, .int .i64 (v.getD (⟨#[]⟩, 0)).2, .bool v.isSome]) ∧ Below w.heap.size w w' := by
  have hsz := row32_size hd
  have HA := Lib.hid (show AtStore w w.heap.size S b most m d (w.alloc (.cells (row32 d) 30)) from ⟨Blk.new _ _ _, h.alloc _, Nat.le_refl _, (Below.refl _ _).alloc (Nat.le_refl _) _⟩)
  clear h
  have hlk := fun W (hW : AtStore w w.heap.size S b most m d W) => hW.look v hd hv
  clear hv
  generalize v.isSome = is at *
  generalize v.getD (⟨#[]⟩, 0) = vv at *
  obtain ⟨t, n⟩ := vv
  have HL := Lib.hid hlk
  clear hlk
  go_enter Try.func14, Try.ntmps14
  go_wp2_with fail
  refine code_at _ HA.out ?_
  clear HA
  intro w1 ha
  have g1 : w1.cell? ⟨S, 1, none⟩ = some (.map (some b)) := ha.2.1.cells.cell 1
  have hlk := HL.out
  have hB := ha.2.2.2
  have hsz1 := hB.size
  replace ha := Lib.hid ha
  replace hB := Lib.hid hB
  refine wp_region_held_drew (S := (AtStore w w.heap.size S b most m d)) (by kernel_rfl) (by exact ⟨ha.out.1.drew, ha.out.2.1.drew, ha.out.2.2.1, ha.out.2.2.2.drew⟩) (fun hS => ?_)
  (refine hTake (i := 0) (v := ?v1) rfl (by kernel_rfl) (by kernel_rfl) (by kernel_rfl) (fun _ _ _ h => h) (Or.inl ⟨by rfl, ?y1⟩) hS ?r1; (case y1 => (intro W hW; (go_simp); (try with_reducible rfl); done)); try simp only [Act.put, List.setIfInBounds_toArray, List.set_cons_zero, List.set_cons_succ])
  (refine hTake (i := 1) (v := ?v2) rfl (by kernel_rfl) (by kernel_rfl) (by kernel_rfl) (fun _ _ _ h => h) (Or.inl ⟨by rfl, ?y2⟩) hS ?r2; (case y2 => (intro W hW; (go_simp); (try with_reducible rfl); done)); try simp only [Act.put, List.setIfInBounds_toArray, List.set_cons_zero, List.set_cons_succ])
  (refine hTake (i := 2) (v := ?v3) rfl (by kernel_rfl) (by kernel_rfl) (by kernel_rfl) (fun _ _ _ h => h) (Or.inl ⟨by rfl, ?y3⟩) hS ?r3; (case y3 => (intro W hW; (go_simp); (try with_reducible rfl); done)); try simp only [Act.put, List.setIfInBounds_toArray, List.set_cons_zero, List.set_cons_succ])
  (refine hTake (i := 3) (v := ?v4) rfl (by kernel_rfl) (by kernel_rfl) (by kernel_rfl) (fun _ _ _ h => h) (Or.inl ⟨by rfl, ?y4⟩) hS ?r4; (case y4 => (intro W hW; ((have g := hW.2.1.cells.cell 1; simp at g; go_simp)); (try with_reducible rfl); done)); try simp only [Act.put, List.setIfInBounds_toArray, List.set_cons_zero, List.set_cons_succ])
  (refine hTake (i := 4) rfl (by kernel_rfl) (by kernel_rfl) (by kernel_rfl) (fun _ _ _ h => h) (yieldsIf_load_mid (by rfl) _ _ rfl _ _ rfl (bv d) _ (fun W hW => (hW.1.range)) Try.underlying30 rfl (by rw [bv_length, hd]; exact info_digest)) hS ?_; try simp only [Act.put, List.setIfInBounds_toArray, List.set_cons_zero, List.set_cons_succ])
  (refine hTake (i := 5) (v := ?v5) rfl (by kernel_rfl) (by kernel_rfl) (by kernel_rfl) (fun _ _ _ h => h) (Or.inl ⟨by rfl, ?y5⟩) hS ?r5; (case y5 => (intro W hW; ((have g := hlk W hW; go_simp)); (try with_reducible rfl); done)); try simp only [Act.put, List.setIfInBounds_toArray, List.set_cons_zero, List.set_cons_succ])
  (refine hTake (i := 6) (v := ?v6) rfl (by kernel_rfl) (by kernel_rfl) (by kernel_rfl) (fun _ _ _ h => h) (Or.inl ⟨by rfl, ?y6⟩) hS ?r6; (case y6 => (intro W hW; (go_simp); (try with_reducible rfl); done)); try simp only [Act.put, List.setIfInBounds_toArray, List.set_cons_zero, List.set_cons_succ])
  (refine hTake (i := 7) (v := ?v7) rfl (by kernel_rfl) (by kernel_rfl) (by kernel_rfl) (fun _ _ _ h => h) (Or.inl ⟨by rfl, ?y7⟩) hS ?r7; (case y7 => (intro W hW; (go_simp); (try with_reducible rfl); done)); try simp only [Act.put, List.setIfInBounds_toArray, List.set_cons_zero, List.set_cons_succ])
  (refine hTake (i := 8) (v := ?v8) rfl (by kernel_rfl) (by kernel_rfl) (by kernel_rfl) (fun _ _ _ h => h) (Or.inl ⟨by rfl, ?y8⟩) hS ?r8; (case y8 => (intro W hW; (go_simp); (try with_reducible rfl); done)); try simp only [Act.put, List.setIfInBounds_toArray, List.set_cons_zero, List.set_cons_succ])
  (refine hOne (i := 9) rfl (by kernel_rfl) (fun K hK => ?_))
  go_simp
  (refine hK.out _ _ (by exact (ha.out.alloc _).drew) (fun hS => ?_); clear hK K; try simp only [Act.put, List.setIfInBounds_toArray, List.set_cons_zero, List.set_cons_succ])
  (refine hOne (i := 10) rfl (by kernel_rfl) (fun K hK => ?_))
  go_simp
  (refine hK.out _ _ (by exact (ha.out.alloc _).drew) (fun hS => ?_); clear hK K; try simp only [Act.put, List.setIfInBounds_toArray, List.set_cons_zero, List.set_cons_succ])
  (refine hTake (i := 11) (v := ?v9) rfl (by kernel_rfl) (by kernel_rfl) (by kernel_rfl) (fun _ _ _ h => h) (Or.inl ⟨by rfl, ?y9⟩) hS ?r9; (case y9 => (intro W hW; (go_simp); (try with_reducible rfl); done)); try simp only [Act.put, List.setIfInBounds_toArray, List.set_cons_zero, List.set_cons_succ])
  refine wpAnyH_done (by kernel_rfl) ?_ _
  clear hS
  go_wp2_with fail
  go_quiet (fail)
  go_wp2_with fail
  go_ret3
  exact ⟨rfl, below_drewN ((hB.out.alloc hsz1 _).drew) _⟩
end Go.Proofs.Ytioanppnkhiokaa
