/-
  Digests compared.
-/
import Derived.Test.YtahaaeenbahknaaRRRRDgV
import Derived.Maps.Keyed
import Derived.Maps.Own
import Derived.DeepKeys4
import Derived.DeepKeys
namespace Go.Proofs.YtahaaeenbahknaaRRRR
open Go.RowKit

theorem dig_law : Maps.Keyed Try.prog 24 := Maps.Keyed.of_law (deep_law_laid (by kernel_rfl) (m := 2) (by omega) (of_decide_eq_true (by kernel_rfl)) (by kernel_rfl) (by kernel_rfl))
theorem mapM_some {α β : Type} (f : α → Option β) : ∀ l : List α, (∀ x ∈ l, ∃ y, f x = some y) → ∃ ys, l.mapM f = some ys
  | [], _ => ⟨[], rfl⟩
  | x :: r, h => by
    obtain ⟨y, hy⟩ := h x (List.mem_cons_self ..)
    obtain ⟨ys, hys⟩ := mapM_some f r (fun z hz => h z (List.mem_cons_of_mem _ hz))
    exact ⟨y :: ys, by simp [List.mapM_cons, hy, hys]⟩
theorem bv_inj : ∀ {a b : List UInt8}, bv a = bv b → a = b
  | [], [], _ => rfl
  | [], _ :: _, h => by simp [bv] at h
  | _ :: _, [], h => by simp [bv] at h
  | x :: a, y :: b, h => by
    simp only [bv, List.map_cons, List.cons.injEq, Value.int.injEq, true_and] at h
    have hx : x = y := UInt8.toNat_inj.1 (by omega)
    rw [hx, bv_inj (a := a) (b := b) h.2]
theorem digV_inj {a b : List UInt8} (h : digV a = digV b) : a = b := by
  simp only [digV, row32, Value.agg.injEq] at h
  exact bv_inj (by simpa using h)
theorem dig_key (l : List UInt8) (h : l.length = 32) : ∃ k, keyOf Try.prog 24 (digV l) = some k := by
  have hu : Try.prog.underlying 24 = some (.array 32 5) := Try.underlying24
  have he : Try.prog.underlying 5 = some (.int .u8) := Try.underlying5
  have hk : Try.prog.keyType 24 = true := by kernel_rfl
  have hc : Try.prog.cellsOf 24 = 32 := by kernel_rfl
  have hc1 : Try.prog.cellsOf 5 = 1 := by kernel_rfl
  obtain ⟨s, hs⟩ : ∃ s, Try.prog.types.size = s + 1 := ⟨Try.prog.types.size - 1, by kernel_rfl⟩
  have hf : (digV l).formed Try.prog 24 = true := by simp [digV, Value.formed, hu, hc, row32_size h]
  unfold keyOf
  simp only [hu, hk, hf, Bool.and_self, if_true]
  have hl : ∃ ls, Try.prog.keyLits (Try.prog.types.size + 1) 24 (digV l).cells.toList = some ls := by
    have hz : (digV l).cells.toList = bv l := by simp [digV, Value.cells, row32]
    rw [hz]
    unfold Program.keyLits
    simp only [hu, bv_length, h, hc, if_true]
    have := mapM_some (fun i => Try.prog.keyLits Try.prog.types.size 5 (((bv l).drop (i * Try.prog.cellsOf 5)).take (Try.prog.cellsOf 5))) (List.range 32) (fun i hi => by
      have hi := List.mem_range.1 hi
      rw [hs, hc1, Nat.mul_one]
      have hd : ((bv l).drop i).take 1 = [.int .u8 (l[i].toNat : Int)] := by
        rw [List.drop_eq_getElem_cons (by rw [bv_length]; omega)]
        simp [bv]
      rw [hd]
      unfold Program.keyLits
      simp only [he]
      have := l[i].toNat_lt
      exact ⟨_, if_pos ⟨trivial, by simp [Lit.wf, IntKind.min, IntKind.max, IntKind.signed, IntKind.bits]; omega⟩⟩)
    obtain ⟨ys, hys⟩ := this
    exact ⟨ys.flatten, by rw [hys]; rfl⟩
  obtain ⟨ls, hls⟩ := hl
  exact ⟨_, by rw [hls]; rfl⟩

set_option maxRecDepth 100000 in
theorem run_equal_dig (a b : List UInt8) (ha : a.length = 32) (hb : b.length = 32) (w : World) : (Op.equal 24 (.agg (row32 a)) (.agg (row32 b))).run Try.prog w = .ok (decide (a = b)) w := by
  obtain ⟨la, hla⟩ := dig_key a ha
  obtain ⟨lb, hlb⟩ := dig_key b hb
  obtain ⟨r, hr, hiff⟩ := run_equal_deep (P := Try.prog) w (m := 2) (by omega) (k := 24) (by kernel_rfl) (by kernel_rfl) hla hlb
  unfold digV at hr
  rw [hr]
  congr 1
  rw [Bool.eq_iff_iff, hiff, decide_eq_true_eq]
  constructor
  · intro e
    subst e
    exact digV_inj (dig_law.inj hla hlb)
  · intro e
    subst e
    rw [hla] at hlb
    exact Option.some.inj hlb
theorem run_eql_dig (a b : List UInt8) (ha : a.length = 32) (hb : b.length = 32) (w : World) : (binOp .eql 24 (.agg (row32 a)) (.agg (row32 b))).run Try.prog w = .ok (.bool (decide (a = b))) w := by
  simp [binOp, run_equal_dig a b ha hb]

end Go.Proofs.YtahaaeenbahknaaRRRR
