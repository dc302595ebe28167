import Derived.Test.YtioanppnkhiokaaDig3
import Derived.Lib.AppendZeros
namespace Go.Proofs.Ytioanppnkhiokaa
open Go.RowKit

/-- cells with bytes laid over them from a place on -/
def putAt (cs : Array Value) (off : Nat) (l : List UInt8) : Array Value := (cs.toList.take off ++ bv l ++ cs.toList.drop (off + l.length)).toArray
theorem putAt_size (cs : Array Value) (off : Nat) (l : List UInt8) (h : off + l.length ≤ cs.size) : (putAt cs off l).size = cs.size := by
  have := bv_length l
  simp [putAt]; omega
theorem putAt_nil (cs : Array Value) (off : Nat) : putAt cs off [] = cs := by simp [putAt, bv]
theorem putAt_snoc (cs : Array Value) (off k : Nat) (l : List UInt8) (hk : k < l.length) (h : off + l.length ≤ cs.size) :
    (putAt cs off (l.take k)).setIfInBounds (off + k) (.int .u8 (l[k].toNat : Int)) = putAt cs off (l.take (k + 1)) := by
  apply Array.ext'
  have h1 : (l.take k).length = k := by rw [List.length_take]; omega
  have h2 : (l.take (k + 1)).length = k + 1 := by rw [List.length_take]; omega
  simp only [putAt, Array.toList_setIfInBounds, h1, h2]
  rw [List.append_assoc, List.set_append_right _ _ (by rw [List.length_take, Array.length_toList]; omega)]
  rw [show off + k - (cs.toList.take off).length = k by rw [List.length_take, Array.length_toList]; omega]
  rw [List.set_append_right _ _ (by rw [bv_length]; omega)]
  rw [bv_length, h1, Nat.sub_self]
  have h3 : cs.toList.drop (off + k) = cs[off + k] :: cs.toList.drop (off + (k + 1)) := by
    rw [List.drop_eq_getElem_cons (by simp; omega)]; rfl
  rw [h3, List.set_cons_zero, List.take_succ_eq_append_getElem hk, bv_append]
  simp [bv]
theorem putAt_at (cs : Array Value) (off j : Nat) (l : List UInt8) (h : off + l.length ≤ cs.size) (hj : j < cs.size) : ∃ v, (putAt cs off l)[j]? = some v :=
  ⟨_, Array.getElem?_eq_getElem (by rw [putAt_size _ _ _ h]; exact hj)⟩

theorem Dig.byte_of (x : UInt64) (k : Nat) (h : k < 8) : (Dig.bytes8 x)[k]'(by rw [Dig.bytes8_length]; exact h) = UInt8.ofNat ((x >>> (UInt64.ofNat (56 - 8 * k))).toNat) := by simp [Dig.bytes8]
theorem Dig.shr_byte (x : UInt64) (k : Nat) (h : k < 8) : Dig.v x / 2 ^ (56 - 8 * k) % 256 = (((Dig.bytes8 x)[k]'(by rw [Dig.bytes8_length]; exact h)).toNat : Int) := by
  rw [Dig.byte_of x k h]
  have e : (UInt64.ofNat (56 - 8 * k)).toNat % 64 = 56 - 8 * k := by simp; omega
  rw [UInt64.toNat_shiftRight, Nat.shiftRight_eq_div_pow, e]
  unfold Dig.v
  rw [show ((2 : Int) ^ (56 - 8 * k)) = ((2 ^ (56 - 8 * k) : Nat) : Int) by simp]
  simp

def Laid (w : World) (g off : Nat) (t : TypeId) (cs : Array Value) (l : List UInt8) (k : Nat) (wr : World) : Prop := Blk wr g t (putAt cs off (l.take k)) ∧ w.grownBy wr (some g)
theorem grown_set {w wr : World} {g i : Nat} {u : Value} (h : w.grownBy wr (some g)) : w.grownBy (wr.setCell ⟨g, i, none⟩ u) (some g) :=
  ⟨h.os, h.tape, h.output, by rw [size_set]; exact h.size, fun k hk hne => by
    rw [Below.heap_setCell _ _ _ _ (fun e => hne (by rw [e]))]; exact h.block k hk hne⟩
set_option maxHeartbeats 1000000 in
theorem dig_lay (x : UInt64) (g off n c : Nat) (t : TypeId) (cs : Array Value) (w : World) (hg : Blk w g t cs) (hs : off + 8 ≤ cs.size) (hn : 8 ≤ n) :
    Calls Try.prog 48 #[.slice (some ⟨g, off, none⟩) n c, .int .u64 (Dig.v x)] w fun e w' => e = .returned (.tuple #[]) ∧
      Blk w' g t (putAt cs off (Dig.bytes8 x)) ∧ w.grownBy w' (some g) := by
  have h8 := Dig.bytes8_length x
  go_enter Try.func48, Try.ntmps48
  go_wp2_with fail
  go_loopw [5] (fun i wr => ∃ k : Nat, k ≤ 8 ∧ i = .int .i64 k ∧ Laid w g off t cs (Dig.bytes8 x) k wr) (fun i _ => 8 - (intOf i).toNat)
  case atStart => exact ⟨0, Nat.zero_le _, rfl, by rw [List.take_zero, putAt_nil]; exact hg, World.grownBy.refl w _⟩
  case round =>
    obtain ⟨k, hk, rfl, hb, hgr⟩ := hrel
    by_cases hlt : k < 8
    · obtain ⟨v0, hv⟩ := putAt_at cs off (off + k) ((Dig.bytes8 x).take k) (by rw [List.length_take]; omega) (by omega)
      have c0 := (hb.cell (off + k)).trans hv
      have f0 := hb.frozen (off + k)
      have hlt' : (k : Int) < (n : Int) := by omega
      have hN := hb.set_ (off + k) (.int .u8 (((Dig.bytes8 x)[k]'(by omega)).toNat : Int))
      rw [putAt_snoc cs off k _ (by omega) (by omega)] at hN
      have hG := grown_set (i := off + k) (u := .int .u8 (((Dig.bytes8 x)[k]'(by omega)).toNat : Int)) hgr
      replace hN := Lib.hid hN
      replace hG := Lib.hid hG
      clear hb hgr hv
      go_wp2_with fail
      rw [Dig.shr_byte x k hlt]
      refine ⟨⟨k + 1, by omega, by go_num, hN.out, hG.out⟩, ?_⟩
      simp [intOf]; omega
    · obtain rfl : k = 8 := by omega
      go_wp2_with fail
      go_end0
      refine ⟨rfl, ?_, hgr⟩
      rw [List.take_of_length_le (by omega)] at hb
      exact hb

/-- 'append(b, make([]byte, k)...)' onto bytes of the call's own -/
theorem zero_cells (k : Nat) : (Builtin.zeroCells (Value.int .u8 0).cells k).toList = bv (List.replicate k 0) := by
  apply List.ext_getElem
  · simp [Builtin.zeroCells, bv, Value.cells]
  · intro i h1 h2
    simp [Builtin.zeroCells, bv, Value.cells, Nat.mod_one]
set_option maxRecDepth 100000 in
theorem run_append_zeros_u8 (ty : TypeId) (w : World) (base g n c k : Nat) (xs : List UInt8) (hk : 0 < k) (hown : w.ownsRow base 5 1 (.slice (some ⟨g, 0, none⟩) n c) n (bv xs))
    (hlim : n + k ≤ 140737488355328) (hbase : base ≤ w.heap.size) :
    ∃ g' c' w', (Builtin.append_ #[26, 3] ty #[.slice (some ⟨g, 0, none⟩) n c, .int .i64 k]).run Try.prog w = .ok (.slice (some ⟨g', 0, none⟩) (n + k) c') w' ∧
      w'.ownsRow base 5 1 (.slice (some ⟨g', 0, none⟩) (n + k) c') (n + k) (bv (xs ++ List.replicate k 0)) ∧ base ≤ g' ∧ Below base w w' := by
  obtain ⟨i, hi, hz, hsz, hby⟩ := info_parts info_u8
  have ht : Try.prog.underlying 26 = some (.slice 5) := Try.underlying26
  have htn : Try.prog.underlying 3 = some (.int .i64) := Try.underlying3
  have hw : IntKind.i64.wrap (k : Int) = k := by rw [IntKind.wrap_i64]; omega
  have hk0 : k ≠ 0 := by omega
  have hneg : ¬ ((k : Int) < 0) := by omega
  have h48i : ¬ (281474976710656 < (k : Int)) := by omega
  have hxl : (bv xs).length = n := by have := hown.1; rwa [Nat.mul_one] at this
  have hrl : (bv (List.replicate k 0)).length = k := by rw [bv_length, List.length_replicate]
  rcases hown.2 with ⟨h, _⟩ | ⟨g0, cap, cur, hv, hbg, hg, hnc, hcm, hcs, htake⟩
  · cases h
  · simp only [Value.slice.injEq, Option.some.injEq, Addr.mk.injEq] at hv
    obtain ⟨⟨rfl, _⟩, _, rfl⟩ := hv
    rw [Nat.mul_one] at hcs htake
    rw [bv_append]
    have hall : (bv xs ++ bv (List.replicate k 0)).length = n + k := by rw [List.length_append, hxl, hrl]
    by_cases hroom : n + k ≤ c
    · have hst := run_storeCells_at Try.prog g n 5 (bv (List.replicate k 0)) 0 cur w hg (by omega) (bv_one _)
      simp only [Nat.add_zero] at hst
      refine ⟨g, c, w.setRow g (cur.toList.take n ++ bv (List.replicate k 0) ++ cur.toList.drop (n + (bv (List.replicate k 0)).length)).toArray, by simp [Builtin.append_, run_underlying ht, run_underlying htn, sizeOf, typeInfo, zeroValue, hi, hz, hsz, hby, asInt, asIntOf, hw, hk0, hneg, h48i, hroom, Addr.add_lit, zero_cells, hst], ?_, hbg, ?_⟩
      · refine ⟨by rw [hall, Nat.mul_one], .inr ⟨g, c, _, rfl, hbg, setRow_heap w g cur _ 5 _ hg, hroom, hcm, ?_, ?_⟩⟩
        · simp only [List.size_toArray, List.length_append, List.length_take, List.length_drop, Array.length_toList, hrl]; omega
        · rw [htake, Nat.mul_one, ← hall]; exact List.take_left
      · exact ⟨rfl, rfl, rfl, by simp, fun j hj => setRow_other w g j _ (by omega)⟩
    · have hf := run_firstCells_some (P := Try.prog) w.drew 1 n ⟨g, 0, none⟩ n c (bv xs) (by rw [hxl, Nat.mul_one]) (by simpa using hown.cells (g := g) rfl)
      have h63' : ¬ (9223372036854775807 < ((n : Int) + (k : Int))) := by omega
      have h48' : ¬ (281474976710656 < Builtin.nextslicecap (n + k) c) := by
        have := growslice_fits (bytes := 1) (need := n + k) (old := c) (by omega) (by omega)
        omega
      have hge := grownCap_ge w (n + k) c 5
      have hcm' : grownCap w (n + k) c 5 ≤ maxLen := grownCap_le_maxLen w (n + k) c _ (by unfold maxLen; omega)
      refine ⟨w.heap.size, grownCap w (n + k) c 5, w.drew.alloc (.cells ((bv xs ++ bv (List.replicate k 0)).toArray ++ Builtin.zeroCells (Value.int .u8 0).cells (grownCap w (n + k) c 5 - (n + k))) 5), ?_, ?_, hbase, ?_⟩
      · simp [Builtin.append_, run_underlying ht, run_underlying htn, sizeOf, typeInfo, zeroValue, hi, hz, hsz, hby, asInt, asIntOf, hw, hk0, hneg, h48i, hroom, h63', h48', Question.forced, hf, newRow, grownCap]
        congr 2
        apply Array.ext'
        simp [zero_cells]
      · refine ⟨by rw [hall, Nat.mul_one], .inr ⟨w.heap.size, _, _, rfl, hbase, heap_alloc_new w.drew _, hge, hcm', ?_, ?_⟩⟩
        · simp only [Array.size_append, List.size_toArray, hall, size_zeroCells]
          show n + k + (grownCap w (n + k) c 5 - (n + k)) * 1 = _
          omega
        · simp only [Array.toList_append, Nat.mul_one]
          rw [← hall]
          exact List.take_left
      · exact ⟨rfl, rfl, rfl, by simp, fun j hj => Below.heap_alloc w.drew _ j (by show j < w.heap.size; omega)⟩
end Go.Proofs.Ytioanppnkhiokaa
